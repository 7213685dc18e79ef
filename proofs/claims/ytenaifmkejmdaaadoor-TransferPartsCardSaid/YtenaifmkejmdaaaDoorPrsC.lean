/- The program: Parse, what it steps through in plain words. -/
import Derived.Test.YtenaifmkejmdaaaDoorRdI
namespace Go.Proofs.YtenaifmkejmdaaaDoor
open Go.RowKit

def prsQ (text : ByteArray) (w : World) (e : Ending) (w' : World) : Prop := ∃ v, e = .returned (.tuple #[tlV (parseF text).1 v, .int .i64 (parseF text).2.1, .int .i64 (parseF text).2.2]) ∧ OwnRep 7 (flat Item.enc) 41 w.heap.size w' (parseF text).1.items v ∧ Below w.heap.size w w'
theorem prs_none {text : ByteArray} {i e : Int} {w w' : World} (h : parseF text = (zTL, i, e)) (hb : Below w.heap.size w w') : prsQ text w (.returned (.tuple #[.agg #[.int .i64 0, .int .i64 0, .int .i64 0, .slice none 0 0], .int .i64 i, .int .i64 e])) w' := by
  refine ⟨.slice none 0 0, ?_, ?_, hb⟩
  · rw [h]; rfl
  · rw [h]; exact OwnRep.nil_
theorem prs_some {text : ByteArray} {l : TL} {v : Value} {w w' : World} (h : parseF text = (l, 0, 0)) (ho : OwnRep 7 (flat Item.enc) 41 w.heap.size w' l.items v) (hb : Below w.heap.size w w') : prsQ text w (.returned (.tuple #[tlV l v, .int .i64 0, .int .i64 0])) w' := by
  refine ⟨v, ?_, ?_, hb⟩
  · rw [h]
  · rw [h]; exact ho
theorem jn_le (c : UInt8) : ∀ (L : List (List UInt8)) (x : List UInt8), x ∈ L → x.length ≤ (jn c L).length
  | [], x, h => by simp at h
  | [t], x, h => by simp at h; subst h; exact Nat.le_refl _
  | s :: t :: r, x, h => by
    have ih := jn_le c (t :: r) x
    rw [jn_cons c s (by simp), List.length_append, List.length_cons]
    rcases List.mem_cons.1 h with rfl | h
    · omega
    · have := ih h; omega
theorem splB_size {c : UInt8} {s x : ByteArray} (h : x ∈ splB c s) : x.size ≤ s.size := by
  have h1 : x.data.toList ∈ splG c [] s.data.toList := by rw [← splB_is]; exact List.mem_map.2 ⟨x, h, rfl⟩
  have h2 := jn_le c _ _ h1
  rw [jn_splG, List.nil_append] at h2
  rwa [Array.length_toList, Array.length_toList] at h2
theorem splBN_size {c : UInt8} {n : Nat} {s x : ByteArray} (h : x ∈ splBN c n s) : x.size ≤ s.size := by
  have h1 : x.data.toList ∈ splN c n [] s.data.toList := by rw [← splBN_is]; exact List.mem_map.2 ⟨x, h, rfl⟩
  have h2 := jn_le c _ _ h1
  rw [jn_splN, List.nil_append] at h2
  rwa [Array.length_toList, Array.length_toList] at h2
theorem splB_ne (c : UInt8) (s : ByteArray) : ∃ p r, splB c s = p :: r := by
  cases h : splB c s with
  | nil => have := splB_len c s; rw [h] at this; simp at this
  | cons p r => exact ⟨p, r, rfl⟩
abbrev bList : ByteArray := ⟨#[108, 105, 115, 116]⟩
theorem headO_is {s p : ByteArray} {r : List ByteArray} (h : splB 32 s = p :: r) : headO s.data.toList = if p = bList then (match numsO (r.map fun x => x.data.toList) with
    | some [a, b, c] => some ((a : Int), (b : Int), (c : Int))
    | _ => none) else none := by
  unfold headO
  rw [← splB_is, h, List.map_cons]
  by_cases hp : p = bList
  · rw [if_pos hp]
    simp only
    rw [if_pos (show p.data.toList = wList from bs_is.2 hp)]
    generalize numsO (r.map fun x => x.data.toList) = o
    rcases o with _ | (_ | ⟨a, _ | ⟨b, _ | ⟨c, _ | _⟩⟩⟩) <;> rfl
  · rw [if_neg hp]
    simp only
    rw [if_neg (show ¬ p.data.toList = wList from fun e => hp (bs_is.1 e))]
theorem headO_word {s p : ByteArray} {r : List ByteArray} (h : splB 32 s = p :: r) (hp : p ≠ bList) : headO s.data.toList = none := by rw [headO_is h, if_neg hp]
theorem headO_nums {s p : ByteArray} {r : List ByteArray} (h : splB 32 s = p :: r) (hn : numsO (r.map fun x => x.data.toList) = none) : headO s.data.toList = none := by
  rw [headO_is h, hn]
  split <;> rfl
theorem headO_len {s p : ByteArray} {r : List ByteArray} (h : splB 32 s = p :: r) (hn : r.length ≠ 3) : headO s.data.toList = none := by
  rw [headO_is h]
  split
  · split
    · rename_i a b c hh
      have := numsO_len hh
      rw [List.length_map] at this
      exact absurd this.symm hn
    · rfl
  · rfl
theorem list3 {α : Type} {l : List α} (h : l.length = 3) : ∃ a b c, l = [a, b, c] := by
  match l, h with
  | [a, b, c], _ => exact ⟨_, _, _, rfl⟩
theorem headO_yes {s : ByteArray} {r : List ByteArray} {a b c : Nat} (h : splB 32 s = bList :: r) (hn : numsO (r.map fun x => x.data.toList) = some [a, b, c]) : headO s.data.toList = some ((a : Int), (b : Int), (c : Int)) := by rw [headO_is h, if_pos rfl, hn]
/-- the list in its block, the block of the result, the lines -/
structure PrsAt (w : World) (g : Nat) (ts : List ByteArray) (n : Nat) (z : TL) (u : Value) (k : Nat) (l : TL) (v : Value) (wr : World) : Prop where
  below : Below w.heap.size w wr
  at_ : g = w.heap.size + 2
  size : g < wr.heap.size
  res : wr.heap[w.heap.size]? = some (tlC z u)
  lst : wr.heap[w.heap.size + 1]? = some (tlC l v)
  lines : SlRep 1 (flat strEnc) wr (fun b => b = g) ts (.slice (some ⟨g, 0, none⟩) n n)
  own : OwnRep 7 (flat Item.enc) 41 (g + 1) wr l.items v
  len : l.items.length ≤ k
theorem PrsAt.but {w : World} {g : Nat} {ts : List ByteArray} {n : Nat} {z : TL} {u : Value} {k k' : Nat} {l l' : TL} {v : Value} {W W' : World} (h : PrsAt w g ts n z u k l v W) (hb : But (w.heap.size + 1) W W') (hl : W'.heap[w.heap.size + 1]? = some (tlC l' v)) (hi : l'.items = l.items) (hk : k ≤ k') : PrsAt w g ts n z u k' l' v W' := by
  have h1 := h.at_
  have h2 := h.size
  refine ⟨h.below.trans (hb.below.mono (Nat.le_succ _)), h1, Nat.lt_of_lt_of_le h2 hb.below.size, (hb.same _ (by omega) (by omega)).trans h.res, hl, h.lines.frame strS (fun b hb' => ?_), ?_, by rw [hi]; exact Nat.le_trans h.len hk⟩
  · have : b = g := hb'
    exact hb.same b (by omega) (by omega)
  · rw [hi]
    refine h.own.keep (fun b hb' => ?_)
    have := h.own.own_lt b hb'
    exact hb.same b this.2 (by omega)
theorem PrsAt.next {w : World} {g : Nat} {ts : List ByteArray} {n : Nat} {z : TL} {u : Value} {k : Nat} {l : TL} {v : Value} {W W' : World} (h : PrsAt w g ts n z u k l v W) (hb : Below W.heap.size W W') : PrsAt w g ts n z u k l v W' := by
  have h1 := h.at_
  have h2 := h.size
  exact h.but ((But.refl_ _ _).next (by omega) hb) ((hb.block _ (by omega)).trans h.lst) rfl (Nat.le_refl _)
/-- an item appended, and the new slice stored in the list -/
theorem PrsAt.app {w : World} {g : Nat} {ts : List ByteArray} {n : Nat} {z : TL} {u : Value} {k : Nat} {l : TL} {v v' : Value} {x : Item} {W W' : World} (h : PrsAt w g ts n z u k l v W) (hg : W.grownBy W' v.ownBlock) (ho : OwnRep 7 (flat Item.enc) 41 (g + 1) W' (l.items ++ [x]) v') : PrsAt w g ts n z u (k + 1) ⟨l.id, l.office, l.day, l.items ++ [x]⟩ v' (W'.setCell ⟨w.heap.size + 1, 3, none⟩ v') := by
  have h1 := h.at_
  have h2 := h.size
  have hne : ∀ b, b < g + 1 → some b ≠ v.ownBlock := fun b hb e => by have := h.own.own_lt b e.symm; omega
  have hs := hg.size
  have hb : Below w.heap.size w W' := h.below.grown hg (by omega) (fun b hb => by have := h.own.own_lt b hb; omega)
  have hl : W'.heap[w.heap.size + 1]? = some (tlC l v) := (hg.block _ (by omega) (hne _ (by omega))).trans h.lst
  refine ⟨hb.setCell (p := ⟨w.heap.size + 1, 3, none⟩) (Nat.le_succ _) _, h1, by simp [World.setCell]; omega, ?_, put_at hl 3 _ _ rfl, h.lines.frame strS (fun b hb' => ?_), ?_, by simp; exact h.len⟩
  · rw [Below.heap_setCell _ _ _ _ (by show w.heap.size ≠ w.heap.size + 1; omega)]
    exact (hg.block _ (by omega) (hne _ (by omega))).trans h.res
  · have : b = g := hb'
    rw [Below.heap_setCell _ _ _ _ (by show b ≠ w.heap.size + 1; omega)]
    exact hg.block _ (by omega) (hne _ (by omega))
  · refine ho.keep (fun b hb' => Below.heap_setCell _ _ _ _ ?_)
    have := ho.own_lt b hb'
    show b ≠ w.heap.size + 1
    omega
/-- the list's own slice, as it is behind an append -/
theorem PrsAt.old {w : World} {g : Nat} {ts : List ByteArray} {n : Nat} {z : TL} {u : Value} {k : Nat} {l : TL} {v : Value} {W W' : World} (h : PrsAt w g ts n z u k l v W) (hg : W.grownBy W' v.ownBlock) : W'.cell? ⟨w.heap.size + 1, 3, none⟩ = some v ∧ W'.frozen? ⟨w.heap.size + 1, 3, none⟩ = false ∧ w.heap.size + 1 < W'.heap.size := by
  have h1 := h.at_
  have h2 := h.size
  have hl : W'.heap[w.heap.size + 1]? = some (tlC l v) := (hg.block _ (by omega) (fun e => by have := h.own.own_lt _ e.symm; omega)).trans h.lst
  exact ⟨by rw [Lib.cell_of_heap hl]; rfl, Lib.frozen_of_heap hl 3, heap_ltA hl⟩
theorem PrsAt.done {w : World} {g : Nat} {ts : List ByteArray} {n : Nat} {z : TL} {u : Value} {k : Nat} {l : TL} {v : Value} {W : World} {text : ByteArray} (h : PrsAt w g ts n z u k l v W) (hp : parseF text = (l, 0, 0)) : prsQ text w (.returned (.tuple #[tlV l v, .int .i64 0, .int .i64 0])) (pT4 W w.heap.size l v) := by
  have h1 := h.at_
  refine prs_some hp ((h.own.keep (fun b hb => ?_)).base_le (by omega)) (pT_below l v h.below (Nat.le_refl _))
  have := h.own.own_lt b hb
  exact pT_off l v (by omega)
theorem tl_cells {W : World} {b : Nat} {l : TL} {v : Value} (h : W.heap[b]? = some (tlC l v)) : W.cell? ⟨b, 0, none⟩ = some (.int .i64 l.id) ∧ W.cell? ⟨b, 1, none⟩ = some (.int .i64 l.office) ∧ W.cell? ⟨b, 2, none⟩ = some (.int .i64 l.day) ∧ W.cell? ⟨b, 3, none⟩ = some v ∧ W.frozen? ⟨b, 3, none⟩ = false ∧ b < W.heap.size :=
  ⟨by rw [Lib.cell_of_heap h]; rfl, by rw [Lib.cell_of_heap h]; rfl, by rw [Lib.cell_of_heap h]; rfl, by rw [Lib.cell_of_heap h]; rfl, Lib.frozen_of_heap h 3, heap_ltA h⟩
abbrev tlZ : Obj := .cells #[.int .i64 0, .int .i64 0, .int .i64 0, .slice none 0 0] 24
abbrev prsW (w : World) : World := (w.alloc tlZ).alloc tlZ
theorem prsW_at (w : World) : (prsW w).heap[w.heap.size]? = some (tlC zTL (.slice none 0 0)) ∧ (prsW w).heap[w.heap.size + 1]? = some (tlC zTL (.slice none 0 0)) ∧ (prsW w).heap.size = w.heap.size + 2 := by
  refine ⟨(Below.heap_alloc _ _ _ (by simp)).trans (heap_newA w _), ?_, by simp⟩
  have := heap_newA (w.alloc tlZ) tlZ
  rwa [show (w.alloc tlZ).heap.size = w.heap.size + 1 by simp] at this
/-- all that the store of the empty list into the result wants, and what it leaves -/
theorem prs_zero {W : World} {b : Nat} {z : TL} {u : Value} {B : Nat} {w0 : World} (h : W.heap[b]? = some (tlC z u)) (hb : Below B w0 W) (hB : B ≤ b) :
    (W.cell? ⟨b, 0, none⟩ = some (.int .i64 z.id) ∧ W.frozen? ⟨b, 0, none⟩ = false ∧ (W.setCell ⟨b, 0, none⟩ (.int .i64 0)).cell? ⟨b, 1, none⟩ = some (.int .i64 z.office) ∧ (W.setCell ⟨b, 0, none⟩ (.int .i64 0)).frozen? ⟨b, 1, none⟩ = false ∧ ((W.setCell ⟨b, 0, none⟩ (.int .i64 0)).setCell ⟨b, 1, none⟩ (.int .i64 0)).cell? ⟨b, 2, none⟩ = some (.int .i64 z.day) ∧ ((W.setCell ⟨b, 0, none⟩ (.int .i64 0)).setCell ⟨b, 1, none⟩ (.int .i64 0)).frozen? ⟨b, 2, none⟩ = false ∧ (((W.setCell ⟨b, 0, none⟩ (.int .i64 0)).setCell ⟨b, 1, none⟩ (.int .i64 0)).setCell ⟨b, 2, none⟩ (.int .i64 0)).cell? ⟨b, 3, none⟩ = some u ∧ (((W.setCell ⟨b, 0, none⟩ (.int .i64 0)).setCell ⟨b, 1, none⟩ (.int .i64 0)).setCell ⟨b, 2, none⟩ (.int .i64 0)).frozen? ⟨b, 3, none⟩ = false) ∧
    ((((W.setCell ⟨b, 0, none⟩ (.int .i64 0)).setCell ⟨b, 1, none⟩ (.int .i64 0)).setCell ⟨b, 2, none⟩ (.int .i64 0)).setCell ⟨b, 3, none⟩ (.slice none 0 0)).cell? ⟨b, 0, none⟩ = some (.int .i64 0) ∧ ((((W.setCell ⟨b, 0, none⟩ (.int .i64 0)).setCell ⟨b, 1, none⟩ (.int .i64 0)).setCell ⟨b, 2, none⟩ (.int .i64 0)).setCell ⟨b, 3, none⟩ (.slice none 0 0)).cell? ⟨b, 1, none⟩ = some (.int .i64 0) ∧ ((((W.setCell ⟨b, 0, none⟩ (.int .i64 0)).setCell ⟨b, 1, none⟩ (.int .i64 0)).setCell ⟨b, 2, none⟩ (.int .i64 0)).setCell ⟨b, 3, none⟩ (.slice none 0 0)).cell? ⟨b, 2, none⟩ = some (.int .i64 0) ∧ ((((W.setCell ⟨b, 0, none⟩ (.int .i64 0)).setCell ⟨b, 1, none⟩ (.int .i64 0)).setCell ⟨b, 2, none⟩ (.int .i64 0)).setCell ⟨b, 3, none⟩ (.slice none 0 0)).cell? ⟨b, 3, none⟩ = some (.slice none 0 0) ∧
    Below B w0 ((((W.setCell ⟨b, 0, none⟩ (.int .i64 0)).setCell ⟨b, 1, none⟩ (.int .i64 0)).setCell ⟨b, 2, none⟩ (.int .i64 0)).setCell ⟨b, 3, none⟩ (.slice none 0 0)) := by
  obtain ⟨⟨a1, a2, a3, a4, a5, a6, a7, a8⟩, b1, b2, b3, b4⟩ := pT_facts (y := z) (u := u) (⟨0, 0, 0, []⟩ : TL) (.slice none 0 0) h
  exact ⟨⟨a1, a2, a3, a4, a5, a6, a7, a8⟩, b1, b2, b3, b4, pT_below (⟨0, 0, 0, []⟩ : TL) (.slice none 0 0) hb hB⟩
set_option maxRecDepth 100000 in
set_option maxHeartbeats 600000 in
theorem parse_big (text : ByteArray) (w : World) (hs : 65536 < text.size) : Calls Tryd.prog 10 #[.string text] w fun e w' => prsQ text w e w' := by
  have HF := Lib.hid (show parseF text = (zTL, 0, 8) by unfold parseF; rw [if_pos hs])
  have hi : (65536 : Int) < (text.size : Int) := by omega
  have HB := Lib.hid ((Below.refl _ _).alloc (Nat.le_refl _) _ : Below w.heap.size w (w.alloc tlZ))
  clear hs
  go_enter Tryd.func10, Tryd.ntmps10
  go_wp2
  refine bodyPost_ret (v := .tuple #[.agg #[.int .i64 0, .int .i64 0, .int .i64 0, .slice none 0 0], .int .i64 0, .int .i64 8]) (by simp [results, Tryd.results10, go_sem]) rfl (prs_none HF.out HB.out)
end Go.Proofs.YtenaifmkejmdaaaDoor
