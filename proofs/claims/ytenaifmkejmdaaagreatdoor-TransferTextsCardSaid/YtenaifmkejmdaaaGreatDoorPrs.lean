/- The program: Parse. -/
import Derived.Test.YtenaifmkejmdaaaGreatDoorRdI
namespace Go.Proofs.YtenaifmkejmdaaaGreatDoor
open Go.RowKit

def prsQ (text : ByteArray) (w : World) (e : Ending) (w' : World) : Prop := ∃ v, e = .returned (.tuple #[tlV (parseF text).1 v, .int .i64 (parseF text).2.1, .int .i64 (parseF text).2.2]) ∧ OwnRep 7 (flat Item.enc) 47 w.heap.size w' (parseF text).1.items v ∧ Below w.heap.size w w'
theorem prs_none {text : ByteArray} {i e : Int} {w w' : World} (h : parseF text = (zTL, i, e)) (hb : Below w.heap.size w w') : prsQ text w (.returned (.tuple #[.agg #[.int .i64 0, .int .i64 0, .int .i64 0, .slice none 0 0], .int .i64 i, .int .i64 e])) w' := by
  refine ⟨.slice none 0 0, ?_, ?_, hb⟩
  · rw [h]; rfl
  · rw [h]; exact OwnRep.nil_
theorem prs_some {text : ByteArray} {l : TL} {v : Value} {w w' : World} (h : parseF text = (l, 0, 0)) (ho : OwnRep 7 (flat Item.enc) 47 w.heap.size w' l.items v) (hb : Below w.heap.size w w') : prsQ text w (.returned (.tuple #[tlV l v, .int .i64 0, .int .i64 0])) w' := by
  refine ⟨v, ?_, ?_, hb⟩
  · rw [h]
  · rw [h]; exact ho
theorem jn_le (c : UInt8) : ∀ (L : List (List UInt8)) (x : List UInt8), x ∈ L → x.length ≤ (jn c L).length
  | [], x, h => by simp at h
  | [t], x, h => by simp at h; subst h; exact Nat.le_refl _
  | s :: t :: r, x, h => by
    have ih := jn_le c (t :: r) x
    rw [jn_cons c s (by simp), List.length_append, List.length_cons]
    rcases List.mem_cons.1 h with rfl | h
    · omega
    · have := ih h; omega
theorem splB_size {c : UInt8} {s x : ByteArray} (h : x ∈ splB c s) : x.size ≤ s.size := by
  have h1 : x.data.toList ∈ splG c [] s.data.toList := by rw [← splB_is]; exact List.mem_map.2 ⟨x, h, rfl⟩
  have h2 := jn_le c _ _ h1
  rw [jn_splG, List.nil_append] at h2
  rwa [Array.length_toList, Array.length_toList] at h2
theorem splBN_size {c : UInt8} {n : Nat} {s x : ByteArray} (h : x ∈ splBN c n s) : x.size ≤ s.size := by
  have h1 : x.data.toList ∈ splN c n [] s.data.toList := by rw [← splBN_is]; exact List.mem_map.2 ⟨x, h, rfl⟩
  have h2 := jn_le c _ _ h1
  rw [jn_splN, List.nil_append] at h2
  rwa [Array.length_toList, Array.length_toList] at h2
theorem splB_ne (c : UInt8) (s : ByteArray) : ∃ p r, splB c s = p :: r := by
  cases h : splB c s with
  | nil => have := splB_len c s; rw [h] at this; simp at this
  | cons p r => exact ⟨p, r, rfl⟩
abbrev bList : ByteArray := ⟨#[108, 105, 115, 116]⟩
theorem headO_is {s p : ByteArray} {r : List ByteArray} (h : splB 32 s = p :: r) : headO s.data.toList = if p = bList then (match numsO (r.map fun x => x.data.toList) with
    | some [a, b, c] => some ((a : Int), (b : Int), (c : Int))
    | _ => none) else none := by
  unfold headO
  rw [← splB_is, h, List.map_cons]
  by_cases hp : p = bList
  · rw [if_pos hp]
    simp only
    rw [if_pos (show p.data.toList = wList from bs_is.2 hp)]
    generalize numsO (r.map fun x => x.data.toList) = o
    rcases o with _ | (_ | ⟨a, _ | ⟨b, _ | ⟨c, _ | _⟩⟩⟩) <;> rfl
  · rw [if_neg hp]
    simp only
    rw [if_neg (show ¬ p.data.toList = wList from fun e => hp (bs_is.1 e))]
theorem headO_word {s p : ByteArray} {r : List ByteArray} (h : splB 32 s = p :: r) (hp : p ≠ bList) : headO s.data.toList = none := by rw [headO_is h, if_neg hp]
theorem headO_nums {s p : ByteArray} {r : List ByteArray} (h : splB 32 s = p :: r) (hn : numsO (r.map fun x => x.data.toList) = none) : headO s.data.toList = none := by
  rw [headO_is h, hn]
  split <;> rfl
theorem headO_len {s p : ByteArray} {r : List ByteArray} (h : splB 32 s = p :: r) (hn : r.length ≠ 3) : headO s.data.toList = none := by
  rw [headO_is h]
  split
  · split
    · rename_i a b c hh
      have := numsO_len hh
      rw [List.length_map] at this
      exact absurd this.symm hn
    · rfl
  · rfl
theorem list3 {α : Type} {l : List α} (h : l.length = 3) : ∃ a b c, l = [a, b, c] := by
  match l, h with
  | [a, b, c], _ => exact ⟨_, _, _, rfl⟩
theorem headO_yes {s : ByteArray} {r : List ByteArray} {a b c : Nat} (h : splB 32 s = bList :: r) (hn : numsO (r.map fun x => x.data.toList) = some [a, b, c]) : headO s.data.toList = some ((a : Int), (b : Int), (c : Int)) := by rw [headO_is h, if_pos rfl, hn]
/-- the list in its block, the block of the result, the lines -/
structure PrsAt (w : World) (g : Nat) (ts : List ByteArray) (n : Nat) (z : TL) (u : Value) (k : Nat) (l : TL) (v : Value) (wr : World) : Prop where
  below : Below w.heap.size w wr
  at_ : g = w.heap.size + 2
  size : g < wr.heap.size
  res : wr.heap[w.heap.size]? = some (tlC z u)
  lst : wr.heap[w.heap.size + 1]? = some (tlC l v)
  lines : SlRep 1 (flat strEnc) wr (fun b => b = g) ts (.slice (some ⟨g, 0, none⟩) n n)
  own : OwnRep 7 (flat Item.enc) 47 (g + 1) wr l.items v
  len : l.items.length ≤ k
theorem PrsAt.but {w : World} {g : Nat} {ts : List ByteArray} {n : Nat} {z : TL} {u : Value} {k k' : Nat} {l l' : TL} {v : Value} {W W' : World} (h : PrsAt w g ts n z u k l v W) (hb : But (w.heap.size + 1) W W') (hl : W'.heap[w.heap.size + 1]? = some (tlC l' v)) (hi : l'.items = l.items) (hk : k ≤ k') : PrsAt w g ts n z u k' l' v W' := by
  have h1 := h.at_
  have h2 := h.size
  refine ⟨h.below.trans (hb.below.mono (Nat.le_succ _)), h1, Nat.lt_of_lt_of_le h2 hb.below.size, (hb.same _ (by omega) (by omega)).trans h.res, hl, h.lines.frame strS (fun b hb' => ?_), ?_, by rw [hi]; exact Nat.le_trans h.len hk⟩
  · have : b = g := hb'
    exact hb.same b (by omega) (by omega)
  · rw [hi]
    refine h.own.keep (fun b hb' => ?_)
    have := h.own.own_lt b hb'
    exact hb.same b this.2 (by omega)
theorem PrsAt.next {w : World} {g : Nat} {ts : List ByteArray} {n : Nat} {z : TL} {u : Value} {k : Nat} {l : TL} {v : Value} {W W' : World} (h : PrsAt w g ts n z u k l v W) (hb : Below W.heap.size W W') : PrsAt w g ts n z u k l v W' := by
  have h1 := h.at_
  have h2 := h.size
  exact h.but ((But.refl_ _ _).next (by omega) hb) ((hb.block _ (by omega)).trans h.lst) rfl (Nat.le_refl _)
/-- an item appended, and the new slice stored in the list -/
theorem PrsAt.app {w : World} {g : Nat} {ts : List ByteArray} {n : Nat} {z : TL} {u : Value} {k : Nat} {l : TL} {v v' : Value} {x : Item} {W W' : World} (h : PrsAt w g ts n z u k l v W) (hg : W.grownBy W' v.ownBlock) (ho : OwnRep 7 (flat Item.enc) 47 (g + 1) W' (l.items ++ [x]) v') : PrsAt w g ts n z u (k + 1) ⟨l.id, l.office, l.day, l.items ++ [x]⟩ v' (W'.setCell ⟨w.heap.size + 1, 3, none⟩ v') := by
  have h1 := h.at_
  have h2 := h.size
  have hne : ∀ b, b < g + 1 → some b ≠ v.ownBlock := fun b hb e => by have := h.own.own_lt b e.symm; omega
  have hs := hg.size
  have hb : Below w.heap.size w W' := h.below.grown hg (by omega) (fun b hb => by have := h.own.own_lt b hb; omega)
  have hl : W'.heap[w.heap.size + 1]? = some (tlC l v) := (hg.block _ (by omega) (hne _ (by omega))).trans h.lst
  refine ⟨hb.setCell (p := ⟨w.heap.size + 1, 3, none⟩) (Nat.le_succ _) _, h1, by simp [World.setCell]; omega, ?_, put_at hl 3 _ _ rfl, h.lines.frame strS (fun b hb' => ?_), ?_, by simp; exact h.len⟩
  · rw [Below.heap_setCell _ _ _ _ (by show w.heap.size ≠ w.heap.size + 1; omega)]
    exact (hg.block _ (by omega) (hne _ (by omega))).trans h.res
  · have : b = g := hb'
    rw [Below.heap_setCell _ _ _ _ (by show b ≠ w.heap.size + 1; omega)]
    exact hg.block _ (by omega) (hne _ (by omega))
  · refine ho.keep (fun b hb' => Below.heap_setCell _ _ _ _ ?_)
    have := ho.own_lt b hb'
    show b ≠ w.heap.size + 1
    omega
/-- the list's own slice, as it is behind an append -/
theorem PrsAt.old {w : World} {g : Nat} {ts : List ByteArray} {n : Nat} {z : TL} {u : Value} {k : Nat} {l : TL} {v : Value} {W W' : World} (h : PrsAt w g ts n z u k l v W) (hg : W.grownBy W' v.ownBlock) : W'.cell? ⟨w.heap.size + 1, 3, none⟩ = some v ∧ W'.frozen? ⟨w.heap.size + 1, 3, none⟩ = false ∧ w.heap.size + 1 < W'.heap.size := by
  have h1 := h.at_
  have h2 := h.size
  have hl : W'.heap[w.heap.size + 1]? = some (tlC l v) := (hg.block _ (by omega) (fun e => by have := h.own.own_lt _ e.symm; omega)).trans h.lst
  exact ⟨by rw [Lib.cell_of_heap hl]; rfl, Lib.frozen_of_heap hl 3, heap_ltA hl⟩
theorem PrsAt.done {w : World} {g : Nat} {ts : List ByteArray} {n : Nat} {z : TL} {u : Value} {k : Nat} {l : TL} {v : Value} {W : World} {text : ByteArray} (h : PrsAt w g ts n z u k l v W) (hp : parseF text = (l, 0, 0)) : prsQ text w (.returned (.tuple #[tlV l v, .int .i64 0, .int .i64 0])) (pT4 W w.heap.size l v) := by
  have h1 := h.at_
  refine prs_some hp ((h.own.keep (fun b hb => ?_)).base_le (by omega)) (pT_below l v h.below (Nat.le_refl _))
  have := h.own.own_lt b hb
  exact pT_off l v (by omega)
theorem tl_cells {W : World} {b : Nat} {l : TL} {v : Value} (h : W.heap[b]? = some (tlC l v)) : W.cell? ⟨b, 0, none⟩ = some (.int .i64 l.id) ∧ W.cell? ⟨b, 1, none⟩ = some (.int .i64 l.office) ∧ W.cell? ⟨b, 2, none⟩ = some (.int .i64 l.day) ∧ W.cell? ⟨b, 3, none⟩ = some v ∧ W.frozen? ⟨b, 3, none⟩ = false ∧ b < W.heap.size :=
  ⟨by rw [Lib.cell_of_heap h]; rfl, by rw [Lib.cell_of_heap h]; rfl, by rw [Lib.cell_of_heap h]; rfl, by rw [Lib.cell_of_heap h]; rfl, Lib.frozen_of_heap h 3, heap_ltA h⟩
abbrev tlZ : Obj := .cells #[.int .i64 0, .int .i64 0, .int .i64 0, .slice none 0 0] 24
abbrev prsW (w : World) : World := (w.alloc tlZ).alloc tlZ
theorem prsW_at (w : World) : (prsW w).heap[w.heap.size]? = some (tlC zTL (.slice none 0 0)) ∧ (prsW w).heap[w.heap.size + 1]? = some (tlC zTL (.slice none 0 0)) ∧ (prsW w).heap.size = w.heap.size + 2 := by
  refine ⟨(Below.heap_alloc _ _ _ (by simp)).trans (heap_newA w _), ?_, by simp⟩
  have := heap_newA (w.alloc tlZ) tlZ
  rwa [show (w.alloc tlZ).heap.size = w.heap.size + 1 by simp] at this
/-- all that the store of the empty list into the result wants, and what it leaves -/
theorem prs_zero {W : World} {b : Nat} {z : TL} {u : Value} {B : Nat} {w0 : World} (h : W.heap[b]? = some (tlC z u)) (hb : Below B w0 W) (hB : B ≤ b) :
    (W.cell? ⟨b, 0, none⟩ = some (.int .i64 z.id) ∧ W.frozen? ⟨b, 0, none⟩ = false ∧ (W.setCell ⟨b, 0, none⟩ (.int .i64 0)).cell? ⟨b, 1, none⟩ = some (.int .i64 z.office) ∧ (W.setCell ⟨b, 0, none⟩ (.int .i64 0)).frozen? ⟨b, 1, none⟩ = false ∧ ((W.setCell ⟨b, 0, none⟩ (.int .i64 0)).setCell ⟨b, 1, none⟩ (.int .i64 0)).cell? ⟨b, 2, none⟩ = some (.int .i64 z.day) ∧ ((W.setCell ⟨b, 0, none⟩ (.int .i64 0)).setCell ⟨b, 1, none⟩ (.int .i64 0)).frozen? ⟨b, 2, none⟩ = false ∧ (((W.setCell ⟨b, 0, none⟩ (.int .i64 0)).setCell ⟨b, 1, none⟩ (.int .i64 0)).setCell ⟨b, 2, none⟩ (.int .i64 0)).cell? ⟨b, 3, none⟩ = some u ∧ (((W.setCell ⟨b, 0, none⟩ (.int .i64 0)).setCell ⟨b, 1, none⟩ (.int .i64 0)).setCell ⟨b, 2, none⟩ (.int .i64 0)).frozen? ⟨b, 3, none⟩ = false) ∧
    ((((W.setCell ⟨b, 0, none⟩ (.int .i64 0)).setCell ⟨b, 1, none⟩ (.int .i64 0)).setCell ⟨b, 2, none⟩ (.int .i64 0)).setCell ⟨b, 3, none⟩ (.slice none 0 0)).cell? ⟨b, 0, none⟩ = some (.int .i64 0) ∧ ((((W.setCell ⟨b, 0, none⟩ (.int .i64 0)).setCell ⟨b, 1, none⟩ (.int .i64 0)).setCell ⟨b, 2, none⟩ (.int .i64 0)).setCell ⟨b, 3, none⟩ (.slice none 0 0)).cell? ⟨b, 1, none⟩ = some (.int .i64 0) ∧ ((((W.setCell ⟨b, 0, none⟩ (.int .i64 0)).setCell ⟨b, 1, none⟩ (.int .i64 0)).setCell ⟨b, 2, none⟩ (.int .i64 0)).setCell ⟨b, 3, none⟩ (.slice none 0 0)).cell? ⟨b, 2, none⟩ = some (.int .i64 0) ∧ ((((W.setCell ⟨b, 0, none⟩ (.int .i64 0)).setCell ⟨b, 1, none⟩ (.int .i64 0)).setCell ⟨b, 2, none⟩ (.int .i64 0)).setCell ⟨b, 3, none⟩ (.slice none 0 0)).cell? ⟨b, 3, none⟩ = some (.slice none 0 0) ∧
    Below B w0 ((((W.setCell ⟨b, 0, none⟩ (.int .i64 0)).setCell ⟨b, 1, none⟩ (.int .i64 0)).setCell ⟨b, 2, none⟩ (.int .i64 0)).setCell ⟨b, 3, none⟩ (.slice none 0 0)) := by
  obtain ⟨⟨a1, a2, a3, a4, a5, a6, a7, a8⟩, b1, b2, b3, b4⟩ := pT_facts (y := z) (u := u) (⟨0, 0, 0, []⟩ : TL) (.slice none 0 0) h
  exact ⟨⟨a1, a2, a3, a4, a5, a6, a7, a8⟩, b1, b2, b3, b4, pT_below (⟨0, 0, 0, []⟩ : TL) (.slice none 0 0) hb hB⟩
set_option maxRecDepth 100000 in
set_option maxHeartbeats 600000 in
theorem parse_big (text : ByteArray) (w : World) (hs : 65536 < text.size) : Calls Tryz.prog 18 #[.string text] w fun e w' => prsQ text w e w' := by
  have HF := Lib.hid (show parseF text = (zTL, 0, 8) by unfold parseF; rw [if_pos hs])
  have hi : (65536 : Int) < (text.size : Int) := by omega
  have HB := Lib.hid ((Below.refl _ _).alloc (Nat.le_refl _) _ : Below w.heap.size w (w.alloc tlZ))
  clear hs
  go_enter Tryz.func18, Tryz.ntmps18
  go_wp2
  refine bodyPost_ret (v := .tuple #[.agg #[.int .i64 0, .int .i64 0, .int .i64 0, .slice none 0 0], .int .i64 0, .int .i64 8]) (by simp [results, Tryz.results18, go_sem]) rfl (prs_none HF.out HB.out)

abbrev ptr3 (b : Nat) : Obj := .cells #[.pointer (some ⟨b, 0, none⟩), .pointer (some ⟨b, 1, none⟩), .pointer (some ⟨b, 2, none⟩)] 77
theorem ptr3_at {W : World} {g b : Nat} {l : TL} {v : Value} (h : W.heap[g]? = some (ptr3 b)) : ∀ (i : Nat) o, ([0, 1, 2] : List Nat)[i]? = some o → W.cell? ⟨g, i, none⟩ = some (.pointer (some ⟨b, o, none⟩)) ∧ o < (#[.int .i64 l.id, .int .i64 l.office, .int .i64 l.day, v] : Array Value).size := by
  intro i o hi
  rw [Lib.cell_of_heap h]
  match i, hi with
  | 0, hi => cases hi; exact ⟨rfl, (show 0 < 4 by decide)⟩
  | 1, hi => cases hi; exact ⟨rfl, (show 1 < 4 by decide)⟩
  | 2, hi => cases hi; exact ⟨rfl, (show 2 < 4 by decide)⟩
  | n + 3, hi => simp at hi
def tlPart (l : TL) (ns : List Int) : TL := ⟨ns.getD 0 l.id, ns.getD 1 l.office, ns.getD 2 l.day, l.items⟩
theorem putZ_tl (l : TL) (v : Value) (ns : List Int) (h : ns.length ≤ 3) : putZ #[.int .i64 l.id, .int .i64 l.office, .int .i64 l.day, v] [0, 1, 2] ns = #[.int .i64 (tlPart l ns).id, .int .i64 (tlPart l ns).office, .int .i64 (tlPart l ns).day, v] := by
  match ns, h with
  | [], _ => rfl
  | [a], _ => rfl
  | [a, b], _ => rfl
  | [a, b, c], _ => rfl
set_option maxRecDepth 100000 in
set_option maxHeartbeats 8000000 in
theorem parse_c (text : ByteArray) (w : World) (hV : VarOk w) : Calls Tryz.prog 18 #[.string text] w fun e w' => prsQ text w e w' := by
  by_cases hbig : 65536 < text.size
  · exact parse_big text w hbig
  have hsz : text.size ≤ 65536 := by omega
  have hbi : ¬ (65536 : Int) < (text.size : Int) := by omega
  have HB := Lib.hid (((Below.refl _ _).alloc (Nat.le_refl _) _).alloc (by simp) _ : Below w.heap.size w (prsW w))
  have HSP := Lib.hid (split_c 10 text (prsW w) (by omega) (hV.below HB.out))
  obtain ⟨z0, hz0⟩ : ∃ z : TL, zTL = z := ⟨_, rfl⟩
  obtain ⟨u0, hu0⟩ : ∃ u : Value, .slice none 0 0 = u := ⟨_, rfl⟩
  have HPW := Lib.hid (prsW_at w)
  obtain ⟨g, hg⟩ : ∃ g, (prsW w).heap.size = g := ⟨_, rfl⟩
  rw [hg] at HSP
  have HG := Lib.hid (hg.symm.trans HPW.out.2.2 : g = w.heap.size + 2)
  have HPF := Lib.hid (show parseF text = parseG 0 zTL ((splB 10 text).map fun x => x.data.toList) by unfold parseF; rw [if_neg hbig, splB_is])
  have HSZ := Lib.hid (fun (x : ByteArray) (hx : x ∈ splB 10 text) => Nat.le_trans (splB_size hx) hsz)
  have HNL := Lib.hid (splB_lt 10 text)
  obtain ⟨p0, r0, hpr⟩ := splB_ne 10 text
  have hne : 1 ≤ (splB 10 text).length := by rw [hpr]; simp
  obtain ⟨ts, hts⟩ : ∃ ts, splB 10 text = ts := ⟨_, rfl⟩
  rw [hts] at HSP HPF HSZ HNL hne
  obtain ⟨n, hn⟩ : ∃ n, ts.length = n := ⟨_, rfl⟩
  rw [hn] at HSP HNL hne
  obtain ⟨m, hm⟩ : ∃ m, n = m + 1 := ⟨n - 1, by omega⟩
  have HN := Lib.hid (And.intro hn hm)
  obtain ⟨tl, htl⟩ : ∃ tl, (ts.map fun x => x.data.toList) = tl := ⟨_, rfl⟩
  rw [htl] at HPF
  have HTL := Lib.hid htl
  have hnl := HNL.out
  have hw1 : IntKind.i64.wrap ((n : Int) - 1) = (m : Int) := by rw [IntWalk.i64_in _ (by omega)]; omega
  have hmn : m ≤ n := by omega
  have hmi : (m : Int) ≤ (n : Int) := by omega
  have hmlt : m < n := by omega
  have hmli : (m : Int) < (n : Int) := by omega
  have hmb : m ≤ 65536 := by omega
  have HZ := Lib.hid (And.intro hz0 hu0)
  have HV := Lib.hid hV
  clear hbig hsz hg hpr hne hn hm hts htl hnl hz0 hu0 HNL hV
  go_enter Tryz.func18, Tryz.ntmps18
  go_wp2_with fail
  refine HSP.out.mono ?_
  rintro e w1 ⟨rfl, hsl, hb1, hz1⟩
  have HK0 := Lib.hid (show PrsAt w g ts n z0 u0 0 zTL (.slice none 0 0) w1 by
    have hg := HG.out
    refine ⟨HB.out.trans (hb1.mono (by omega)), hg, by omega, ?_, ?_, hsl, OwnRep.nil_, Nat.le_refl _⟩
    · rw [← HZ.out.1, ← HZ.out.2]; exact (hb1.block _ (by omega)).trans HPW.out.1
    · exact (hb1.block _ (by omega)).trans HPW.out.2.1)
  clear hsl hb1 hz1 HSP
  go_wp2
  go_loopw [26] (fun i wr => ∃ (k : Nat) (l : TL) (v : Value), k ≤ m ∧ i = .int .i64 k ∧ Hid (parseF text = parseG k l (tl.drop k)) ∧ Hid (PrsAt w g ts n z0 u0 k l v wr)) (fun i _ => m - (intOf i).toNat)
  case atStart => exact ⟨0, zTL, _, Nat.zero_le _, rfl, HPF, HK0⟩
  case round =>
    clear HK0
    obtain ⟨k, l, v, hk, rfl, HS, HK⟩ := hrel
    have hsr := HK.out.size
    obtain ⟨s, hs⟩ := get_at ts (i := k) (by have := HN.out; omega)
    obtain ⟨_, _, e9, _, y0⟩ := sl_str HK.out.lines hs
    cases e9
    simp only [Nat.zero_add] at y0
    by_cases hlt : k < m
    · have hss : s.size ≤ 65536 := HSZ.out s (List.mem_of_getElem? hs)
      have HD := Lib.hid (show tl.drop k = s.data.toList :: tl.drop (k + 1) by rw [← HTL.out]; exact drop_at (by rw [List.getElem?_map, hs]; rfl))
      have HST := Lib.hid (show parseF text = nextG k (stepO k l s.data.toList) fun l' => parseG (k + 1) l' (tl.drop (k + 1)) by
        rw [HS.out, HD.out, parseG_cons]
        intro e
        have := congrArg List.length e
        rw [← HTL.out, List.length_drop, List.length_map] at this
        have := HN.out
        simp at *
        omega)
      have HNO := Lib.hid (fun (h : stepO k l s.data.toList = none) => (show parseF text = (zTL, (k : Int) + 1, 3) by rw [HST.out, h]; rfl))
      have HYE := Lib.hid (fun (l' : TL) (h : stepO k l s.data.toList = some l') => (show parseF text = parseG (k + 1) l' (tl.drop (k + 1)) by rw [HST.out, h]; rfl))
      have hki : (k : Int) < (m : Int) := by omega
      clear hs
      rcases Nat.eq_zero_or_pos k with hk0 | hk0
      · subst hk0
        have HSP2 := Lib.hid (split_c 32 s wr (by omega) (HV.out.below HK.out.below))
        obtain ⟨p, r, hpr⟩ := splB_ne 32 s
        have HWS := Lib.hid (fun (x : ByteArray) (hx : x ∈ splB 32 s) => Nat.le_trans (splB_size hx) hss)
        have HPR := Lib.hid hpr
        rw [hpr] at HSP2 HWS
        obtain ⟨q, hq⟩ : ∃ q, (p :: r).length = q := ⟨_, rfl⟩
        rw [hq] at HSP2
        have HQ := Lib.hid (show q = r.length + 1 from hq.symm)
        have hq1 : 0 < q := by have := HQ.out; omega
        have hq1i : (0 : Int) < (q : Int) := by omega
        obtain ⟨g2, hg2⟩ : ∃ g2, wr.heap.size = g2 := ⟨_, rfl⟩
        rw [hg2] at HSP2
        have HG2 := Lib.hid hg2
        clear hpr hq hg2 HD HS
        go_wp2_with fail
        refine HSP2.out.mono ?_
        rintro e w2 ⟨rfl, hsl2, hb2, hz2⟩
        have HK2 := Lib.hid (HK.out.next (by rw [HG2.out]; exact hb2))
        obtain ⟨_, _, e9, _, y1⟩ := sl_str hsl2 (i := 0) rfl
        cases e9
        simp only [Nat.add_zero] at y1
        have HSL := Lib.hid hsl2
        have HB2 := Lib.hid hb2
        clear hsl2 hb2 HSP2
        by_cases hp : p = bList
        · have hr1 : p.toList = ([108, 105, 115, 116] : List UInt8) := by rw [hp, ByteArray.toList_eq]
          have HP := Lib.hid hp
          clear hp
          by_cases hq4 : q = 4
          · subst hq4
            obtain ⟨x1, x2, x3, hr3⟩ := list3 (show r.length = 3 by have := HQ.out; omega)
            have HSL3 := Lib.hid (sl_part HSL.out 1 3 3 (by rw [hr3]; simp) (by omega) (by omega))
            have HR3 := Lib.hid hr3
            have hgg : w.heap.size + 1 < g2 := by have := HK.out.at_; have := HG2.out; omega
            clear hr3 hsr
            go_wp2_with fail
            have hba : Below w2.heap.size w2 (w2.alloc (ptr3 (w.heap.size + 1))) := (Below.refl _ _).alloc (Nat.le_refl _) _
            have hpt : (w2.alloc (ptr3 (w.heap.size + 1))).heap[g2 + 1]? = some (ptr3 (w.heap.size + 1)) := by
              have := heap_newA w2 (ptr3 (w.heap.size + 1))
              rwa [hz2] at this
            have HK3 := Lib.hid (HK2.out.next hba)
            have hsl3 := HSL3.out
            rw [HR3.out] at hsl3
            refine (read_c [x1, x2, x3] [0, 1, 2] _ #[.int .i64 l.id, .int .i64 l.office, .int .i64 l.day, v] 24 (w.heap.size + 1) (g2 + 1) (w2.alloc (ptr3 (w.heap.size + 1))) (fun b => b = g2) (SlRep.frame strS (fun b hb => hba.block b (by have : b = g2 := hb; omega)) hsl3) (fun k hk => ⟨by have : k = g2 := hk; simp; omega, by have : k = g2 := hk; omega⟩) HK3.out.lst (by omega) (ptr3_at hpt) (fun x hx => by have := HWS.out x (by rw [HR3.out]; exact List.mem_cons_of_mem _ hx); omega) (fun W hW => HV.out.below (HK3.out.below.trans (hW.mono (Nat.le_succ _)))) rfl (by decide)).mono ?_
            rintro e w3 ⟨hbut, rfl, ns, hcell, hnl, hns⟩
            rw [putZ_tl l v ns hnl] at hcell
            have HK4 := Lib.hid (HK3.out.but hbut hcell rfl (Nat.zero_le 1))
            have HNS := Lib.hid hns
            clear hba hpt hsl3 hbut hcell hns
            simp only [List.map_cons, List.map_nil]
            obtain ⟨nm, hnm⟩ : ∃ o, numsO [x1.data.toList, x2.data.toList, x3.data.toList] = o := ⟨_, rfl⟩
            have HNM := Lib.hid hnm
            rw [hnm]
            clear hnm
            cases nm with
            | none =>
              obtain ⟨⟨a1, a2, a3, a4, a5, a6, a7, a8⟩, b1, b2, b3, b4, hb⟩ := prs_zero HK4.out.res HK4.out.below (Nat.le_refl _)
              have HBF := Lib.hid hb
              have HE := Lib.hid (show parseF text = (zTL, 1, 3) from HNO.out (by unfold stepO; rw [if_pos rfl, headO_nums HPR.out (by rw [HR3.out]; exact HNM.out)]; rfl))
              clear hb
              go_wp2
              refine bodyPost_ret (v := .tuple #[.agg #[.int .i64 0, .int .i64 0, .int .i64 0, .slice none 0 0], .int .i64 1, .int .i64 3]) (by simp [results, Tryz.results18, go_sem, b1, b2, b3, b4]) rfl (prs_none HE.out HBF.out)
            | some ls =>
              have HFI := Lib.hid (show parseF text = parseG 1 (tlPart l ns) (tl.drop 1) from HYE.out _ (by
                have hll := numsO_len HNM.out
                obtain ⟨i1, i2, i3, rfl⟩ := list3 hll
                have hn3 := HNS.out _ HNM.out
                unfold stepO
                rw [if_pos rfl, headO_yes (HPR.out.trans (by rw [HP.out])) (by rw [HR3.out]; exact HNM.out), hn3]
                rfl))
              go_wp2
              go_roundw
              case rel => exact ⟨1, _, v, by omega, by go_num, HFI, HK4⟩
              case measure => simp [intOf]; omega
          · by_cases hq5 : q = 1
            · subst hq5
              go_wp2_with fail
              refine (readNo_c _ _ _ _ _ _ (by omega) _).mono ?_
              rintro e w3 ⟨rfl, rfl⟩
              have HK3 := Lib.hid (HK2.out.next ((Below.refl _ _).alloc (Nat.le_refl _) (ptr3 (w.heap.size + 1))))
              obtain ⟨⟨a1, a2, a3, a4, a5, a6, a7, a8⟩, b1, b2, b3, b4, hb⟩ := prs_zero HK3.out.res HK3.out.below (Nat.le_refl _)
              have HBF := Lib.hid hb
              have HE := Lib.hid (show parseF text = (zTL, 1, 3) from HNO.out (by unfold stepO; rw [if_pos rfl, headO_len HPR.out (by have := HQ.out; omega)]; rfl))
              clear hb
              go_wp2
              refine bodyPost_ret (v := .tuple #[.agg #[.int .i64 0, .int .i64 0, .int .i64 0, .slice none 0 0], .int .i64 1, .int .i64 3]) (by simp [results, Tryz.results18, go_sem, b1, b2, b3, b4]) rfl (prs_none HE.out HBF.out)
            · have hq6 : ¬ q = 1 := hq5
              go_wp2_with fail
              refine (readNo_c _ _ _ _ _ _ (by omega) _).mono ?_
              rintro e w3 ⟨rfl, rfl⟩
              have HK3 := Lib.hid (HK2.out.next ((Below.refl _ _).alloc (Nat.le_refl _) (ptr3 (w.heap.size + 1))))
              obtain ⟨⟨a1, a2, a3, a4, a5, a6, a7, a8⟩, b1, b2, b3, b4, hb⟩ := prs_zero HK3.out.res HK3.out.below (Nat.le_refl _)
              have HBF := Lib.hid hb
              have HE := Lib.hid (show parseF text = (zTL, 1, 3) from HNO.out (by unfold stepO; rw [if_pos rfl, headO_len HPR.out (by have := HQ.out; omega)]; rfl))
              clear hb
              go_wp2
              refine bodyPost_ret (v := .tuple #[.agg #[.int .i64 0, .int .i64 0, .int .i64 0, .slice none 0 0], .int .i64 1, .int .i64 3]) (by simp [results, Tryz.results18, go_sem, b1, b2, b3, b4]) rfl (prs_none HE.out HBF.out)
        · have hr0 : (p.toList == ([108, 105, 115, 116] : List UInt8)) = false := by
            have := bs_ne hp
            rwa [show bList.toList = [108, 105, 115, 116] by rw [ByteArray.toList_eq]] at this
          obtain ⟨⟨a1, a2, a3, a4, a5, a6, a7, a8⟩, b1, b2, b3, b4, hb⟩ := prs_zero HK2.out.res HK2.out.below (Nat.le_refl _)
          have HBF := Lib.hid hb
          have HE := Lib.hid (show parseF text = (zTL, 1, 3) from HNO.out (by unfold stepO; rw [if_pos rfl, headO_word HPR.out hp]; rfl))
          clear hb
          go_wp2
          refine bodyPost_ret (v := .tuple #[.agg #[.int .i64 0, .int .i64 0, .int .i64 0, .slice none 0 0], .int .i64 1, .int .i64 3]) (by simp [results, Tryz.results18, go_sem, b1, b2, b3, b4]) rfl (prs_none HE.out HBF.out)
      · have HRI := Lib.hid (readItem_c s wr (by omega) (HV.out.below HK.out.below) (fun x hx => Nat.le_trans (splBN_size hx) (by omega)))
        have hk0i : ¬ (k : Int) = 0 := by omega
        have hwk : IntKind.i64.wrap ((k : Int) + 1) = (k : Int) + 1 := IntWalk.i64_in _ (by omega)
        have hkn : k ≠ 0 := by omega
        clear HD HS hk0
        go_wp2_with fail
        refine HRI.out.mono ?_
        rintro e w2 ⟨x, rfl, hx, hb2⟩
        have HK3 := Lib.hid ((HK.out.next hb2).next ((Below.refl _ _).alloc (Nat.le_refl _) (itmC x)))
        have HX := Lib.hid hx
        obtain ⟨o, ho⟩ : ∃ o, rowO s.data.toList = o := ⟨_, rfl⟩
        have HO := Lib.hid ho
        rw [ho]
        clear hx hb2 ho HRI
        cases o with
        | none =>
          obtain ⟨⟨a1, a2, a3, a4, a5, a6, a7, a8⟩, b1, b2, b3, b4, hb⟩ := prs_zero HK3.out.res HK3.out.below (Nat.le_refl _)
          have HBF := Lib.hid hb
          have HE := Lib.hid (show parseF text = (zTL, (k : Int) + 1, 3) from HNO.out (by unfold stepO; rw [if_neg hkn, HO.out]; rfl))
          clear hb
          go_wp2
          refine bodyPost_ret (v := .tuple #[.agg #[.int .i64 0, .int .i64 0, .int .i64 0, .slice none 0 0], .int .i64 ((k : Int) + 1), .int .i64 3]) (by simp [results, Tryz.results18, go_sem, b1, b2, b3, b4]) rfl (prs_none HE.out HBF.out)
        | some y =>
          obtain rfl : x = y := HX.out y HO.out
          have HY := Lib.hid (HYE.out _ (by unfold stepO; rw [if_neg hkn, HO.out]; rfl))
          obtain ⟨c0, c1, c2, c3, -, cl⟩ := tl_cells HK3.out.lst
          obtain ⟨i0, i1, i2, i3, i4, i5, i6⟩ := itm_at (heap_newA w2 (itmC x))
          go_wp2_with (at_builtin; refine stop_intro ?_)
          refine stop_elim ?_
          refine wpList_append_rep rfl itmS itmE_ (g + 1) (.tmp 61) (.tmp 63) rfl rfl (HK3.out.own.alloc itmS _) rfl (ys := [x]) (SlRep.one_new itmS (F := fun _ => False) ?hg (rfl : Item.enc x = _) ?hF1) ?F ?n (by decide) ?hbase ?_
          case hg => simp
          case hF1 => exact fun _ h => h.elim
          case F =>
            intro bb hbb
            rcases hbb with hbb | hbb
            · exact hbb.elim
            · subst hbb
              exact ⟨by simp, fun he => by have := HK3.out.own.own_lt _ he; simp at this⟩
          case n => have := HK3.out.len; simp; omega
          case hbase => have := HK3.out.size; simp at this ⊢; omega
          intro v6 w6 hown6 hg6 hat6
          have HK4 := HK3.out.next ((Below.refl _ _).alloc (Nat.le_refl _) (itmC x))
          obtain ⟨e0, e1, e2⟩ := HK4.old hg6
          have HK5 := Lib.hid (HK4.app hg6 hown6)
          obtain ⟨A6, n6, c6, rfl⟩ : ∃ A n c, v6 = .slice A n c := by obtain ⟨A, c, h, -⟩ := hown6.toSl itmS; exact ⟨A, _, c, h⟩
          clear hown6 hg6 hat6 HK4
          go_wp2
          go_roundw
          case rel => exact ⟨k + 1, _, _, by omega, by go_num, HY, HK5⟩
          case measure => simp [intOf]; omega
    · have hkm : k = m := by omega
      subst hkm
      have HEND := Lib.hid (show parseF text = if s.data.toList ≠ [] ∨ k = 0 then (zTL, (k : Int) + 1, 3) else if rightB l = false then (zTL, (k : Int), 1) else (l, 0, 0) by
        rw [HS.out, ← HTL.out, drop_at (x := s.data.toList) (by rw [List.getElem?_map, hs]; rfl), List.drop_of_length_le (by rw [List.length_map]; have := HN.out; omega), parseG])
      have hwk : IntKind.i64.wrap ((k : Int) + 1) = (k : Int) + 1 := IntWalk.i64_in _ (by omega)
      have hkk : ¬ (k : Int) < (k : Int) := by omega
      clear hs HS hlt hw1
      by_cases hse : s.data.toList = []
      · have hsn : s.toList = ([] : List UInt8) := by rw [ByteArray.toList_eq]; exact hse
        by_cases hk0 : k = 0
        · subst hk0
          obtain ⟨⟨a1, a2, a3, a4, a5, a6, a7, a8⟩, b1, b2, b3, b4, hb⟩ := prs_zero HK.out.res HK.out.below (Nat.le_refl _)
          have HBF := Lib.hid hb
          have HE := Lib.hid (show parseF text = (zTL, 1, 3) by rw [HEND.out, if_pos (Or.inr rfl)]; rfl)
          clear hb
          go_wp2
          refine bodyPost_ret (v := .tuple #[.agg #[.int .i64 0, .int .i64 0, .int .i64 0, .slice none 0 0], .int .i64 1, .int .i64 3]) (by simp [results, Tryz.results18, go_sem, b1, b2, b3, b4]) rfl (prs_none HE.out HBF.out)
        · have HEND := Lib.hid (HEND.out.trans (if_neg (fun e => e.elim (fun h => h hse) hk0)))
          have hk0i : ¬ (k : Int) = 0 := by omega
          have HR := Lib.hid (right_c l v wr wr.heap.size (Nat.le_refl _) (HK.out.own.toSl itmS) (HV.out.below HK.out.below))
          obtain ⟨c0, c1, c2, c3, -, cl⟩ := tl_cells HK.out.lst
          clear hse
          go_wp2_with fail
          refine HR.out.mono ?_
          rintro e w2 ⟨rfl, hb2⟩
          have HK2 := Lib.hid (HK.out.next hb2)
          cases hr : rightB l
          · have HEN := Lib.hid (HEND.out.trans (if_pos hr))
            clear hr
            obtain ⟨⟨a1, a2, a3, a4, a5, a6, a7, a8⟩, b1, b2, b3, b4, hb⟩ := prs_zero HK2.out.res HK2.out.below (Nat.le_refl _)
            have HBF := Lib.hid hb
            have HE := Lib.hid HEN.out
            clear hb
            go_wp2
            refine bodyPost_ret (v := .tuple #[.agg #[.int .i64 0, .int .i64 0, .int .i64 0, .slice none 0 0], .int .i64 (k : Int), .int .i64 1]) (by simp [results, Tryz.results18, go_sem, b1, b2, b3, b4]) rfl (prs_none HE.out HBF.out)
          · have HEN := Lib.hid (HEND.out.trans (if_neg (by rw [hr]; simp)))
            clear hr c0 c1 c2 c3 cl
            obtain ⟨c0, c1, c2, c3, -, cl⟩ := tl_cells HK2.out.lst
            obtain ⟨Av, nv, cv, rfl⟩ : ∃ A n c, v = .slice A n c := by obtain ⟨A, c, h, -⟩ := HK2.out.own.toSl itmS; exact ⟨A, _, c, h⟩
            obtain ⟨⟨a1, a2, a3, a4, a5, a6, a7, a8⟩, b1, b2, b3, b4⟩ := pT_facts l (.slice Av nv cv) HK2.out.res
            go_wp2
            refine bodyPost_ret (v := .tuple #[tlV l (.slice Av nv cv), .int .i64 0, .int .i64 0]) (by simp [results, Tryz.results18, go_sem, b1, b2, b3, b4]) rfl (HK2.out.done HEN.out)
      · have hsn : (s.toList == ([] : List UInt8)) = false := by rw [ByteArray.toList_eq]; exact Bool.eq_false_iff.2 (fun h => hse (beq_iff_eq.1 h))
        obtain ⟨⟨a1, a2, a3, a4, a5, a6, a7, a8⟩, b1, b2, b3, b4, hb⟩ := prs_zero HK.out.res HK.out.below (Nat.le_refl _)
        have HBF := Lib.hid hb
        have HE := Lib.hid (show parseF text = (zTL, (k : Int) + 1, 3) by rw [HEND.out, if_pos (Or.inl hse)])
        clear hb
        go_wp2
        refine bodyPost_ret (v := .tuple #[.agg #[.int .i64 0, .int .i64 0, .int .i64 0, .slice none 0 0], .int .i64 ((k : Int) + 1), .int .i64 3]) (by simp [results, Tryz.results18, go_sem, b1, b2, b3, b4]) rfl (prs_none HE.out HBF.out)
end Go.Proofs.YtenaifmkejmdaaaGreatDoor
