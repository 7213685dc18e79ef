/- The reference's Parse: the three blocks of its lists. -/
import Derived.Test.YtenaifmkejmdaaaGreatDoorPrs
namespace Go.Proofs.YtenaifmkejmdaaaGreatDoor
open Go.RowKit

theorem bytes_map_inj : ∀ {a b : List ByteArray}, a.map (fun x => x.data.toList) = b.map (fun x => x.data.toList) → a = b
  | [], [], _ => rfl
  | [], _ :: _, h => by cases h
  | _ :: _, [], h => by cases h
  | x :: a, y :: b, h => by
    rw [List.map_cons, List.map_cons] at h
    injection h with h1 h2
    rw [bytes_map_inj h2]
    congr 1
    rw [bytes_of h1]
/-- at most five words, and these are four: they are all -/
theorem head_four {s : ByteArray} (h : (splBN 32 4 s).length = 4) : splB 32 s = splBN 32 4 s := by
  apply bytes_map_inj
  rw [splB_is, splBN_is]
  have h2 : (splN 32 4 [] s.data.toList).length = 4 := by rw [← splBN_is, List.length_map]; exact h
  rw [splN_len] at h2
  exact (splN_G 32 _ 4 [] (by omega)).symm
theorem head_not {s : ByteArray} (h : (splBN 32 4 s).length ≠ 4) : headO s.data.toList = none := by
  obtain ⟨p, r, hpr⟩ := splB_ne 32 s
  apply headO_len hpr
  intro h3
  apply h
  have h1 : (splB 32 s).length = 4 := by rw [hpr, List.length_cons, h3]
  have h2 : (splG 32 [] s.data.toList).length = 4 := by rw [← splB_is, List.length_map]; exact h1
  rw [splG_len] at h2
  rw [← List.length_map (f := fun x : ByteArray => x.data.toList), splBN_is, splN_len]
  omega
/-- while the end of a line is sought: p its start, t where the search stands -/
def lineI (b : List UInt8) (p t : Nat) : Prop := splG 10 [] (b.drop p) = splG 10 ((b.drop p).take (t - p)) (b.drop t)
theorem lineI_start (b : List UInt8) (p : Nat) : lineI b p p := by unfold lineI; simp
theorem lineI_step {b : List UInt8} {p t : Nat} (h : lineI b p t) (hp : p ≤ t) (ht : t < b.length) (hn : b[t] ≠ 10) : lineI b p (t + 1) := by
  unfold lineI at h ⊢
  rw [h, List.drop_eq_getElem_cons ht, splG_cons, if_neg hn]
  congr 1
  have h1 : (b.drop p)[t - p]? = some b[t] := by
    rw [List.getElem?_drop, show p + (t - p) = t by omega, List.getElem?_eq_getElem ht]
  rw [show t + 1 - p = t - p + 1 by omega, List.take_add_one, h1]
  rfl
theorem lineI_end {b : List UInt8} {p t : Nat} (h : lineI b p t) (ht : t < b.length) (hn : b[t] = 10) : splG 10 [] (b.drop p) = (b.drop p).take (t - p) :: splG 10 [] (b.drop (t + 1)) := by
  unfold lineI at h
  rw [h, List.drop_eq_getElem_cons ht, splG_cons, if_pos hn]
theorem lineI_no {b : List UInt8} {p t : Nat} (h : lineI b p t) (hp : p ≤ t) (ht : t = b.length) : splG 10 [] (b.drop p) = [b.drop p] := by
  unfold lineI at h
  rw [h, List.drop_of_length_le (by omega : b.length ≤ t)]
  rw [splG]
  congr 1
  exact List.take_of_length_le (by rw [List.length_drop]; omega)
/-- Where the reference's loop stands: k lines read, at byte p. -/
def parsAt (text : ByteArray) (k p : Nat) (l : TL) : Prop := parseF text = parseG k l (splG 10 [] (text.data.toList.drop p))
theorem pars_start {text : ByteArray} (h : ¬ 65536 < text.size) : parsAt text 0 0 zTL := by unfold parsAt parseF; rw [if_neg h]; rfl
/-- the text is at its end -/
theorem pars_end {text : ByteArray} {k p : Nat} {l : TL} (h : parsAt text k p l) (hp : text.data.toList.length ≤ p) (hk : k ≠ 0) : parseF text = if rightB l = false then (zTL, (k : Int), 1) else (l, 0, 0) := by
  unfold parsAt at h
  rw [h, List.drop_of_length_le hp]
  show parseG k l [[]] = _
  rw [parseG, if_neg (by simp [hk])]
/-- a line without an end -/
theorem pars_cut {text : ByteArray} {k p t : Nat} {l : TL} (h : parsAt text k p l) (hl : lineI text.data.toList p t) (hp : p ≤ t) (ht : t = text.data.toList.length) (hk : k = 0 ∨ p < text.data.toList.length) : parseF text = (zTL, (k : Int) + 1, 3) := by
  unfold parsAt at h
  rw [h, lineI_no hl hp ht, parseG, if_pos]
  rcases hk with hk | hk
  · exact .inr hk
  · refine .inl fun e => ?_
    have h2 : (text.data.toList.drop p).length = 0 := by rw [e]; rfl
    rw [List.length_drop] at h2
    omega
/-- a line -/
theorem pars_line {text : ByteArray} {k p t : Nat} {l : TL} (h : parsAt text k p l) (hl : lineI text.data.toList p t) (ht : t < text.data.toList.length) (hn : text.data.toList[t] = 10) :
    parseF text = nextG k (stepO k l ((text.data.toList.drop p).take (t - p))) fun l' => parseG (k + 1) l' (splG 10 [] (text.data.toList.drop (t + 1))) := by
  unfold parsAt at h
  rw [h, lineI_end hl ht hn, parseG_cons _ _ _ (splG_ne 10 _ _)]
theorem pars_none {text : ByteArray} {k p t : Nat} {l : TL} (h : parsAt text k p l) (hl : lineI text.data.toList p t) (ht : t < text.data.toList.length) (hn : text.data.toList[t] = 10) (hs : stepO k l ((text.data.toList.drop p).take (t - p)) = none) : parseF text = (zTL, (k : Int) + 1, 3) := by
  rw [pars_line h hl ht hn, hs]; rfl
theorem pars_next {text : ByteArray} {k p t : Nat} {l l' : TL} (h : parsAt text k p l) (hl : lineI text.data.toList p t) (ht : t < text.data.toList.length) (hn : text.data.toList[t] = 10) (hs : stepO k l ((text.data.toList.drop p).take (t - p)) = some l') : parsAt text (k + 1) (t + 1) l' := by
  unfold parsAt
  rw [pars_line h hl ht hn, hs]; rfl
/-- the part of a text between two bytes -/
theorem part_bytes (s : ByteArray) (p t : Nat) : (s.extract p t).data.toList = (s.data.toList.drop p).take (t - p) := by
  simp [ByteArray.data_extract]

abbrev rpsW (w : World) : World := ((w.alloc tlZ).alloc tlZ).alloc tlZ
/-- the block of the result, the empty list, the list read so far -/
structure RpAt (w : World) (k : Nat) (l : TL) (v : Value) (wr : World) : Prop where
  below : Below w.heap.size w wr
  size : w.heap.size + 3 ≤ wr.heap.size
  res : wr.heap[w.heap.size]? = some (tlC zTL (.slice none 0 0))
  non : wr.heap[w.heap.size + 1]? = some (tlC zTL (.slice none 0 0))
  lst : wr.heap[w.heap.size + 2]? = some (tlC l v)
  own : OwnRep 7 (flat Item.enc) 47 (w.heap.size + 3) wr l.items v
  len : l.items.length ≤ k
theorem RpAt.start (w : World) : RpAt w 0 zTL (.slice none 0 0) (rpsW w) := by
  have h2 : ((w.alloc tlZ).alloc tlZ).heap.size = w.heap.size + 2 := by simp
  refine ⟨(((Below.refl _ _).alloc (Nat.le_refl _) _).alloc (by simp) _).alloc (by simp; omega) _, by simp, ?_, ?_, ?_, OwnRep.nil_, Nat.le_refl _⟩
  · exact (Below.heap_alloc _ _ _ (by simp; omega)).trans (prsW_at w).1
  · exact (Below.heap_alloc _ _ _ (by simp)).trans (prsW_at w).2.1
  · have := heap_newA ((w.alloc tlZ).alloc tlZ) tlZ
    rwa [h2] at this
theorem RpAt.next {w : World} {k : Nat} {l : TL} {v : Value} {W W' : World} (h : RpAt w k l v W) (hb : Below W.heap.size W W') : RpAt w k l v W' := by
  have h2 := h.size
  have h3 := hb.size
  exact ⟨h.below.trans (hb.mono (by omega)), by omega, (hb.block _ (by omega)).trans h.res, (hb.block _ (by omega)).trans h.non, (hb.block _ (by omega)).trans h.lst, h.own.keep (fun b hb' => hb.block _ (h.own.own_lt b hb').2), h.len⟩
/-- the numbers of the head stored -/
theorem RpAt.head {w : World} {k : Nat} {l l' : TL} {v : Value} {W : World} (h : RpAt w k l v W) (hi : l'.items = l.items) : RpAt w (k + 1) l' v (pT3 W (w.heap.size + 2) l' v) := by
  have h2 := h.size
  have off : ∀ j, j ≠ w.heap.size + 2 → (pT3 W (w.heap.size + 2) l' v).heap[j]? = W.heap[j]? := fun j hj => by
    unfold pT3 pT2 pT1 pT0
    rw [Below.heap_setCell _ _ _ _ hj, Below.heap_setCell _ _ _ _ hj, Below.heap_setCell _ _ _ _ hj]
  refine ⟨((h.below.setCell (p := ⟨w.heap.size + 2, 0, none⟩) (Nat.le_add_right _ _) _).setCell (p := ⟨w.heap.size + 2, 1, none⟩) (Nat.le_add_right _ _) _).setCell (p := ⟨w.heap.size + 2, 2, none⟩) (Nat.le_add_right _ _) _, by simp [World.setCell]; omega, (off _ (by omega)).trans h.res, (off _ (by omega)).trans h.non, pT3_at l' v h.lst, ?_, by rw [hi]; exact Nat.le_succ_of_le h.len⟩
  rw [hi]
  refine h.own.keep (fun b hb => off _ ?_)
  have := h.own.own_lt b hb
  omega
/-- an item appended, and the new slice stored -/
theorem RpAt.app {w : World} {k : Nat} {l : TL} {v v' : Value} {x : Item} {W W' : World} (h : RpAt w k l v W) (hg : W.grownBy W' v.ownBlock) (ho : OwnRep 7 (flat Item.enc) 47 (w.heap.size + 3) W' (l.items ++ [x]) v') : RpAt w (k + 1) ⟨l.id, l.office, l.day, l.items ++ [x]⟩ v' (W'.setCell ⟨w.heap.size + 2, 3, none⟩ v') := by
  have h2 := h.size
  have hne : ∀ b, b < w.heap.size + 3 → some b ≠ v.ownBlock := fun b hb e => by have := h.own.own_lt b e.symm; omega
  have hs := hg.size
  have hb : Below w.heap.size w W' := h.below.grown hg (by omega) (fun b hb => by have := h.own.own_lt b hb; omega)
  have hl : W'.heap[w.heap.size + 2]? = some (tlC l v) := (hg.block _ (by omega) (hne _ (by omega))).trans h.lst
  refine ⟨hb.setCell (p := ⟨w.heap.size + 2, 3, none⟩) (Nat.le_add_right _ _) _, by simp [World.setCell]; omega, ?_, ?_, put_at hl 3 _ _ rfl, ?_, by simp; exact h.len⟩
  · rw [Below.heap_setCell _ _ _ _ (by show w.heap.size ≠ w.heap.size + 2; omega)]
    exact (hg.block _ (by omega) (hne _ (by omega))).trans h.res
  · rw [Below.heap_setCell _ _ _ _ (by show w.heap.size + 1 ≠ w.heap.size + 2; omega)]
    exact (hg.block _ (by omega) (hne _ (by omega))).trans h.non
  · refine ho.keep (fun b hb' => Below.heap_setCell _ _ _ _ ?_)
    have := ho.own_lt b hb'
    show b ≠ w.heap.size + 2
    omega
theorem RpAt.old {w : World} {k : Nat} {l : TL} {v : Value} {W W' : World} (h : RpAt w k l v W) (hg : W.grownBy W' v.ownBlock) : W'.cell? ⟨w.heap.size + 2, 3, none⟩ = some v ∧ W'.frozen? ⟨w.heap.size + 2, 3, none⟩ = false ∧ w.heap.size + 2 < W'.heap.size := by
  have h2 := h.size
  have hl : W'.heap[w.heap.size + 2]? = some (tlC l v) := (hg.block _ (by omega) (fun e => by have := h.own.own_lt _ e.symm; omega)).trans h.lst
  exact ⟨by rw [Lib.cell_of_heap hl]; rfl, Lib.frozen_of_heap hl 3, heap_ltA hl⟩
theorem RpAt.done {w : World} {k : Nat} {l : TL} {v : Value} {W : World} {text : ByteArray} (h : RpAt w k l v W) (hp : parseF text = (l, 0, 0)) : prsQ text w (.returned (.tuple #[tlV l v, .int .i64 0, .int .i64 0])) (pT4 W w.heap.size l v) := by
  refine prs_some hp ((h.own.keep (fun b hb => ?_)).base_le (by omega)) (pT_below l v h.below (Nat.le_refl _))
  have := h.own.own_lt b hb
  exact pT_off l v (by omega)
theorem RpAt.cells {w : World} {k : Nat} {l : TL} {v : Value} {W : World} (h : RpAt w k l v W) : W.cell? ⟨w.heap.size + 1, 0, none⟩ = some (.int .i64 0) ∧ W.cell? ⟨w.heap.size + 1, 1, none⟩ = some (.int .i64 0) ∧ W.cell? ⟨w.heap.size + 1, 2, none⟩ = some (.int .i64 0) ∧ W.cell? ⟨w.heap.size + 1, 3, none⟩ = some (.slice none 0 0) ∧ w.heap.size + 1 < W.heap.size := by
  obtain ⟨a, b, c, d, -, e⟩ := tl_cells h.non
  exact ⟨a, b, c, d, e⟩

set_option maxRecDepth 100000 in
set_option maxHeartbeats 600000 in
theorem rparse_big (text : ByteArray) (w : World) (hs : 65536 < text.size) : Calls Tryz.prog 19 #[.string text] w fun e w' => prsQ text w e w' := by
  have HF := Lib.hid (show parseF text = (zTL, 0, 8) by unfold parseF; rw [if_pos hs])
  have hi : (65536 : Int) < (text.size : Int) := by omega
  have HB := Lib.hid (((Below.refl _ _).alloc (Nat.le_refl _) _).alloc (by simp) _ : Below w.heap.size w ((w.alloc tlZ).alloc tlZ))
  clear hs
  go_enter Tryz.func19, Tryz.ntmps19
  go_wp2
  refine bodyPost_ret (v := .tuple #[.agg #[.int .i64 0, .int .i64 0, .int .i64 0, .slice none 0 0], .int .i64 0, .int .i64 8]) (by simp [results, Tryz.results19, go_sem]) rfl (prs_none HF.out HB.out)
end Go.Proofs.YtenaifmkejmdaaaGreatDoor
