/- apply and Apply. -/
import Derived.Test.YthabpkigflldmaaPos
import Derived.Test.YthabpkigflldmaaPlC
namespace Go.Proofs.Ythabpkigflldmaa
open Go.RowKit

def applyE (ls : List Shelf) (bs : List Box) (at_ : List Int) (c : Carry) : Int :=
  if bxIx bs c.box < 0 ∨ shIx ls c.to_ < 0 then 7 else if at_.getD (bxIx bs c.box).toNat 0 ≠ c.from_ then 10 else if c.from_ = c.to_ then 1 else if heldB ls bs (movedF bs at_ c) = false then 12 else 0
theorem shIx_mem {ls : List Shelf} {u : Int} (h : ¬ shIx ls u < 0) : ∃ s ∈ ls, s.id = u := by
  rcases idxF_cases (idS u) ls with ⟨h1, _⟩ | ⟨k, x, _, h2, h3, _⟩
  · exact absurd (show shIx ls u < 0 by unfold shIx; omega) h
  · exact ⟨x, List.mem_of_getElem? h2, by simpa [idS] using h3⟩
theorem bxIx_some {bs : List Box} {u : Int} (h : ¬ bxIx bs u < 0) : ∃ (k : Nat) (b : Box), bxIx bs u = (k : Int) ∧ bs[k]? = some b ∧ b.id = u := by
  rcases idxF_cases (idB u) bs with ⟨h1, _⟩ | ⟨k, x, h1, h2, h3, _⟩
  · exact absurd (show bxIx bs u < 0 by unfold bxIx; omega) h
  · exact ⟨k, x, h1, h2, by simpa [idB] using h3⟩
theorem right_moved {ls : List Shelf} {bs : List Box} {at_ : List Int} (h : Right ls bs at_) {c : Carry} (h2 : ¬ shIx ls c.to_ < 0) : Right ls bs (movedF bs at_ c) := by
  obtain ⟨s, hs, he⟩ := shIx_mem h2
  unfold movedF
  rw [← he]
  exact right_set h _ hs
set_option maxRecDepth 10000 in
set_option maxHeartbeats 2000000 in
theorem apply_a (ls : List Shelf) (bs : List Box) (at_ : List Int) (c : Carry) (vl vb va : Value) (w : World) (B : Nat) (hB : B ≤ w.heap.size) (hl : Shelves w B ls vl) (hbx : Boxes w B bs vb) (ha : Ints w B at_ va) (hst : startE ls bs = 0) (hr : Right ls bs at_) (h1 : bxIx bs c.box < 0) :
    Calls Try.prog 63 #[.agg #[vl, vb], va, .agg #[.int .i64 c.box, .int .i64 c.from_, .int .i64 c.to_]] w fun e w' => e = .returned (.tuple #[.slice none 0 0, .int .i64 7]) ∧ Below w.heap.size w w' := by
  have h128 := (boxes_ok (start_ok hst).2.1).1
  have hlen := hr.1
  have b0 : Below w.heap.size w ((w.alloc (houseC vl vb)).alloc (carryC c)) := ((Below.refl _ _).alloc (Nat.le_refl _) _).alloc (by simp) _
  have ZK := Lib.hid (fun (W : World) (hW : Below (w.heap.size + 2) ((w.alloc (houseC vl vb)).alloc (carryC c)) W) => (⟨(hW.cell (p := ⟨w.heap.size, 0, none⟩) (by simp)).trans (by simp [World.cell?_alloc_lt]), (hW.cell (p := ⟨w.heap.size, 1, none⟩) (by simp)).trans (by simp [World.cell?_alloc_lt]), (hW.cell (p := ⟨w.heap.size + 1, 0, none⟩) (by simp)).trans (by simp), (hW.cell (p := ⟨w.heap.size + 1, 1, none⟩) (by simp)).trans (by simp), (hW.cell (p := ⟨w.heap.size + 1, 2, none⟩) (by simp)).trans (by simp), by have := hW.size; simp at this; omega⟩ : W.cell? ⟨w.heap.size, 0, none⟩ = some vl ∧ W.cell? ⟨w.heap.size, 1, none⟩ = some vb ∧ W.cell? ⟨w.heap.size + 1, 0, none⟩ = some (.int .i64 c.box) ∧ W.cell? ⟨w.heap.size + 1, 1, none⟩ = some (.int .i64 c.from_) ∧ W.cell? ⟨w.heap.size + 1, 2, none⟩ = some (.int .i64 c.to_) ∧ w.heap.size + 1 < W.heap.size))
  have HIX := Lib.hid (fun (W : World) (hW : Below w.heap.size w W) => hindex_c c.box bs vl vb W B (Nat.le_trans hB hW.size) (hbx.below boS (hW.mono hB)) (by obtain ⟨A, c, rfl, _⟩ := id hl; exact ⟨_, _, _, rfl⟩))
  clear hst hr
  obtain ⟨A, c1, rfl, hc1, hc2, _⟩ := id hl
  obtain ⟨A', c', rfl, hd1, hd2, _⟩ := id hbx
  obtain ⟨A2, c2, rfl, he1, he2, _⟩ := id ha
  have HLN := Lib.hid hlen
  clear hlen
  go_enter Try.func63, Try.ntmps63
  go_wp2_with fail
  refine (HIX.out _ b0).mono ?_
  rintro e w1 ⟨rfl, hb1⟩
  simp only [World.size_alloc] at hb1
  have B1 := b0.trans (hb1.mono (by omega))
  obtain ⟨z0, z1, y0, y1, y2, hlt1⟩ := ZK.out w1 (hb1.mono (by omega))
  go_wp2
  go_ret2
  exact ⟨rfl, B1⟩
set_option maxRecDepth 10000 in
set_option maxHeartbeats 2000000 in
theorem apply_b (ls : List Shelf) (bs : List Box) (at_ : List Int) (c : Carry) (vl vb va : Value) (w : World) (B : Nat) (hB : B ≤ w.heap.size) (hl : Shelves w B ls vl) (hbx : Boxes w B bs vb) (ha : Ints w B at_ va) (hst : startE ls bs = 0) (hr : Right ls bs at_) (k : Nat) (h1 : bxIx bs c.box = (k : Int)) (h2 : shIx ls c.to_ < 0) :
    Calls Try.prog 63 #[.agg #[vl, vb], va, .agg #[.int .i64 c.box, .int .i64 c.from_, .int .i64 c.to_]] w fun e w' => e = .returned (.tuple #[.slice none 0 0, .int .i64 7]) ∧ Below w.heap.size w w' := by
  have h128 := (boxes_ok (start_ok hst).2.1).1
  have hlen := hr.1
  have b0 : Below w.heap.size w ((w.alloc (houseC vl vb)).alloc (carryC c)) := ((Below.refl _ _).alloc (Nat.le_refl _) _).alloc (by simp) _
  have ZK := Lib.hid (fun (W : World) (hW : Below (w.heap.size + 2) ((w.alloc (houseC vl vb)).alloc (carryC c)) W) => (⟨(hW.cell (p := ⟨w.heap.size, 0, none⟩) (by simp)).trans (by simp [World.cell?_alloc_lt]), (hW.cell (p := ⟨w.heap.size, 1, none⟩) (by simp)).trans (by simp [World.cell?_alloc_lt]), (hW.cell (p := ⟨w.heap.size + 1, 0, none⟩) (by simp)).trans (by simp), (hW.cell (p := ⟨w.heap.size + 1, 1, none⟩) (by simp)).trans (by simp), (hW.cell (p := ⟨w.heap.size + 1, 2, none⟩) (by simp)).trans (by simp), by have := hW.size; simp at this; omega⟩ : W.cell? ⟨w.heap.size, 0, none⟩ = some vl ∧ W.cell? ⟨w.heap.size, 1, none⟩ = some vb ∧ W.cell? ⟨w.heap.size + 1, 0, none⟩ = some (.int .i64 c.box) ∧ W.cell? ⟨w.heap.size + 1, 1, none⟩ = some (.int .i64 c.from_) ∧ W.cell? ⟨w.heap.size + 1, 2, none⟩ = some (.int .i64 c.to_) ∧ w.heap.size + 1 < W.heap.size))
  have HIX := Lib.hid (fun (W : World) (hW : Below w.heap.size w W) => hindex_c c.box bs vl vb W B (Nat.le_trans hB hW.size) (hbx.below boS (hW.mono hB)) (by obtain ⟨A, c, rfl, _⟩ := id hl; exact ⟨_, _, _, rfl⟩))
  have HSH := Lib.hid (fun (W : World) (hW : Below w.heap.size w W) => hshelf_c c.to_ ls vl vb W B (Nat.le_trans hB hW.size) (hl.below shS (hW.mono hB)) (by obtain ⟨A, c, rfl, _⟩ := id hbx; exact ⟨_, _, _, rfl⟩))
  rw [h1] at HIX
  clear hst hr h1
  obtain ⟨A, c1, rfl, hc1, hc2, _⟩ := id hl
  obtain ⟨A', c', rfl, hd1, hd2, _⟩ := id hbx
  obtain ⟨A2, c2, rfl, he1, he2, _⟩ := id ha
  have HLN := Lib.hid hlen
  clear hlen
  go_enter Try.func63, Try.ntmps63
  go_wp2_with fail
  refine (HIX.out _ b0).mono ?_
  rintro e w1 ⟨rfl, hb1⟩
  simp only [World.size_alloc] at hb1
  have B1 := b0.trans (hb1.mono (by omega))
  obtain ⟨z0, z1, y0, y1, y2, hlt1⟩ := ZK.out w1 (hb1.mono (by omega))
  go_wp2_with fail
  refine (HSH.out _ B1).mono ?_
  rintro e w2 ⟨rfl, hb2⟩
  have B2 := B1.trans (hb2.mono B1.size)
  have bK2 := (hb1.mono (show w.heap.size + 2 ≤ w.heap.size + 1 + 1 by omega)).trans (hb2.mono (by omega))
  go_wp2
  go_ret2
  exact ⟨rfl, B2⟩
set_option maxRecDepth 10000 in
set_option maxHeartbeats 2000000 in
theorem apply_c (ls : List Shelf) (bs : List Box) (at_ : List Int) (c : Carry) (vl vb va : Value) (w : World) (B : Nat) (hB : B ≤ w.heap.size) (hl : Shelves w B ls vl) (hbx : Boxes w B bs vb) (ha : Ints w B at_ va) (hst : startE ls bs = 0) (hr : Right ls bs at_) (k : Nat) (h1 : bxIx bs c.box = (k : Int)) (hk : k < bs.length) (h2 : ¬ shIx ls c.to_ < 0) (q : Int) (hq : at_[k]? = some q) (h3 : q ≠ c.from_) :
    Calls Try.prog 63 #[.agg #[vl, vb], va, .agg #[.int .i64 c.box, .int .i64 c.from_, .int .i64 c.to_]] w fun e w' => e = .returned (.tuple #[.slice none 0 0, .int .i64 10]) ∧ Below w.heap.size w w' := by
  have h128 := (boxes_ok (start_ok hst).2.1).1
  have hlen := hr.1
  have b0 : Below w.heap.size w ((w.alloc (houseC vl vb)).alloc (carryC c)) := ((Below.refl _ _).alloc (Nat.le_refl _) _).alloc (by simp) _
  have ZK := Lib.hid (fun (W : World) (hW : Below (w.heap.size + 2) ((w.alloc (houseC vl vb)).alloc (carryC c)) W) => (⟨(hW.cell (p := ⟨w.heap.size, 0, none⟩) (by simp)).trans (by simp [World.cell?_alloc_lt]), (hW.cell (p := ⟨w.heap.size, 1, none⟩) (by simp)).trans (by simp [World.cell?_alloc_lt]), (hW.cell (p := ⟨w.heap.size + 1, 0, none⟩) (by simp)).trans (by simp), (hW.cell (p := ⟨w.heap.size + 1, 1, none⟩) (by simp)).trans (by simp), (hW.cell (p := ⟨w.heap.size + 1, 2, none⟩) (by simp)).trans (by simp), by have := hW.size; simp at this; omega⟩ : W.cell? ⟨w.heap.size, 0, none⟩ = some vl ∧ W.cell? ⟨w.heap.size, 1, none⟩ = some vb ∧ W.cell? ⟨w.heap.size + 1, 0, none⟩ = some (.int .i64 c.box) ∧ W.cell? ⟨w.heap.size + 1, 1, none⟩ = some (.int .i64 c.from_) ∧ W.cell? ⟨w.heap.size + 1, 2, none⟩ = some (.int .i64 c.to_) ∧ w.heap.size + 1 < W.heap.size))
  have HIX := Lib.hid (fun (W : World) (hW : Below w.heap.size w W) => hindex_c c.box bs vl vb W B (Nat.le_trans hB hW.size) (hbx.below boS (hW.mono hB)) (by obtain ⟨A, c, rfl, _⟩ := id hl; exact ⟨_, _, _, rfl⟩))
  have HSH := Lib.hid (fun (W : World) (hW : Below w.heap.size w W) => hshelf_c c.to_ ls vl vb W B (Nat.le_trans hB hW.size) (hl.below shS (hW.mono hB)) (by obtain ⟨A, c, rfl, _⟩ := id hbx; exact ⟨_, _, _, rfl⟩))
  rw [h1] at HIX
  clear hst hr h1
  obtain ⟨A, c1, rfl, hc1, hc2, _⟩ := id hl
  obtain ⟨A', c', rfl, hd1, hd2, _⟩ := id hbx
  obtain ⟨A2, c2, rfl, he1, he2, _⟩ := id ha
  obtain ⟨ba, offa, rfl, hbBa, a0⟩ := Ints.at_ ha hq
  have hki1 : (k : Int) < (at_.length : Int) := by omega
  have hn3 : (q != c.from_) = true := by simpa using h3
  clear h3 hq
  have HLN := Lib.hid hlen
  clear hlen
  go_enter Try.func63, Try.ntmps63
  go_wp2_with fail
  refine (HIX.out _ b0).mono ?_
  rintro e w1 ⟨rfl, hb1⟩
  simp only [World.size_alloc] at hb1
  have B1 := b0.trans (hb1.mono (by omega))
  obtain ⟨z0, z1, y0, y1, y2, hlt1⟩ := ZK.out w1 (hb1.mono (by omega))
  go_wp2_with fail
  refine (HSH.out _ B1).mono ?_
  rintro e w2 ⟨rfl, hb2⟩
  have B2 := B1.trans (hb2.mono B1.size)
  have bK2 := (hb1.mono (show w.heap.size + 2 ≤ w.heap.size + 1 + 1 by omega)).trans (hb2.mono (by omega))
  clear z0 z1 y0 y1 y2
  obtain ⟨z0, z1, y0, y1, y2, hlt2⟩ := ZK.out w2 bK2
  have a1 := (B2.cell (p := ⟨ba, offa + k, none⟩) (by show ba < _; omega)).trans a0
  have hbal : ba < w2.heap.size := by omega
  clear a0
  go_wp2
  go_quiet (fail)
  go_wp2
  go_ret2
  exact ⟨rfl, below_drewN B2 _⟩
set_option maxRecDepth 10000 in
set_option maxHeartbeats 2000000 in
theorem apply_d (ls : List Shelf) (bs : List Box) (at_ : List Int) (c : Carry) (vl vb va : Value) (w : World) (B : Nat) (hB : B ≤ w.heap.size) (hl : Shelves w B ls vl) (hbx : Boxes w B bs vb) (ha : Ints w B at_ va) (hst : startE ls bs = 0) (hr : Right ls bs at_) (k : Nat) (h1 : bxIx bs c.box = (k : Int)) (hk : k < bs.length) (h2 : ¬ shIx ls c.to_ < 0) (q : Int) (hq : at_[k]? = some q) (h3 : q = c.from_) (h4 : c.from_ = c.to_) :
    Calls Try.prog 63 #[.agg #[vl, vb], va, .agg #[.int .i64 c.box, .int .i64 c.from_, .int .i64 c.to_]] w fun e w' => e = .returned (.tuple #[.slice none 0 0, .int .i64 1]) ∧ Below w.heap.size w w' := by
  have h128 := (boxes_ok (start_ok hst).2.1).1
  have hlen := hr.1
  have b0 : Below w.heap.size w ((w.alloc (houseC vl vb)).alloc (carryC c)) := ((Below.refl _ _).alloc (Nat.le_refl _) _).alloc (by simp) _
  have ZK := Lib.hid (fun (W : World) (hW : Below (w.heap.size + 2) ((w.alloc (houseC vl vb)).alloc (carryC c)) W) => (⟨(hW.cell (p := ⟨w.heap.size, 0, none⟩) (by simp)).trans (by simp [World.cell?_alloc_lt]), (hW.cell (p := ⟨w.heap.size, 1, none⟩) (by simp)).trans (by simp [World.cell?_alloc_lt]), (hW.cell (p := ⟨w.heap.size + 1, 0, none⟩) (by simp)).trans (by simp), (hW.cell (p := ⟨w.heap.size + 1, 1, none⟩) (by simp)).trans (by simp), (hW.cell (p := ⟨w.heap.size + 1, 2, none⟩) (by simp)).trans (by simp), by have := hW.size; simp at this; omega⟩ : W.cell? ⟨w.heap.size, 0, none⟩ = some vl ∧ W.cell? ⟨w.heap.size, 1, none⟩ = some vb ∧ W.cell? ⟨w.heap.size + 1, 0, none⟩ = some (.int .i64 c.box) ∧ W.cell? ⟨w.heap.size + 1, 1, none⟩ = some (.int .i64 c.from_) ∧ W.cell? ⟨w.heap.size + 1, 2, none⟩ = some (.int .i64 c.to_) ∧ w.heap.size + 1 < W.heap.size))
  have HIX := Lib.hid (fun (W : World) (hW : Below w.heap.size w W) => hindex_c c.box bs vl vb W B (Nat.le_trans hB hW.size) (hbx.below boS (hW.mono hB)) (by obtain ⟨A, c, rfl, _⟩ := id hl; exact ⟨_, _, _, rfl⟩))
  have HSH := Lib.hid (fun (W : World) (hW : Below w.heap.size w W) => hshelf_c c.to_ ls vl vb W B (Nat.le_trans hB hW.size) (hl.below shS (hW.mono hB)) (by obtain ⟨A, c, rfl, _⟩ := id hbx; exact ⟨_, _, _, rfl⟩))
  rw [h1] at HIX
  clear hst hr h1
  obtain ⟨A, c1, rfl, hc1, hc2, _⟩ := id hl
  obtain ⟨A', c', rfl, hd1, hd2, _⟩ := id hbx
  obtain ⟨A2, c2, rfl, he1, he2, _⟩ := id ha
  obtain ⟨ba, offa, rfl, hbBa, a0⟩ := Ints.at_ ha hq
  have hki1 : (k : Int) < (at_.length : Int) := by omega
  have hn3 : (q != c.from_) = false := by simpa using h3
  clear h3 hq
  have hn4 : (c.from_ == c.to_) = true := by simpa using h4
  clear h4
  have HLN := Lib.hid hlen
  clear hlen
  go_enter Try.func63, Try.ntmps63
  go_wp2_with fail
  refine (HIX.out _ b0).mono ?_
  rintro e w1 ⟨rfl, hb1⟩
  simp only [World.size_alloc] at hb1
  have B1 := b0.trans (hb1.mono (by omega))
  obtain ⟨z0, z1, y0, y1, y2, hlt1⟩ := ZK.out w1 (hb1.mono (by omega))
  go_wp2_with fail
  refine (HSH.out _ B1).mono ?_
  rintro e w2 ⟨rfl, hb2⟩
  have B2 := B1.trans (hb2.mono B1.size)
  have bK2 := (hb1.mono (show w.heap.size + 2 ≤ w.heap.size + 1 + 1 by omega)).trans (hb2.mono (by omega))
  clear z0 z1 y0 y1 y2
  obtain ⟨z0, z1, y0, y1, y2, hlt2⟩ := ZK.out w2 bK2
  have a1 := (B2.cell (p := ⟨ba, offa + k, none⟩) (by show ba < _; omega)).trans a0
  have hbal : ba < w2.heap.size := by omega
  clear a0
  go_wp2
  go_quiet (fail)
  go_wp2
  go_ret2
  exact ⟨rfl, below_drewN B2 _⟩
set_option maxRecDepth 10000 in
set_option maxHeartbeats 2000000 in
theorem apply_e (ls : List Shelf) (bs : List Box) (at_ : List Int) (c : Carry) (vl vb va : Value) (w : World) (B : Nat) (hB : B ≤ w.heap.size) (hl : Shelves w B ls vl) (hbx : Boxes w B bs vb) (ha : Ints w B at_ va) (hst : startE ls bs = 0) (hr : Right ls bs at_) (k : Nat) (h1 : bxIx bs c.box = (k : Int)) (hk : k < bs.length) (h2 : ¬ shIx ls c.to_ < 0) (q : Int) (hq : at_[k]? = some q) (h3 : q = c.from_) (h4 : c.from_ ≠ c.to_) (h5 : heldB ls bs (at_.set k c.to_) = false) :
    Calls Try.prog 63 #[.agg #[vl, vb], va, .agg #[.int .i64 c.box, .int .i64 c.from_, .int .i64 c.to_]] w fun e w' => e = .returned (.tuple #[.slice none 0 0, .int .i64 12]) ∧ Below w.heap.size w w' := by
  have h128 := (boxes_ok (start_ok hst).2.1).1
  have hlen := hr.1
  have b0 : Below w.heap.size w ((w.alloc (houseC vl vb)).alloc (carryC c)) := ((Below.refl _ _).alloc (Nat.le_refl _) _).alloc (by simp) _
  have ZK := Lib.hid (fun (W : World) (hW : Below (w.heap.size + 2) ((w.alloc (houseC vl vb)).alloc (carryC c)) W) => (⟨(hW.cell (p := ⟨w.heap.size, 0, none⟩) (by simp)).trans (by simp [World.cell?_alloc_lt]), (hW.cell (p := ⟨w.heap.size, 1, none⟩) (by simp)).trans (by simp [World.cell?_alloc_lt]), (hW.cell (p := ⟨w.heap.size + 1, 0, none⟩) (by simp)).trans (by simp), (hW.cell (p := ⟨w.heap.size + 1, 1, none⟩) (by simp)).trans (by simp), (hW.cell (p := ⟨w.heap.size + 1, 2, none⟩) (by simp)).trans (by simp), by have := hW.size; simp at this; omega⟩ : W.cell? ⟨w.heap.size, 0, none⟩ = some vl ∧ W.cell? ⟨w.heap.size, 1, none⟩ = some vb ∧ W.cell? ⟨w.heap.size + 1, 0, none⟩ = some (.int .i64 c.box) ∧ W.cell? ⟨w.heap.size + 1, 1, none⟩ = some (.int .i64 c.from_) ∧ W.cell? ⟨w.heap.size + 1, 2, none⟩ = some (.int .i64 c.to_) ∧ w.heap.size + 1 < W.heap.size))
  have HIX := Lib.hid (fun (W : World) (hW : Below w.heap.size w W) => hindex_c c.box bs vl vb W B (Nat.le_trans hB hW.size) (hbx.below boS (hW.mono hB)) (by obtain ⟨A, c, rfl, _⟩ := id hl; exact ⟨_, _, _, rfl⟩))
  have HSH := Lib.hid (fun (W : World) (hW : Below w.heap.size w W) => hshelf_c c.to_ ls vl vb W B (Nat.le_trans hB hW.size) (hl.below shS (hW.mono hB)) (by obtain ⟨A, c, rfl, _⟩ := id hbx; exact ⟨_, _, _, rfl⟩))
  rw [h1] at HIX
  have hrm : Right ls bs (at_.set k c.to_) := by obtain ⟨s, hs, he⟩ := shIx_mem h2; rw [← he]; exact right_set hr _ hs
  have HCK := check_right hst hrm
  rw [h5] at HCK
  have HCA := Lib.hid (fun (W : World) (hW : Below w.heap.size w W) => carried_c at_ va k c.to_ W B (Nat.le_trans hB hW.size) (ha.below inS (hW.mono hB)) (by omega) (by omega))
  have HCH := Lib.hid (fun (v1 : Value) (W : World) (h1 : SlRep 1 (flat intEnc) W (fun b => b < W.heap.size) (at_.set k c.to_) v1) (hW : Below w.heap.size w W) => check_c ls bs (at_.set k c.to_) vl vb v1 W W.heap.size (Nat.le_refl _) ((hl.below shS (hW.mono hB)).mono shS (Nat.le_trans hB hW.size)) ((hbx.below boS (hW.mono hB)).mono boS (Nat.le_trans hB hW.size)) h1 hst)
  rw [HCK] at HCH
  simp only [fitsE] at HCH
  clear HCK hrm
  clear hst hr h1
  obtain ⟨A, c1, rfl, hc1, hc2, _⟩ := id hl
  obtain ⟨A', c', rfl, hd1, hd2, _⟩ := id hbx
  obtain ⟨A2, c2, rfl, he1, he2, _⟩ := id ha
  obtain ⟨ba, offa, rfl, hbBa, a0⟩ := Ints.at_ ha hq
  have hki1 : (k : Int) < (at_.length : Int) := by omega
  have hn3 : (q != c.from_) = false := by simpa using h3
  clear h3 hq
  have hn4 : (c.from_ == c.to_) = false := by simpa using h4
  clear h4 h5
  have HLN := Lib.hid hlen
  clear hlen
  go_enter Try.func63, Try.ntmps63
  go_wp2_with fail
  refine (HIX.out _ b0).mono ?_
  rintro e w1 ⟨rfl, hb1⟩
  simp only [World.size_alloc] at hb1
  have B1 := b0.trans (hb1.mono (by omega))
  obtain ⟨z0, z1, y0, y1, y2, hlt1⟩ := ZK.out w1 (hb1.mono (by omega))
  go_wp2_with fail
  refine (HSH.out _ B1).mono ?_
  rintro e w2 ⟨rfl, hb2⟩
  have B2 := B1.trans (hb2.mono B1.size)
  have bK2 := (hb1.mono (show w.heap.size + 2 ≤ w.heap.size + 1 + 1 by omega)).trans (hb2.mono (by omega))
  clear z0 z1 y0 y1 y2
  obtain ⟨z0, z1, y0, y1, y2, hlt2⟩ := ZK.out w2 bK2
  have a1 := (B2.cell (p := ⟨ba, offa + k, none⟩) (by show ba < _; omega)).trans a0
  have hbal : ba < w2.heap.size := by omega
  clear a0
  go_wp2
  go_quiet (fail)
  go_wp2_with fail
  refine (HCA.out _ (below_drewN B2 _)).mono ?_
  rintro e w3 ⟨v3, rfl, hown, hb3⟩
  have hs3 : w2.heap.size ≤ w3.heap.size := hb3.size
  change Below w2.heap.size _ _ at hb3
  change OwnRep 1 (flat intEnc) 3 w2.heap.size _ _ _ at hown
  have B3 := (below_drewN B2 _).trans (hb3.mono B2.size)
  have bK3 := (below_drewN bK2 _).trans (hb3.mono (by omega))
  clear z0 z1 y0 y1 y2 a1
  obtain ⟨z0, z1, y0, y1, y2, hlt3⟩ := ZK.out w3 bK3
  go_wp2_with fail
  refine (HCH.out _ _ (hown.toSl inS) B3).mono ?_
  rintro e w4 ⟨rfl, hb4⟩
  have B4 := B3.trans (hb4.mono B3.size)
  go_wp2
  go_ret2
  exact ⟨rfl, B4⟩
set_option maxRecDepth 10000 in
set_option maxHeartbeats 2000000 in
theorem apply_f (ls : List Shelf) (bs : List Box) (at_ : List Int) (c : Carry) (vl vb va : Value) (w : World) (B : Nat) (hB : B ≤ w.heap.size) (hl : Shelves w B ls vl) (hbx : Boxes w B bs vb) (ha : Ints w B at_ va) (hst : startE ls bs = 0) (hr : Right ls bs at_) (k : Nat) (h1 : bxIx bs c.box = (k : Int)) (hk : k < bs.length) (h2 : ¬ shIx ls c.to_ < 0) (q : Int) (hq : at_[k]? = some q) (h3 : q = c.from_) (h4 : c.from_ ≠ c.to_) (h5 : heldB ls bs (at_.set k c.to_) = true) :
    Calls Try.prog 63 #[.agg #[vl, vb], va, .agg #[.int .i64 c.box, .int .i64 c.from_, .int .i64 c.to_]] w fun e w' => ∃ v', e = .returned (.tuple #[v', .int .i64 0]) ∧ OwnRep 1 (flat intEnc) 3 w.heap.size w' (at_.set k c.to_) v' ∧ Below w.heap.size w w' := by
  have h128 := (boxes_ok (start_ok hst).2.1).1
  have hlen := hr.1
  have b0 : Below w.heap.size w ((w.alloc (houseC vl vb)).alloc (carryC c)) := ((Below.refl _ _).alloc (Nat.le_refl _) _).alloc (by simp) _
  have ZK := Lib.hid (fun (W : World) (hW : Below (w.heap.size + 2) ((w.alloc (houseC vl vb)).alloc (carryC c)) W) => (⟨(hW.cell (p := ⟨w.heap.size, 0, none⟩) (by simp)).trans (by simp [World.cell?_alloc_lt]), (hW.cell (p := ⟨w.heap.size, 1, none⟩) (by simp)).trans (by simp [World.cell?_alloc_lt]), (hW.cell (p := ⟨w.heap.size + 1, 0, none⟩) (by simp)).trans (by simp), (hW.cell (p := ⟨w.heap.size + 1, 1, none⟩) (by simp)).trans (by simp), (hW.cell (p := ⟨w.heap.size + 1, 2, none⟩) (by simp)).trans (by simp), by have := hW.size; simp at this; omega⟩ : W.cell? ⟨w.heap.size, 0, none⟩ = some vl ∧ W.cell? ⟨w.heap.size, 1, none⟩ = some vb ∧ W.cell? ⟨w.heap.size + 1, 0, none⟩ = some (.int .i64 c.box) ∧ W.cell? ⟨w.heap.size + 1, 1, none⟩ = some (.int .i64 c.from_) ∧ W.cell? ⟨w.heap.size + 1, 2, none⟩ = some (.int .i64 c.to_) ∧ w.heap.size + 1 < W.heap.size))
  have HIX := Lib.hid (fun (W : World) (hW : Below w.heap.size w W) => hindex_c c.box bs vl vb W B (Nat.le_trans hB hW.size) (hbx.below boS (hW.mono hB)) (by obtain ⟨A, c, rfl, _⟩ := id hl; exact ⟨_, _, _, rfl⟩))
  have HSH := Lib.hid (fun (W : World) (hW : Below w.heap.size w W) => hshelf_c c.to_ ls vl vb W B (Nat.le_trans hB hW.size) (hl.below shS (hW.mono hB)) (by obtain ⟨A, c, rfl, _⟩ := id hbx; exact ⟨_, _, _, rfl⟩))
  rw [h1] at HIX
  have hrm : Right ls bs (at_.set k c.to_) := by obtain ⟨s, hs, he⟩ := shIx_mem h2; rw [← he]; exact right_set hr _ hs
  have HCK := check_right hst hrm
  rw [h5] at HCK
  have HCA := Lib.hid (fun (W : World) (hW : Below w.heap.size w W) => carried_c at_ va k c.to_ W B (Nat.le_trans hB hW.size) (ha.below inS (hW.mono hB)) (by omega) (by omega))
  have HCH := Lib.hid (fun (v1 : Value) (W : World) (h1 : SlRep 1 (flat intEnc) W (fun b => b < W.heap.size) (at_.set k c.to_) v1) (hW : Below w.heap.size w W) => check_c ls bs (at_.set k c.to_) vl vb v1 W W.heap.size (Nat.le_refl _) ((hl.below shS (hW.mono hB)).mono shS (Nat.le_trans hB hW.size)) ((hbx.below boS (hW.mono hB)).mono boS (Nat.le_trans hB hW.size)) h1 hst)
  rw [HCK] at HCH
  simp only [fitsE] at HCH
  clear HCK hrm
  clear hst hr h1
  obtain ⟨A, c1, rfl, hc1, hc2, _⟩ := id hl
  obtain ⟨A', c', rfl, hd1, hd2, _⟩ := id hbx
  obtain ⟨A2, c2, rfl, he1, he2, _⟩ := id ha
  obtain ⟨ba, offa, rfl, hbBa, a0⟩ := Ints.at_ ha hq
  have hki1 : (k : Int) < (at_.length : Int) := by omega
  have hn3 : (q != c.from_) = false := by simpa using h3
  clear h3 hq
  have hn4 : (c.from_ == c.to_) = false := by simpa using h4
  clear h4 h5
  have HLN := Lib.hid hlen
  clear hlen
  go_enter Try.func63, Try.ntmps63
  go_wp2_with fail
  refine (HIX.out _ b0).mono ?_
  rintro e w1 ⟨rfl, hb1⟩
  simp only [World.size_alloc] at hb1
  have B1 := b0.trans (hb1.mono (by omega))
  obtain ⟨z0, z1, y0, y1, y2, hlt1⟩ := ZK.out w1 (hb1.mono (by omega))
  go_wp2_with fail
  refine (HSH.out _ B1).mono ?_
  rintro e w2 ⟨rfl, hb2⟩
  have B2 := B1.trans (hb2.mono B1.size)
  have bK2 := (hb1.mono (show w.heap.size + 2 ≤ w.heap.size + 1 + 1 by omega)).trans (hb2.mono (by omega))
  clear z0 z1 y0 y1 y2
  obtain ⟨z0, z1, y0, y1, y2, hlt2⟩ := ZK.out w2 bK2
  have a1 := (B2.cell (p := ⟨ba, offa + k, none⟩) (by show ba < _; omega)).trans a0
  have hbal : ba < w2.heap.size := by omega
  clear a0
  go_wp2
  go_quiet (fail)
  go_wp2_with fail
  refine (HCA.out _ (below_drewN B2 _)).mono ?_
  rintro e w3 ⟨v3, rfl, hown, hb3⟩
  have hs3 : w2.heap.size ≤ w3.heap.size := hb3.size
  change Below w2.heap.size _ _ at hb3
  change OwnRep 1 (flat intEnc) 3 w2.heap.size _ _ _ at hown
  have B3 := (below_drewN B2 _).trans (hb3.mono B2.size)
  have bK3 := (below_drewN bK2 _).trans (hb3.mono (by omega))
  clear z0 z1 y0 y1 y2 a1
  obtain ⟨z0, z1, y0, y1, y2, hlt3⟩ := ZK.out w3 bK3
  go_wp2_with fail
  refine (HCH.out _ _ (hown.toSl inS) B3).mono ?_
  rintro e w4 ⟨rfl, hb4⟩
  have B4 := B3.trans (hb4.mono B3.size)
  have hown4 := hown.below inS hb4
  have hB2s := B2.size
  go_wp2
  go_ret2
  exact ⟨_, rfl, hown4.base_le (by omega), B4⟩
end Go.Proofs.Ythabpkigflldmaa
