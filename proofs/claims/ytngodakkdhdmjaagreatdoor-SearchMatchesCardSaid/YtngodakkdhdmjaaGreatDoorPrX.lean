/- The program: Number. -/
import Derived.Test.YtngodakkdhdmjaaGreatDoorNuA
namespace Go.Proofs.YtngodakkdhdmjaaGreatDoor
open Go.RowKit

theorem enter_number (args : Array Value) (W : World) : (callFunc 116 args).run Tryz.prog W = .ok (.enter 116 args) W := by kernel_rfl
/-- the number found for a unit -/
def lastU (u : Int) : ByteArray → List (Sheet × ByteArray) → ByteArray
  | t, [] => t
  | t, p :: r => if p.1.unit = u then lastU u p.2 r else lastU u t r
theorem lastU_snoc (u : Int) : ∀ (l : List (Sheet × ByteArray)) (t : ByteArray) (p : Sheet × ByteArray), lastU u t (l ++ [p]) = if p.1.unit = u then p.2 else lastU u t l
  | [], t, p => rfl
  | q :: r, t, p => by
    rw [List.cons_append, lastU, lastU]
    split <;> exact lastU_snoc u r _ p
def pickU (s : Sheet) (u : Int) (n t : ByteArray) : ByteArray := if s.unit = u then n else t
theorem heap_newN (w : World) (o : Obj) : (w.alloc o).heap[w.heap.size]? = some o := by
  show (w.heap.push o)[w.heap.size]? = _
  simp
theorem heap_lt {W : World} {g : Nat} {o : Obj} (h : W.heap[g]? = some o) : g < W.heap.size := by
  rcases Nat.lt_or_ge g W.heap.size with hl | hl
  · exact hl
  · rw [Array.getElem?_eq_none hl] at h; cases h
/-- the cells of the closure that looks for a number -/
structure NumAt (g1 g2 : Nat) (u : Int) (t : ByteArray) (W : World) : Prop where
  unit : W.heap[g1]? = some (.cells #[.int .i64 u] 3 (0, 0))
  found : W.heap[g2]? = some (.cells #[.string t] 9 (0, 0))
theorem NumAt.aside {g1 g2 m : Nat} {u : Int} {t : ByteArray} {W W' : World} (h : NumAt g1 g2 u t W) (ha : Aside m W W') (h1 : g1 < m) (h2 : g2 < m) : NumAt g1 g2 u t W' :=
  ⟨(ha.same g1 (heap_lt h.unit) (.inl h1)).trans h.unit, (ha.same g2 (heap_lt h.found) (.inl h2)).trans h.found⟩
set_option maxHeartbeats 2000000 in
theorem numb1_c (s : Sheet) (n t : ByteArray) (vf : Value) (u : Int) (g1 g2 m B : Nat) (w w0 : World) (hvf : ∃ A c, vf = .slice A s.facts.length c) (h : NumAt g1 g2 u t w) (h0 : Below B w0 w) (hB : B ≤ g2) (hw : B ≤ w.heap.size) (_hm : m ≤ w.heap.size) (h2 : g2 < m) :
    Calls Tryz.prog 116 #[.agg #[.int .i64 s.unit, .int .i64 s.parent, .int .i64 s.level, .string s.mark, .string s.title, vf], .string n, .pointer (some ⟨g1, 0, none⟩), .pointer (some ⟨g2, 0, none⟩)] w fun e w' => e = .returned (.tuple #[]) ∧ NumAt g1 g2 u (pickU s u n t) w' ∧ Below B w0 w' ∧ w.heap.size ≤ w'.heap.size ∧ ∀ b, m ≤ b → b < w.heap.size → w'.heap[b]? = w.heap[b]? := by
  obtain ⟨Af, cf, rfl⟩ := hvf
  have hl1 := heap_lt h.unit
  have hl2 := heap_lt h.found
  have c1 : w.cell? ⟨g1, 0, none⟩ = some (.int .i64 u) := by rw [Lib.cell_of_heap h.unit]; rfl
  have c2 : w.cell? ⟨g2, 0, none⟩ = some (.string t) := by rw [Lib.cell_of_heap h.found]; rfl
  have f2 : w.frozen? ⟨g2, 0, none⟩ = false := Lib.frozen_of_heap h.found 0
  have hne : g1 ≠ g2 := by
    rintro rfl
    have := h.unit
    rw [h.found] at this
    cases this
  by_cases he : s.unit = u
  · have he1 : (s.unit == u) = true := by simp [he]
    have HE := Lib.hid (show pickU s u n t = n from if_pos he)
    have HW := Lib.hid (show NumAt g1 g2 u n (w.setCell ⟨g2, 0, none⟩ (.string n)) from ⟨(Below.heap_setCell _ _ _ _ hne).trans h.unit, by simp [World.setCell, Array.getElem?_modify, h.found]⟩)
    clear he
    go_enter Tryz.func116, Tryz.ntmps116
    go_wp2
    go_end0
    refine ⟨rfl, ?_, (h0.setCell hB _).alloc (by simp [World.setCell]; omega) _, by simp [World.setCell], fun b hb hlt => ?_⟩
    · rw [HE.out]
      exact ⟨(Below.heap_alloc _ _ _ (by simp [World.setCell]; omega)).trans HW.out.unit, (Below.heap_alloc _ _ _ (by simp [World.setCell]; omega)).trans HW.out.found⟩
    · rw [Below.heap_alloc _ _ _ (by simp [World.setCell]; omega), Below.heap_setCell _ _ _ _ (by show b ≠ g2; omega)]
  · have he1 : (s.unit == u) = false := by simp [he]
    have HE := Lib.hid (show pickU s u n t = t from if_neg he)
    clear he
    go_enter Tryz.func116, Tryz.ntmps116
    go_wp2
    go_end0
    refine ⟨rfl, ?_, h0.alloc hw _, by simp, fun b hb hlt => Below.heap_alloc _ _ _ hlt⟩
    rw [HE.out]
    exact ⟨(Below.heap_alloc _ _ _ hl1).trans h.unit, (Below.heap_alloc _ _ _ hl2).trans h.found⟩
theorem str_some (t : ByteArray) : (!t.toList.isEmpty) = decide (t ≠ ⟨#[]⟩) := by
  rw [str_empty, Bool.eq_iff_iff, Bool.not_eq_true', decide_eq_false_iff_not, decide_eq_true_iff]
  exact ⟨fun h e => h (by rw [e]; rfl), fun h e => h (ByteArray.ext (Array.eq_empty_of_size_eq_zero e))⟩
/-- the number of a unit in the finding aid of another one -/
def numU (c : Cat) (root u : Int) : ByteArray := if catE c = 0 then lastU u ⟨#[]⟩ (secnF c.sheets root) else ⟨#[]⟩
set_option maxRecDepth 100000 in
set_option maxHeartbeats 8000000 in
theorem Number_c (c : Cat) (root u : Int) (v1 v2 v3 : Value) (w : World) (B : Nat) (hB : B ≤ w.heap.size) (h : CatRep w B c v1 v2 v3) (h14 : catE c = 0 → c.sheets.length ≤ 14) :
    Calls Tryz.prog 74 #[.agg #[v1, v2, v3], .int .i64 root, .int .i64 u] w fun e w' => e = .returned (.tuple #[.string (numU c root u), .bool (decide (numU c root u ≠ ⟨#[]⟩))]) ∧ Below w.heap.size w w' := by
  have HC := Lib.hid (fun (W : World) (hW : Below w.heap.size w W) => Check_c c v1 v2 v3 W B (Nat.le_trans hB hW.size) (h.below (hW.mono hB)))
  by_cases h1 : catE c = 0
  · have hl := h14 h1
    have HE := Lib.hid (show numU c root u = lastU u ⟨#[]⟩ (secnF c.sheets root) by unfold numU; rw [if_pos h1])
    rw [h1] at HC
    clear h1
    have hsh := (h.sheets.mono shtS hB)
    go_enter Tryz.func74, Tryz.ntmps74
    go_wp2_with fail
    have b2 : Below w.heap.size w ((w.alloc (catC v1 v2 v3)).alloc (.cells #[.int .i64 u] 3)) := ((Below.refl _ _).alloc (Nat.le_refl _) _).alloc (by simp) _
    refine (HC.out _ b2).mono ?_
    rintro e w1 ⟨rfl, hb1⟩
    have B1 := b2.trans (hb1.mono b2.size)
    have hs1 := hb1.size
    simp only [World.size_alloc] at hs1 hb1
    have z0 : w1.cell? ⟨w.heap.size, 0, none⟩ = some v1 := (hb1.cell (p := ⟨w.heap.size, 0, none⟩) (by show w.heap.size < _; omega)).trans (by simp [World.cell?_alloc_lt])
    have z1 : w1.cell? ⟨w.heap.size, 1, none⟩ = some v2 := (hb1.cell (p := ⟨w.heap.size, 1, none⟩) (by show w.heap.size < _; omega)).trans (by simp [World.cell?_alloc_lt])
    have z2 : w1.cell? ⟨w.heap.size, 2, none⟩ = some v3 := (hb1.cell (p := ⟨w.heap.size, 2, none⟩) (by show w.heap.size < _; omega)).trans (by simp [World.cell?_alloc_lt])
    have zl : w.heap.size < w1.heap.size := by omega
    have u1 : w1.heap[w.heap.size + 1]? = some (.cells #[.int .i64 u] 3 (0, 0)) := (hb1.block _ (by omega)).trans (by have := heap_newN (w.alloc (catC v1 v2 v3)) (.cells #[.int .i64 u] 3); simpa only [World.size_alloc] using this)
    obtain ⟨W0, hW0⟩ : ∃ W0, w1.alloc (.cells #[.string ⟨#[]⟩] 9) = W0 := ⟨_, rfl⟩
    have hS0 : W0.heap.size = w1.heap.size + 1 := by rw [← hW0]; simp
    have B0 : Below w.heap.size w W0 := by rw [← hW0]; exact B1.alloc (by omega) _
    have hN0 : NumAt (w.heap.size + 1) w1.heap.size u ⟨#[]⟩ W0 := by
      rw [← hW0]
      exact ⟨(Below.heap_alloc _ _ _ (by omega)).trans u1, by show (w1.heap.push _)[w1.heap.size]? = _; simp⟩
    have HNU := Lib.hid (numbered2_c 116 (.pointer (some ⟨w.heap.size + 1, 0, none⟩)) (.pointer (some ⟨w1.heap.size, 0, none⟩)) c.sheets root v1 v2 v3 W0 w.heap.size (by omega) (hsh.below shtS B0) hl enter_number
      (fun out W => NumAt (w.heap.size + 1) w1.heap.size u (lastU u ⟨#[]⟩ out) W)
      (fun W hW => ⟨(hW.block _ (by omega)).trans hN0.unit, (hW.block _ (by omega)).trans hN0.found⟩)
      (fun out W W' hj ha => hj.aside ha (by omega) (by omega))
      (fun out s n vf W hj hb hsz _ hvf _ _ => (numb1_c s n _ vf u (w.heap.size + 1) w1.heap.size W0.heap.size w.heap.size W W0 (by obtain ⟨A, c, e, _⟩ := hvf; exact ⟨A, c, e⟩) hj hb (by omega) (by omega) (by omega) (by omega)).mono fun e w' ⟨h1, h2, h3, h4, h5⟩ => ⟨h1, by rw [lastU_snoc]; exact h2, h3, h4, fun b hb1 hb2 => h5 b hb1 (by omega)⟩))
    subst hW0
    clear hN0 B0 hS0 u1
    go_wp2_with fail
    refine HNU.out.mono ?_
    rintro e w2 ⟨rfl, hn2, B2, hs2⟩
    have c2 : w2.cell? ⟨w1.heap.size, 0, none⟩ = some (.string (lastU u ⟨#[]⟩ (secnF c.sheets root))) := by rw [Lib.cell_of_heap hn2.found]; rfl
    obtain ⟨t, ht⟩ : ∃ t, lastU u ⟨#[]⟩ (secnF c.sheets root) = t := ⟨_, rfl⟩
    have HT := Lib.hid (HE.out.trans ht)
    rw [ht] at c2
    clear ht hn2 HNU
    go_wp2
    go_quiet (fail)
    go_wp2
    go_ret2
    exact ⟨by rw [HT.out, ← str_some]; rfl, below_drewN (B1.trans (((Below.refl _ _).alloc (Nat.le_refl _) _ |>.mono (by omega)).trans B2)) _⟩
  · have HE := Lib.hid (show numU c root u = ⟨#[]⟩ by unfold numU; rw [if_neg h1])
    obtain ⟨n1, n2⟩ := ne_bool h1
    clear h1
    go_enter Tryz.func74, Tryz.ntmps74
    go_wp2_with fail
    have b2 : Below w.heap.size w ((w.alloc (catC v1 v2 v3)).alloc (.cells #[.int .i64 u] 3)) := ((Below.refl _ _).alloc (Nat.le_refl _) _).alloc (by simp) _
    refine (HC.out _ b2).mono ?_
    rintro e w1 ⟨rfl, hb1⟩
    go_wp2
    go_ret2
    exact ⟨by rw [HE.out]; rfl, b2.trans (hb1.mono b2.size)⟩
end Go.Proofs.YtngodakkdhdmjaaGreatDoor
