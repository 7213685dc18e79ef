/- A tree in memory. -/
import Derived.Test.YthbccfchjgihgaaGreatDoorRes
import Derived.BigQuiet
import Derived.IntWalk
import Derived.Test.YthbccfchjgihgaaGreatDoorTwo
import Derived.Test.YthbccfchjgihgaaGreatDoorStep
namespace Go.Proofs.YthbccfchjgihgaaGreatDoor
open Go.RowKit

theorem within_c (n lo hi : Int) (w : World) : Calls Tryz.prog 55 #[.int .i64 n, .int .i64 lo, .int .i64 hi] w fun e w' => e = .returned (.bool (inB n lo hi)) ∧ w = w' := by
  have HE := Lib.hid (show inB n lo hi = (decide (lo ≤ n) && decide (n ≤ hi)) from rfl)
  go_enter Tryz.func55, Tryz.ntmps55
  go_wp2
  all_goals
    go_ret
    refine ⟨ret_bool ?_, rfl⟩
    rw [HE.out]
    clear HE
    rw [Bool.eq_iff_iff]
    simp only [Bool.and_eq_true, decide_eq_true_eq, Bool.false_eq_true, false_iff]
    omega
theorem fits_c (p c : Int) (w : World) : Calls Tryz.prog 16 #[.int .i64 p, .int .i64 c] w fun e w' => e = .returned (.bool (fitB p c)) ∧ w = w' := by
  have H1 := Lib.hid (within_c p 1 4 w)
  have H2 := Lib.hid (within_c c 1 4 w)
  have HE := Lib.hid (show fitB p c = (inB p 1 4 && inB c 1 4 && (decide (p < c) || (decide (p = 2) && decide (c = 2)))) from rfl)
  cases hp : inB p 1 4
  · go_enter Tryz.func16, Tryz.ntmps16
    go_wp2_with fail
    refine H1.out.mono ?_
    rintro e w1 ⟨rfl, rfl⟩
    rw [hp]
    go_wp2
    go_ret
    exact ⟨ret_bool (by rw [HE.out, hp]; rfl), rfl⟩
  · cases hc : inB c 1 4
    · go_enter Tryz.func16, Tryz.ntmps16
      go_wp2_with fail
      refine H1.out.mono ?_
      rintro e w1 ⟨rfl, rfl⟩
      rw [hp]
      go_wp2_with fail
      refine H2.out.mono ?_
      rintro e w2 ⟨rfl, rfl⟩
      rw [hc]
      go_wp2
      go_ret
      exact ⟨ret_bool (by rw [HE.out, hp, hc]; rfl), rfl⟩
    · obtain ⟨r, hr⟩ : ∃ r, fitB p c = r := ⟨_, rfl⟩
      have HE2 := Lib.hid (show r = (decide (p < c) || (decide (p = 2) && decide (c = 2))) by rw [← hr, HE.out, hp, hc]; simp)
      rw [hr]
      clear hr
      go_enter Tryz.func16, Tryz.ntmps16
      go_wp2_with fail
      refine H1.out.mono ?_
      rintro e w1 ⟨rfl, rfl⟩
      rw [hp]
      go_wp2_with fail
      refine H2.out.mono ?_
      rintro e w2 ⟨rfl, rfl⟩
      rw [hc]
      clear HE H1 H2
      go_wp2
      all_goals
        go_ret
        refine ⟨ret_bool ?_, rfl⟩
        rw [HE2.out]
        clear HE2
        rw [Bool.eq_iff_iff]
        simp only [Bool.or_eq_true, Bool.and_eq_true, decide_eq_true_eq, beq_iff_eq, Bool.false_eq_true, false_iff, true_iff]
        omega

abbrev treV (vr vb : Value) : Value := .agg #[vr, vb]
abbrev treC (vr vb : Value) : Obj := .cells #[vr, vb] 25
abbrev brnV (x : Brn) (vk : Value) : Value := .agg #[.int .i64 x.id, .int .i64 x.parent, .int .i64 x.level, .string x.title, .string x.mark, vk]
abbrev brnC (x : Brn) (vk : Value) : Obj := .cells #[.int .i64 x.id, .int .i64 x.parent, .int .i64 x.level, .string x.title, .string x.mark, vk] 60
abbrev untV (x : Brn) : Value := .agg #[.int .i64 x.id, .int .i64 x.parent, .int .i64 x.level, .string x.title, .string x.mark]
abbrev untC (x : Brn) : Obj := .cells #[.int .i64 x.id, .int .i64 x.parent, .int .i64 x.level, .string x.title, .string x.mark] 35
structure TreRep (w : World) (B : Nat) (t : Tre) (vr vb : Value) : Prop where
  tops : Ints w B t.roots vr
  brs : Brns w B t.brs vb
theorem TreRep.below {w w' : World} {B : Nat} {t : Tre} {vr vb : Value} (h : TreRep w B t vr vb) (hb : Below B w w') : TreRep w' B t vr vb := ⟨h.tops.below intS hb, h.brs.below brnS hb⟩
theorem TreRep.mono {w : World} {B B' : Nat} {t : Tre} {vr vb : Value} (h : TreRep w B t vr vb) (hB : B ≤ B') : TreRep w B' t vr vb := ⟨h.tops.mono intS hB, h.brs.mono brnS hB⟩
theorem heap_newT (w : World) (o : Obj) : (w.alloc o).heap[w.heap.size]? = some o := by
  show (w.heap.push o)[w.heap.size]? = _
  simp
theorem heap_ltT {w : World} {b : Nat} {o : Obj} (h : w.heap[b]? = some o) : b < w.heap.size := by
  rcases Nat.lt_or_ge b w.heap.size with h' | h'
  · exact h'
  · simp [Array.getElem?_eq_none h'] at h
theorem treW_at {w W : World} {vr vb : Value} (hW : Below (w.heap.size + 1) (w.alloc (treC vr vb)) W) : W.cell? ⟨w.heap.size, 0, none⟩ = some vr ∧ W.cell? ⟨w.heap.size, 1, none⟩ = some vb ∧ w.heap.size < W.heap.size := by
  have k0 := (hW.block _ (by omega)).trans (heap_newT w (treC vr vb))
  exact ⟨by rw [Lib.cell_of_heap k0]; rfl, by rw [Lib.cell_of_heap k0]; rfl, heap_ltT k0⟩
theorem tre_new (w : World) (vr vb : Value) : Below w.heap.size w (w.alloc (treC vr vb)) := (Below.refl _ _).alloc (Nat.le_refl _) _
end Go.Proofs.YthbccfchjgihgaaGreatDoor
