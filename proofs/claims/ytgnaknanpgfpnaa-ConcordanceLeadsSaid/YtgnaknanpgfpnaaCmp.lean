/- cmp.Compare at strings and ints, cmp.Or, and the order by which Collect sorts. -/
import Derived.Test.YtgnaknanpgfpnaaData
import Derived.Sort.Grow
namespace Go.Proofs.Ytgnaknanpgfpnaa
open Go.RowKit

def lessB (a b : ByteArray) : Bool := Op.bytesLess a.toList b.toList
def cmpS (a b : ByteArray) : Int := if lessB a b then -1 else if a = b then 0 else 1
def cmpI (a b : Int) : Int := if a < b then -1 else if b < a then 1 else 0

theorem cmpS_c (a b : ByteArray) (w : World) : Calls Try.prog 43 #[.string a, .string b] w fun e w' => e = .returned (.int .i64 (cmpS a b)) ∧ w = w' := by
  by_cases hab : a = b
  · subst hab
    cases hl : Op.bytesLess a.toList a.toList
    · have HE := Lib.hid (show cmpS a a = 0 by simp [cmpS, lessB, hl])
      go_enter Try.func43, Try.ntmps43
      go_wp2
      go_ret
      exact ⟨ret_int HE.out.symm, rfl⟩
    · have HE := Lib.hid (show cmpS a a = -1 by simp [cmpS, lessB, hl])
      go_enter Try.func43, Try.ntmps43
      go_wp2
      go_ret
      exact ⟨ret_int HE.out.symm, rfl⟩
  · have hne : (a.toList == b.toList) = false := by rw [str_eq]; simpa using hab
    have hne2 : ¬ a.toList = b.toList := by rw [str_iff]; exact hab
    cases hl : Op.bytesLess a.toList b.toList
    · have HE := Lib.hid (show cmpS a b = 1 by simp [cmpS, lessB, hl, hab])
      go_enter Try.func43, Try.ntmps43
      go_wp2
      go_ret
      exact ⟨ret_int HE.out.symm, rfl⟩
    · have HE := Lib.hid (show cmpS a b = -1 by simp [cmpS, lessB, hl])
      go_enter Try.func43, Try.ntmps43
      go_wp2
      go_ret
      exact ⟨ret_int HE.out.symm, rfl⟩

theorem cmpI_c (a b : Int) (w : World) : Calls Try.prog 44 #[.int .i64 a, .int .i64 b] w fun e w' => e = .returned (.int .i64 (cmpI a b)) ∧ w = w' := by
  by_cases h1 : a < b
  · have HE := Lib.hid (show cmpI a b = -1 by simp [cmpI, h1])
    go_enter Try.func44, Try.ntmps44
    go_wp2
    go_ret
    exact ⟨ret_int HE.out.symm, rfl⟩
  · by_cases h2 : b < a
    · have HE := Lib.hid (show cmpI a b = 1 by simp [cmpI, h1, h2])
      go_enter Try.func44, Try.ntmps44
      go_wp2
      go_ret
      exact ⟨ret_int HE.out.symm, rfl⟩
    · have HE := Lib.hid (show cmpI a b = 0 by simp [cmpI, h1, h2])
      go_enter Try.func44, Try.ntmps44
      go_wp2
      go_ret
      exact ⟨ret_int HE.out.symm, rfl⟩

def or2 (a b : Int) : Int := if a ≠ 0 then a else b
theorem or_c (a b : Int) (g : Nat) (w : World) (h0 : w.cell? ⟨g, 0, none⟩ = some (.int .i64 a)) (h1 : w.cell? ⟨g, 1, none⟩ = some (.int .i64 b)) :
    Calls Try.prog 42 #[.slice (some ⟨g, 0, none⟩) 2 2] w fun e w' => e = .returned (.int .i64 (or2 a b)) ∧ w = w' := by
  by_cases ha : a = 0
  · have HE := Lib.hid (show or2 a b = b by simp [or2, ha])
    subst ha
    by_cases hb : b = 0
    · subst hb
      go_enter Try.func42, Try.ntmps42
      go_wp2
      go_rounds 3
      go_ret
      exact ⟨ret_int HE.out.symm, rfl⟩
    · have hb1 : (b != 0) = true := by simpa using hb
      have hb2 : (b == 0) = false := by simpa using hb
      go_enter Try.func42, Try.ntmps42
      go_wp2
      go_rounds 3
      go_ret
      exact ⟨ret_int HE.out.symm, rfl⟩
  · have HE := Lib.hid (show or2 a b = a by simp [or2, ha])
    have hb1 : (a != 0) = true := by simpa using ha
    have hb2 : (a == 0) = false := by simpa using ha
    go_enter Try.func42, Try.ntmps42
    go_wp2
    go_rounds 3
    go_ret
    exact ⟨ret_int HE.out.symm, rfl⟩

def cmpG (x y : Given) : Int := or2 (cmpS x.mark y.mark) (cmpI x.from_ y.from_)
open Go.Sort in
theorem alloc3_grow (W : World) (a b c : Obj) : ∃ q os', (((W.alloc a).alloc b).alloc c).drew = grow (W.drewN q) os' := ⟨1, #[a, b, c], by
  rw [alloc_eq_grow, alloc_eq_grow, alloc_eq_grow, grow_grow, grow_grow]
  rfl⟩
open Go.Sort in
theorem cmpG_c (x y : Given) (W : World) :
    Calls Try.prog 41 #[.agg #[.string x.mark, .int .i64 x.unit, .int .i64 x.from_, .int .i64 x.until_], .agg #[.string y.mark, .int .i64 y.unit, .int .i64 y.from_, .int .i64 y.until_]] W fun e w' => e = .returned (.int .i64 (cmpG x y)) ∧ ∃ q os', w' = grow (W.drewN q) os' := by
  go_enter Try.func41, Try.ntmps41
  go_wp2
  go_region_held3 (fun w' => w'.cell? ⟨W.heap.size, 0, none⟩ = some (.string x.mark) ∧ w'.cell? ⟨W.heap.size, 2, none⟩ = some (.int .i64 x.from_) ∧ w'.cell? ⟨W.heap.size + 1, 0, none⟩ = some (.string y.mark) ∧ w'.cell? ⟨W.heap.size + 1, 2, none⟩ = some (.int .i64 y.from_)) (simp [go_sem, World.cell?_alloc_past])
    (first
      | (go_at_call 43; refine (cmpS_c _ _ _).mono ?_; rintro e w' ⟨rfl, rfl⟩)
      | (go_at_call 44; refine (cmpI_c _ _ _).mono ?_; rintro e w' ⟨rfl, rfl⟩)
      | (go_at_call 42; refine Calls.mono (or_c (cmpS x.mark y.mark) (cmpI x.from_ y.from_) _ _ (by simp [go_sem]) (by simp [go_sem])) ?_; rintro e w' ⟨rfl, rfl⟩))
  go_wp2
  go_ret
  exact ⟨rfl, alloc3_grow _ _ _ _⟩
end Go.Proofs.Ytgnaknanpgfpnaa
