/- The closures of the statements ConcordanceDays and ConcordanceGrows. -/
import Derived.Test.YtgnaknanpgfpnaaFuncs
namespace Go.Proofs.Ytgnaknanpgfpnaa
open Go.RowKit

set_option maxHeartbeats 1000000 in
theorem days1_c (m : ByteArray) (u d : Int) (cb : Nat) (x : Given) (w : World) (h0 : w.cell? ⟨cb, 0, none⟩ = some (.string m)) (h1 : w.cell? ⟨cb, 1, none⟩ = some (.int .i64 u)) (h2 : w.cell? ⟨cb, 2, none⟩ = some (.int .i64 d)) (hcb : cb < w.heap.size) :
    Calls Try.prog 32 #[.agg #[.string x.mark, .int .i64 x.unit, .int .i64 x.from_, .int .i64 x.until_], .pointer (some ⟨cb, 0, none⟩)] w fun e w' => e = .returned (.bool (covers m u d x)) ∧ Below w.heap.size w w' := by
  by_cases hm : x.mark = m
  · have b1 : (x.mark.toList == m.toList) = true := by simp [hm]
    by_cases hu : x.unit = u
    · have b2 : (x.unit == u) = true := by simpa using hu
      by_cases hf : x.from_ ≤ d
      · have b3 : decide (x.from_ ≤ d) = true := by simpa using hf
        by_cases hd : d < x.until_
        · have b4 : decide (d < x.until_) = true := by simpa using hd
          have HE := Lib.hid (show covers m u d x = true by simp [covers, hm, hu, hf, hd])
          clear hm hu
          go_enter Try.func32, Try.ntmps32
          go_wp2
          go_ret
          exact ⟨ret_bool HE.out.symm, (by repeat' (first | refine below_drewN ?_ _ | go_grown))⟩
        · have b4 : decide (d < x.until_) = false := by simpa using hd
          have HE := Lib.hid (show covers m u d x = (x.until_ == 1048576) by simp only [covers, hm, hu, hf, hd, decide_true, decide_false, Bool.true_and, Bool.false_or]; rfl)
          clear hm hu
          go_enter Try.func32, Try.ntmps32
          go_wp2
          go_ret
          exact ⟨ret_bool HE.out.symm, (by repeat' (first | refine below_drewN ?_ _ | go_grown))⟩
      · have b3 : decide (x.from_ ≤ d) = false := by simpa using hf
        have HE := Lib.hid (show covers m u d x = false by simp [covers, hf])
        clear hm hu
        go_enter Try.func32, Try.ntmps32
        go_wp2
        go_ret
        exact ⟨ret_bool HE.out.symm, (by repeat' (first | refine below_drewN ?_ _ | go_grown))⟩
    · have b2 : (x.unit == u) = false := by simpa using hu
      have HE := Lib.hid (show covers m u d x = false by simp [covers, hu])
      clear hm hu
      go_enter Try.func32, Try.ntmps32
      go_wp2
      go_ret
      exact ⟨ret_bool HE.out.symm, (by repeat' (first | refine below_drewN ?_ _ | go_grown))⟩
  · have b1 : (x.mark.toList == m.toList) = false := by rw [str_eq]; simpa using hm
    have HE := Lib.hid (show covers m u d x = false by simp [covers, hm])
    clear hm
    go_enter Try.func32, Try.ntmps32
    go_wp2
    go_ret
    exact ⟨ret_bool HE.out.symm, (by repeat' (first | refine below_drewN ?_ _ | go_grown))⟩

set_option maxHeartbeats 1000000 in
theorem grows1_c (g : Given) (day : Int) (ca cb : Nat) (x : Given) (w : World) (h0 : w.cell? ⟨ca, 0, none⟩ = some (.string g.mark)) (h1 : w.cell? ⟨ca, 1, none⟩ = some (.int .i64 g.unit)) (h2 : w.cell? ⟨ca, 2, none⟩ = some (.int .i64 g.from_)) (h3 : w.cell? ⟨ca, 3, none⟩ = some (.int .i64 g.until_)) (h4 : w.cell? ⟨cb, 0, none⟩ = some (.int .i64 day)) (hca : ca < w.heap.size) (hcb : cb < w.heap.size) :
    Calls Try.prog 33 #[.agg #[.string x.mark, .int .i64 x.unit, .int .i64 x.from_, .int .i64 x.until_], .pointer (some ⟨ca, 0, none⟩), .pointer (some ⟨cb, 0, none⟩)] w fun e w' => e = .returned (.bool (grownG g day x)) ∧ Below w.heap.size w w' := by
  by_cases hm : x.mark = g.mark
  · have b1 : (x.mark.toList == g.mark.toList) = true := by simp [hm]
    by_cases hu : x.unit = g.unit
    · have b2 : (x.unit == g.unit) = true := by simpa using hu
      by_cases hf : x.from_ = g.from_
      · have b3 : (x.from_ == g.from_) = true := by simpa using hf
        by_cases hd : x.until_ = g.until_
        · have b4 : (x.until_ == g.until_) = true := by simpa using hd
          have HE := Lib.hid (show grownG g day x = true by simp [grownG, hm, hu, hf, hd])
          clear hm hu hf hd
          go_enter Try.func33, Try.ntmps33
          go_wp2
          go_ret
          exact ⟨ret_bool HE.out.symm, (by repeat' (first | refine below_drewN ?_ _ | go_grown))⟩
        · have b4 : (x.until_ == g.until_) = false := by simpa using hd
          by_cases he : g.until_ = 1048576
          · have b5 : (g.until_ == 1048576) = true := by simpa using he
            have HE := Lib.hid (show grownG g day x = (x.until_ == day) by unfold grownG; rw [decide_eq_true hm, decide_eq_true hu, decide_eq_true hf, decide_eq_false hd, decide_eq_true he]; rfl)
            clear hm hu hf hd he
            go_enter Try.func33, Try.ntmps33
            go_wp2
            go_ret
            exact ⟨ret_bool HE.out.symm, (by repeat' (first | refine below_drewN ?_ _ | go_grown))⟩
          · have b5 : (g.until_ == 1048576) = false := by simpa using he
            have HE := Lib.hid (show grownG g day x = false by simp [grownG, hd, he])
            clear hm hu hf hd he
            go_enter Try.func33, Try.ntmps33
            go_wp2
            go_ret
            exact ⟨ret_bool HE.out.symm, (by repeat' (first | refine below_drewN ?_ _ | go_grown))⟩
      · have b3 : (x.from_ == g.from_) = false := by simpa using hf
        have HE := Lib.hid (show grownG g day x = false by simp [grownG, hf])
        clear hm hu hf
        go_enter Try.func33, Try.ntmps33
        go_wp2
        go_ret
        exact ⟨ret_bool HE.out.symm, (by repeat' (first | refine below_drewN ?_ _ | go_grown))⟩
    · have b2 : (x.unit == g.unit) = false := by simpa using hu
      have HE := Lib.hid (show grownG g day x = false by simp [grownG, hu])
      clear hm hu
      go_enter Try.func33, Try.ntmps33
      go_wp2
      go_ret
      exact ⟨ret_bool HE.out.symm, (by repeat' (first | refine below_drewN ?_ _ | go_grown))⟩
  · have b1 : (x.mark.toList == g.mark.toList) = false := by rw [str_eq]; simpa using hm
    have HE := Lib.hid (show grownG g day x = false by simp [grownG, hm])
    clear hm
    go_enter Try.func33, Try.ntmps33
    go_wp2
    go_ret
    exact ⟨ret_bool HE.out.symm, (by repeat' (first | refine below_drewN ?_ _ | go_grown))⟩
end Go.Proofs.Ytgnaknanpgfpnaa
