/- The reference of chapter 49: Few. -/
import Derived.Test.YtgnaknanpgfpnaaData
namespace Go.Proofs.Ytgnaknanpgfpnaa
open Go.RowKit

def fewU (l : List Standing) : Bool := l.all fun u => decide ((u.mark.size : Int) ≤ 70) && decide ((u.title.size : Int) ≤ 70)
def fewS1 (n : Nat) (s : Shot) : Bool := decide (s.units.length ≤ 12) && (decide (n ≤ 12) || decide (s.units.length ≤ 1))
def fewS (n : Nat) (l : List Shot) : Bool := l.all fun s => fewS1 n s && fewU s.units
def fewE (hs : List Shot) : Bool := !((decide (12 < hs.length) && decide (hs.length ≤ 64)) || decide (65 < hs.length)) && fewS hs.length hs
theorem fewU_cons (x : Standing) (l : List Standing) : fewU (x :: l) = ((decide ((x.mark.size : Int) ≤ 70) && decide ((x.title.size : Int) ≤ 70)) && fewU l) := rfl
theorem fewS_cons (n : Nat) (x : Shot) (l : List Shot) : fewS n (x :: l) = ((fewS1 n x && fewU x.units) && fewS n l) := rfl

set_option maxHeartbeats 4000000 in
theorem few_c (hs : List Shot) (v : Value) (w : World) (B : Nat) (hB : B ≤ w.heap.size) (h : Shots w B hs v) :
    Calls Try.prog 11 #[v] w fun e w' => e = .returned (.bool (fewE hs)) ∧ w = w' := by
  obtain ⟨A, c, rfl, hc1, hc2, _⟩ := id h
  by_cases hl : (12 < hs.length ∧ hs.length ≤ 64) ∨ 65 < hs.length
  · have HE := Lib.hid (show fewE hs = false by unfold fewE; rcases hl with hl | hl <;> simp [hl])
    rcases hl with ⟨h1, h2⟩ | h1
    · have h1' : (12 : Int) < hs.length := by omega
      have h2' : (hs.length : Int) ≤ 64 := by omega
      go_enter Try.func11, Try.ntmps11
      go_wp2
      go_ret
      exact ⟨ret_bool HE.out.symm, rfl⟩
    · have h1' : (12 : Int) < hs.length := by omega
      have h2' : ¬ (hs.length : Int) ≤ 64 := by omega
      have h3' : (65 : Int) < hs.length := by omega
      go_enter Try.func11, Try.ntmps11
      go_wp2
      go_ret
      exact ⟨ret_bool HE.out.symm, rfl⟩
  have hcase : hs.length ≤ 12 ∨ hs.length = 65 := by omega
  have HE := Lib.hid (show fewE hs = fewS hs.length (hs.drop 0) by
    unfold fewE
    have h1 : ((decide (12 < hs.length) && decide (hs.length ≤ 64)) || decide (65 < hs.length)) = false := by simp; omega
    rw [h1]; simp)
  clear hl
  rcases hcase with h12 | h65
  · have h12' : (hs.length : Int) ≤ 12 := by omega
    go_enter Try.func11, Try.ntmps11
    go_wp2
    go_loop [3] (fun i => ∃ k : Nat, k ≤ hs.length ∧ i = .int .i64 k ∧ Hid (fewE hs = fewS hs.length (hs.drop k))) (fun i => hs.length - (intOf i).toNat)
    case atStart => exact ⟨0, Nat.zero_le _, rfl, HE⟩
    case round =>
      obtain ⟨k, hk, rfl, HS⟩ := hrel
      clear HE
      by_cases hlt : k < hs.length
      · obtain ⟨s, hx⟩ := get_at hs hlt
        have HD := Lib.hid (drop_at hx)
        obtain ⟨b, off, v, rfl, hbB, -, g1, hu⟩ := Shots.at_ h hx
        obtain ⟨A', c', rfl, hd1, hd2, _⟩ := id hu
        have hbw : b < w.heap.size := by omega
        clear hx
        cases hf : fewS1 hs.length s
        · have HR := Lib.hid (show fewE hs = false by rw [HS.out, HD.out, fewS_cons, hf]; rfl)
          simp only [fewS1, Bool.and_eq_false_iff, Bool.or_eq_false_iff, decide_eq_false_iff_not] at hf
          by_cases hs12 : s.units.length ≤ 12
          · exfalso; omega
          · have hn2 : (12 : Int) < s.units.length := by omega
            clear hf
            go_wp2
            all_goals (go_ret; exact ⟨ret_bool HR.out.symm, rfl⟩)
        · have HG := Lib.hid (show fewE hs = (fewU (s.units.drop 0) && fewS hs.length (hs.drop (k + 1))) by rw [HS.out, HD.out, fewS_cons, hf]; rfl)
          simp only [fewS1, Bool.and_eq_true, Bool.or_eq_true, decide_eq_true_eq] at hf
          have hn3 : (s.units.length : Int) ≤ 12 := by omega
          clear hf
          go_wp2
          go_loop [4] (fun i => ∃ n : Nat, n ≤ s.units.length ∧ i = .int .i64 n ∧ Hid (fewE hs = (fewU (s.units.drop n) && fewS hs.length (hs.drop (k + 1))))) (fun i => s.units.length - (intOf i).toNat)
          case atStart => exact ⟨0, Nat.zero_le _, rfl, HG⟩
          case round =>
            obtain ⟨n, hn, rfl, HT⟩ := hrel
            clear HG
            by_cases hnl : n < s.units.length
            · obtain ⟨y, hy⟩ := get_at s.units hnl
              have HDy := Lib.hid (drop_at hy)
              obtain ⟨b', off', rfl, hbB', -, -, -, y3, y4⟩ := Units.at_ hu hy
              have hbw' : b' < w.heap.size := by omega
              clear hy
              by_cases hm : (y.mark.size : Int) ≤ 70
              · by_cases ht : (y.title.size : Int) ≤ 70
                · have HR := Lib.hid (show fewE hs = (fewU (s.units.drop (n + 1)) && fewS hs.length (hs.drop (k + 1))) by rw [HT.out, HDy.out, fewU_cons]; simp [hm, ht])
                  go_wp2
                  go_round
                  case rel => exact ⟨n + 1, by omega, by go_num, HR⟩
                  case measure => simp [intOf]; omega
                · have HR := Lib.hid (show fewE hs = false by rw [HT.out, HDy.out, fewU_cons]; simp [ht])
                  have ht2 : (70 : Int) < y.title.size := by omega
                  go_wp2
                  go_ret
                  exact ⟨ret_bool HR.out.symm, rfl⟩
              · have HR := Lib.hid (show fewE hs = false by rw [HT.out, HDy.out, fewU_cons]; simp [hm])
                have hm2 : (70 : Int) < y.mark.size := by omega
                go_wp2
                go_ret
                exact ⟨ret_bool HR.out.symm, rfl⟩
            · have HR := Lib.hid (show fewE hs = fewS hs.length (hs.drop (k + 1)) by rw [HT.out, List.drop_of_length_le (by omega : s.units.length ≤ n)]; rfl)
              go_wp2
              go_round
              case rel => exact ⟨k + 1, by omega, by go_num, HR⟩
              case measure => simp [intOf]; omega
      · go_wp2
        go_ret
        exact ⟨ret_bool (by rw [HS.out, List.drop_of_length_le (by omega)]; rfl), rfl⟩
  · have h12' : (12 : Int) < hs.length := by omega
    have h64' : ¬ (hs.length : Int) ≤ 64 := by omega
    have h65' : (hs.length : Int) ≤ 65 := by omega
    have h12n : 12 < hs.length := by omega
    have H65 := Lib.hid h65
    clear h65
    go_enter Try.func11, Try.ntmps11
    go_wp2
    go_loop [3] (fun i => ∃ k : Nat, k ≤ hs.length ∧ i = .int .i64 k ∧ Hid (fewE hs = fewS hs.length (hs.drop k))) (fun i => hs.length - (intOf i).toNat)
    case atStart => exact ⟨0, Nat.zero_le _, rfl, HE⟩
    case round =>
      obtain ⟨k, hk, rfl, HS⟩ := hrel
      clear HE
      by_cases hlt : k < hs.length
      · obtain ⟨s, hx⟩ := get_at hs hlt
        have HD := Lib.hid (drop_at hx)
        obtain ⟨b, off, v, rfl, hbB, -, g1, hu⟩ := Shots.at_ h hx
        obtain ⟨A', c', rfl, hd1, hd2, _⟩ := id hu
        have hbw : b < w.heap.size := by omega
        clear hx
        cases hf : fewS1 hs.length s
        · have HR := Lib.hid (show fewE hs = false by rw [HS.out, HD.out, fewS_cons, hf]; rfl)
          simp only [fewS1, Bool.and_eq_false_iff, Bool.or_eq_false_iff, decide_eq_false_iff_not] at hf
          by_cases hs12 : s.units.length ≤ 12
          · have hn1 : ¬ s.units.length ≤ 1 := by omega
            have hn2 : (1 : Int) < s.units.length := by omega
            have hn3 : (s.units.length : Int) ≤ 12 := by omega
            have hn4 : (12 : Int) < hs.length := by omega
            clear hf
            go_wp2
            all_goals (go_ret; exact ⟨ret_bool HR.out.symm, rfl⟩)
          · have hn2 : (12 : Int) < s.units.length := by omega
            clear hf
            go_wp2
            all_goals (go_ret; exact ⟨ret_bool HR.out.symm, rfl⟩)
        · have HG := Lib.hid (show fewE hs = (fewU (s.units.drop 0) && fewS hs.length (hs.drop (k + 1))) by rw [HS.out, HD.out, fewS_cons, hf]; rfl)
          simp only [fewS1, Bool.and_eq_true, Bool.or_eq_true, decide_eq_true_eq] at hf
          have hn3 : (s.units.length : Int) ≤ 12 := by omega
          have hn1 : (s.units.length : Int) ≤ 1 := by have := H65.out; omega
          have hn1n : s.units.length ≤ 1 := by omega
          have hn3n : ¬ (12 : Int) < s.units.length := by omega
          have hn1m : ¬ (1 : Int) < s.units.length := by omega
          clear hf
          go_wp2
          go_loop [4] (fun i => ∃ n : Nat, n ≤ s.units.length ∧ i = .int .i64 n ∧ Hid (fewE hs = (fewU (s.units.drop n) && fewS hs.length (hs.drop (k + 1))))) (fun i => s.units.length - (intOf i).toNat)
          case atStart => exact ⟨0, Nat.zero_le _, rfl, HG⟩
          case round =>
            obtain ⟨n, hn, rfl, HT⟩ := hrel
            clear HG
            by_cases hnl : n < s.units.length
            · obtain ⟨y, hy⟩ := get_at s.units hnl
              have HDy := Lib.hid (drop_at hy)
              obtain ⟨b', off', rfl, hbB', -, -, -, y3, y4⟩ := Units.at_ hu hy
              have hbw' : b' < w.heap.size := by omega
              clear hy
              by_cases hm : (y.mark.size : Int) ≤ 70
              · by_cases ht : (y.title.size : Int) ≤ 70
                · have HR := Lib.hid (show fewE hs = (fewU (s.units.drop (n + 1)) && fewS hs.length (hs.drop (k + 1))) by rw [HT.out, HDy.out, fewU_cons]; simp [hm, ht])
                  go_wp2
                  go_round
                  case rel => exact ⟨n + 1, by omega, by go_num, HR⟩
                  case measure => simp [intOf]; omega
                · have HR := Lib.hid (show fewE hs = false by rw [HT.out, HDy.out, fewU_cons]; simp [ht])
                  have ht2 : (70 : Int) < y.title.size := by omega
                  go_wp2
                  go_ret
                  exact ⟨ret_bool HR.out.symm, rfl⟩
              · have HR := Lib.hid (show fewE hs = false by rw [HT.out, HDy.out, fewU_cons]; simp [hm])
                have hm2 : (70 : Int) < y.mark.size := by omega
                go_wp2
                go_ret
                exact ⟨ret_bool HR.out.symm, rfl⟩
            · have HR := Lib.hid (show fewE hs = fewS hs.length (hs.drop (k + 1)) by rw [HT.out, List.drop_of_length_le (by omega : s.units.length ≤ n)]; rfl)
              go_wp2
              go_round
              case rel => exact ⟨k + 1, by omega, by go_num, HR⟩
              case measure => simp [intOf]; omega
      · go_wp2
        go_ret
        exact ⟨ret_bool (by rw [HS.out, List.drop_of_length_le (by omega)]; rfl), rfl⟩
end Go.Proofs.Ytgnaknanpgfpnaa
