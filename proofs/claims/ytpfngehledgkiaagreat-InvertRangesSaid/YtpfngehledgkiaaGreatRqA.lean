/- The reference of chapter 55: Before, right, Check, Few, Same. -/
import Derived.Test.YtpfngehledgkiaaGreatIvK
namespace Go.Proofs.YtpfngehledgkiaaGreat
open Go.RowKit

theorem beq_strT {a b : ByteArray} (h : a = b) : (a.toList == b.toList) = true := by rw [str_eq, decide_eq_true h]
theorem beq_strF {a b : ByteArray} (h : a ≠ b) : (a.toList == b.toList) = false := by rw [str_eq, decide_eq_false h]
theorem bne_int {a b : Int} (h : a ≠ b) : (a != b) = true := by simpa using h
set_option maxHeartbeats 1000000 in
theorem rbefore5_c (a b : Post) (w : World) :
    Calls Tryz.prog 100 #[pstV a, pstV b] w fun e w' => e = .returned (.bool (pltB a b)) ∧ Below w.heap.size w w' := by
  have hbb : Below w.heap.size w ((w.alloc (pstC a)).alloc (pstC b)) := ((Below.refl _ _).alloc (Nat.le_refl _) _).alloc (by simp) _
  by_cases h1 : a.word = b.word
  · have e1 := beq_strT h1
    by_cases h2 : a.unit = b.unit
    · have e2 : (a.unit != b.unit) = false := by rw [h2]; simp
      by_cases h3 : a.field = b.field
      · have e3 : (a.field != b.field) = false := by rw [h3]; simp
        have HE := Lib.hid (show pltB a b = decide (a.place < b.place) by unfold pltB; rw [if_neg (by simpa using h1), if_neg (by simpa using h2), if_neg (by simpa using h3)])
        clear h1 h2 h3
        go_enter Tryz.func100, Tryz.ntmps100
        go_wp2
        go_ret
        exact ⟨ret_bool HE.out.symm, hbb⟩
      · have e3 := bne_int h3
        have HE := Lib.hid (show pltB a b = decide (a.field < b.field) by unfold pltB; rw [if_neg (by simpa using h1), if_neg (by simpa using h2), if_pos h3])
        clear h1 h2 h3
        go_enter Tryz.func100, Tryz.ntmps100
        go_wp2
        go_ret
        exact ⟨ret_bool HE.out.symm, hbb⟩
    · have e2 := bne_int h2
      have HE := Lib.hid (show pltB a b = decide (a.unit < b.unit) by unfold pltB; rw [if_neg (by simpa using h1), if_pos h2])
      clear h1 h2
      go_enter Tryz.func100, Tryz.ntmps100
      go_wp2
      go_ret
      exact ⟨ret_bool HE.out.symm, hbb⟩
  · have e1 := beq_strF h1
    have HE := Lib.hid (show pltB a b = Op.bytesLess a.word.toList b.word.toList by unfold pltB; rw [if_pos h1]; rfl)
    clear h1
    go_enter Tryz.func100, Tryz.ntmps100
    go_wp2
    go_ret
    exact ⟨ret_bool HE.out.symm, hbb⟩
set_option maxRecDepth 100000 in
set_option maxHeartbeats 4000000 in
theorem rright5_c (p : Post) (w : World) (hs : p.word.size ≤ 1000000) :
    Calls Tryz.prog 109 #[pstV p] w fun e w' => e = .returned (.bool (rightP p)) ∧ Below w.heap.size w w' := by
  have hb : ∀ o, Below w.heap.size w (w.alloc o) := fun o => (Below.refl _ _).alloc (Nat.le_refl _) o
  have H0 := Lib.hid (show p.word.data.toList.all plnB = (p.word.data.toList.drop 0).all plnB from rfl)
  go_enter Tryz.func109, Tryz.ntmps109
  go_wp2
  go_loop [3] (fun i => ∃ k : Nat, k ≤ p.word.size ∧ i = .int .i64 k ∧ Hid (p.word.data.toList.all plnB = (p.word.data.toList.drop k).all plnB)) (fun i => p.word.size - (intOf i).toNat)
  case atStart => exact ⟨0, Nat.zero_le _, rfl, H0⟩
  case round =>
    clear H0
    obtain ⟨k, hk, rfl, hh⟩ := hrel
    by_cases hlt : k < p.word.size
    · have hki : (k : Int) < (p.word.size : Int) := by omega
      have hd := all_at hlt plnB
      cases hp : plnB p.word[k]
      · have HE := Lib.hid (show rightP p = false by
          unfold rightP wordB
          rw [hh.out, hd, hp]
          simp)
        have hn : ((p.word[k].toNat : Int) < 97 ∨ 122 < (p.word[k].toNat : Int)) ∧ ((p.word[k].toNat : Int) < 48 ∨ 57 < (p.word[k].toNat : Int)) := by
          unfold plnB at hp
          simp only [Bool.or_eq_false_iff, decide_eq_false_iff_not] at hp
          omega
        clear hd hh hp
        obtain ⟨h1, h2⟩ := hn
        rcases h1 with h1 | h1
        · have h1' : ¬ 97 ≤ (p.word[k].toNat : Int) := by omega
          rcases h2 with h2 | h2
          · have h2' : ¬ 48 ≤ (p.word[k].toNat : Int) := by omega
            go_wp2
            go_ret
            exact ⟨ret_bool HE.out.symm, hb _⟩
          · have h2' : ¬ (p.word[k].toNat : Int) ≤ 57 := by omega
            have h2'' : 48 ≤ (p.word[k].toNat : Int) := by omega
            go_wp2
            go_ret
            exact ⟨ret_bool HE.out.symm, hb _⟩
        · have h3 : 97 ≤ (p.word[k].toNat : Int) := by omega
          have h4 : 48 ≤ (p.word[k].toNat : Int) := by omega
          have h5 : ¬ (p.word[k].toNat : Int) ≤ 57 := by omega
          have h6 : ¬ (p.word[k].toNat : Int) ≤ 122 := by omega
          clear h2
          go_wp2
          go_ret
          exact ⟨ret_bool HE.out.symm, hb _⟩
      · have HN := Lib.hid (show p.word.data.toList.all plnB = (p.word.data.toList.drop (k + 1)).all plnB by rw [hh.out, hd, hp]; rfl)
        have hn : (97 ≤ (p.word[k].toNat : Int) ∧ (p.word[k].toNat : Int) ≤ 122) ∨ (48 ≤ (p.word[k].toNat : Int) ∧ (p.word[k].toNat : Int) ≤ 57) := by
          unfold plnB at hp
          simp only [Bool.or_eq_true, decide_eq_true_eq] at hp
          omega
        clear hd hh hp
        rcases hn with ⟨h1, h2⟩ | ⟨h1, h2⟩
        · go_wp2
          go_round
          case rel => exact ⟨k + 1, by omega, by go_num, HN⟩
          case measure => simp [intOf]; omega
        · have h3 : ¬ 97 ≤ (p.word[k].toNat : Int) := by omega
          go_wp2
          go_round
          case rel => exact ⟨k + 1, by omega, by go_num, HN⟩
          case measure => simp [intOf]; omega
    · have HE := Lib.hid (show rightP p = (decide (p.word.size ≠ 0) && decide (p.word.size ≤ 4096) && decide (1 ≤ p.unit) && decide (p.unit ≤ 1073741824) && decide (-1 ≤ p.field) && decide (p.field ≠ 0) && decide (p.field ≤ 64) && decide (0 ≤ p.place) && decide (p.place ≤ 4096)) by
        unfold rightP wordB
        rw [hh.out, List.drop_of_length_le (by rw [Array.length_toList]; show p.word.size ≤ k; omega)]
        simp)
      clear hh
      have hsz : (p.word.toList.isEmpty) = decide (p.word.size = 0) := str_empty _
      by_cases hz : p.word.size = 0
      · rw [decide_eq_true hz] at hsz
        go_wp2
        all_goals
          go_ret
          refine ⟨ret_bool ?_, hb _⟩
          rw [HE.out]
          clear HE
          rw [Bool.eq_iff_iff]
          simp only [Bool.and_eq_true, decide_eq_true_eq, Bool.false_eq_true, false_iff, ne_eq]
          omega
      · rw [decide_eq_false hz] at hsz
        go_wp2
        all_goals
          go_ret
          refine ⟨ret_bool ?_, hb _⟩
          rw [HE.out]
          clear HE
          rw [Bool.eq_iff_iff]
          simp only [Bool.and_eq_true, decide_eq_true_eq, Bool.false_eq_true, false_iff, ne_eq]
          omega
end Go.Proofs.YtpfngehledgkiaaGreat
