/- The program: tag (package markup). -/
import Derived.Test.YtbmlnflacdockaaGreatDoorPrR
namespace Go.Proofs.YtbmlnflacdockaaGreatDoor
open Go.RowKit

/-- how many letters some bytes begin with -/
def letG : List UInt8 → Nat
  | [] => 0
  | c :: r => if 97 ≤ c.toNat ∧ c.toNat ≤ 122 then letG r + 1 else 0
def letF (s : ByteArray) : Nat := letG s.data.toList
theorem letG_cons (c : UInt8) (r : List UInt8) : letG (c :: r) = if 97 ≤ c.toNat ∧ c.toNat ≤ 122 then letG r + 1 else 0 := rfl
set_option maxRecDepth 100000 in
set_option maxHeartbeats 2000000 in
theorem letters_c (s : ByteArray) (hs : s.size ≤ 4611686018427387904) (w : World) :
    Calls Tryz.prog 105 #[.string s] w fun e w' => e = .returned (.int .i64 (letF s)) ∧ w' = w := by
  have HE := Lib.hid (show letF s = 0 + letG (s.data.toList.drop 0) by rw [Nat.zero_add]; rfl)
  go_enter Tryz.func105, Tryz.ntmps105
  go_wp2
  go_loop [3] (fun v => ∃ k : Nat, k ≤ s.size ∧ v = .int .i64 k ∧ Hid (letF s = k + letG (s.data.toList.drop k))) (fun v => s.size - (intOf v).toNat)
  case atStart => exact ⟨0, Nat.zero_le _, rfl, HE⟩
  case round =>
    clear HE
    obtain ⟨k, hk, rfl, HS⟩ := hrel
    by_cases hlt : k < s.size
    · have hgd : s.data.toList[k]? = some s[k] := by
        rw [Array.getElem?_toList, Array.getElem?_eq_getElem (h := hlt)]
        rfl
      have HN := Lib.hid (show letF s = k + if 97 ≤ s[k].toNat ∧ s[k].toNat ≤ 122 then letG (s.data.toList.drop (k + 1)) + 1 else 0 by rw [HS.out, drop_at hgd, letG_cons])
      clear hgd
      by_cases h1 : 97 ≤ s[k].toNat
      · have d1 : decide ((97 : Int) ≤ (s[k].toNat : Int)) = true := decide_eq_true (by omega)
        by_cases h2 : s[k].toNat ≤ 122
        · have d2 : decide ((s[k].toNat : Int) ≤ 122) = true := decide_eq_true (by omega)
          have HM := Lib.hid (show letF s = (k + 1) + letG (s.data.toList.drop (k + 1)) by rw [HN.out, if_pos ⟨h1, h2⟩]; omega)
          clear h1 h2 HN HS
          go_wp2
          go_roundw
          case rel => exact ⟨k + 1, by omega, by go_num, HM⟩
          case measure => simp [intOf]; omega
        · have d2 : decide ((s[k].toNat : Int) ≤ 122) = false := decide_eq_false (by omega)
          have HM := Lib.hid (show letF s = k by rw [HN.out, if_neg (fun c => h2 c.2)]; omega)
          clear h1 h2 HN HS
          go_wp2
          go_ret
          exact ⟨ret_int (by rw [HM.out]), rfl⟩
      · have d1 : decide ((97 : Int) ≤ (s[k].toNat : Int)) = false := decide_eq_false (by omega)
        have HM := Lib.hid (show letF s = k by rw [HN.out, if_neg (fun c => h1 c.1)]; omega)
        clear h1 HN HS
        go_wp2
        go_ret
        exact ⟨ret_int (by rw [HM.out]), rfl⟩
    · have HM := Lib.hid (show letF s = k by rw [HS.out, List.drop_of_length_le (by rw [← Lib.size_eq]; omega)]; rfl)
      go_wp2
      go_ret
      exact ⟨ret_int (by rw [HM.out]), rfl⟩
open Go.RowKit

def tagB (s : ByteArray) : Bool := decide (1 ≤ s.size) && decide (s.size ≤ 16) && decide (letF s = s.size)
set_option maxRecDepth 100000 in
set_option maxHeartbeats 2000000 in
theorem tag_c (s : ByteArray) (w : World) :
    Calls Tryz.prog 98 #[.string s] w fun e w' => e = .returned (.bool (tagB s)) ∧ w' = w := by
  by_cases h1 : 1 ≤ s.size
  · have d1 : decide ((1 : Int) ≤ (s.size : Int)) = true := decide_eq_true (by omega)
    by_cases h2 : s.size ≤ 16
    · have d2 : decide ((s.size : Int) ≤ 16) = true := decide_eq_true (by omega)
      have HL := Lib.hid (letters_c s (by omega))
      have HE := Lib.hid (show tagB s = ((letF s : Int) == (s.size : Int)) by
        unfold tagB
        rw [decide_eq_true h1, decide_eq_true h2, Bool.true_and, Bool.true_and, Bool.eq_iff_iff, decide_eq_true_iff, beq_iff_eq]
        omega)
      clear h1 h2
      go_enter Tryz.func98, Tryz.ntmps98
      go_wp2_with fail
      refine (HL.out _).mono ?_
      rintro e w1 ⟨rfl, rfl⟩
      go_wp2
      go_ret
      exact ⟨ret_bool HE.out.symm, rfl⟩
    · have d2 : decide ((s.size : Int) ≤ 16) = false := decide_eq_false (by omega)
      have HE := Lib.hid (show tagB s = false by unfold tagB; simp [h2])
      clear h1 h2
      go_enter Tryz.func98, Tryz.ntmps98
      go_wp2
      go_ret
      exact ⟨ret_bool HE.out.symm, rfl⟩
  · have d1 : decide ((1 : Int) ≤ (s.size : Int)) = false := decide_eq_false (by omega)
    have HE := Lib.hid (show tagB s = false by unfold tagB; simp [h1])
    clear h1
    go_enter Tryz.func98, Tryz.ntmps98
    go_wp2
    go_ret
    exact ⟨ret_bool HE.out.symm, rfl⟩
end Go.Proofs.YtbmlnflacdockaaGreatDoor
