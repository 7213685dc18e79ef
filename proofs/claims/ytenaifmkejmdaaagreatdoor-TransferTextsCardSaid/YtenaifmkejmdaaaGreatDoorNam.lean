/- Names in plain words: what the program asks of a text, and what the reference asks, is the same. No program in it. -/
import Derived.Test.YtenaifmkejmdaaaGreatDoorSpc
import Derived.Lib.DecodeN
import Derived.Laws.RangeString
import Derived.Lib.IndexMore
import Derived.Shelf.GgClosure.StringsIndexFunc
namespace Go.Proofs.YtenaifmkejmdaaaGreatDoor
open Go.RowKit

def visP (r : Nat) : Bool := decide (r < 32) || decide (126 < r)
theorem decodeN_big (n b0 b1 b2 b3 : Nat) (h : 128 ≤ b0) : 128 ≤ (Lib.decodeN n b0 b1 b2 b3).1 := by
  unfold Lib.decodeN
  rw [if_neg (by omega)]
  repeat' split
  all_goals (simp only []; omega)
theorem vis_from (s : ByteArray) : ∀ (f pos : Nat), s.size ≤ pos + f → decide (0 ≤ Lib.idxFuncFrom visP true s f pos) = !((s.data.toList.drop pos).all prB)
  | 0, pos, h => by
    rw [List.drop_of_length_le (by rw [Array.length_toList]; exact h)]
    simp [Lib.idxFuncFrom]
  | f + 1, pos, h => by
    unfold Lib.idxFuncFrom
    by_cases hp : pos < s.size
    · have hd : s.data.toList.drop pos = s[pos] :: s.data.toList.drop (pos + 1) := by
        rw [List.drop_eq_getElem_cons (by rw [Array.length_toList]; exact hp)]
        rfl
      rw [if_pos hp, hd, List.all_cons]
      by_cases hb : s[pos].toNat < 128
      · rw [decode_ascii s pos hp hb]
        have hv : visP s[pos].toNat = !prB s[pos] := by
          unfold visP prB
          rw [Bool.eq_iff_iff]
          simp only [Bool.or_eq_true, decide_eq_true_eq, Bool.not_eq_true', Bool.and_eq_false_iff, decide_eq_false_iff_not]
          omega
        cases hc : prB s[pos]
        · rw [hc] at hv
          simp only [hv, Bool.not_false, if_true, Bool.false_and]
          simp
        · rw [hc] at hv
          simp only [hv, Bool.not_true, Bool.false_eq_true, if_false, Bool.true_and]
          exact vis_from s f (pos + 1) (by omega)
      · have hge : 128 ≤ (Utf8.decode s pos).1 := by
          rw [Lib.decode_at]
          refine decodeN_big _ _ _ _ _ ?_
          have : s.get! pos = s[pos] := by simp [ByteArray.get!, getElem!_pos, hp]; rfl
          rw [this]
          omega
        have hv : visP (Utf8.decode s pos).1 = true := by unfold visP; simp; omega
        have hc : prB s[pos] = false := by unfold prB; simp; omega
        rw [if_pos hv, hc]
        simp
    · rw [if_neg hp, List.drop_of_length_le (by rw [Array.length_toList]; show s.size ≤ pos; omega)]
      simp
theorem vis_is (s : ByteArray) : decide (0 ≤ Lib.idxFunc visP true s) = !(s.data.toList.all prB) := vis_from s s.size 0 (by omega)
theorem dbl_is : ∀ (l : List UInt8), Lib.contains l [32, 32] = dblL l
  | [] => rfl
  | [a] => by
    simp [Lib.contains, Lib.index, dblL, List.isPrefixOf]
  | a :: b :: r => by
    have ih := dbl_is (b :: r)
    unfold Lib.contains at ih ⊢
    have hge := Lib.index_ge (b :: r) [32, 32]
    rw [show Lib.index (a :: b :: r) [32, 32] = if ([32, 32] : List UInt8).isPrefixOf (a :: b :: r) then 0 else if Lib.index (b :: r) [32, 32] == -1 then -1 else Lib.index (b :: r) [32, 32] + 1 from by rw [Lib.index]]
    unfold dblL
    rw [← ih]
    have hp : ([32, 32] : List UInt8).isPrefixOf (a :: b :: r) = (decide (a = 32) && decide (b = 32)) := by
      simp only [List.isPrefixOf, Bool.and_true]
      rw [Bool.eq_iff_iff]
      simp only [Bool.and_eq_true, beq_iff_eq, decide_eq_true_eq]
      constructor
      · rintro ⟨rfl, rfl⟩; exact ⟨rfl, rfl⟩
      · rintro ⟨rfl, rfl⟩; exact ⟨rfl, rfl⟩
    rw [hp]
    cases decide (a = 32) && decide (b = 32)
    · by_cases hm : Lib.index (b :: r) [32, 32] = -1
      · simp [hm]
      · have e : (Lib.index (b :: r) [32, 32] == -1) = false := by simpa using hm
        have h0 : 0 ≤ Lib.index (b :: r) [32, 32] := by omega
        simp [e, h0]
        omega
    · simp
/-- the reference: byte for byte, with the byte before -/
def namG : Option UInt8 → List UInt8 → Bool
  | _, [] => true
  | q, x :: r => prB x && !(decide (q = some 32) && decide (x = 32)) && namG (some x) r
theorem namG_some : ∀ (l : List UInt8) (p : UInt8), namG (some p) l = (!dblL (p :: l) && l.all prB)
  | [], p => rfl
  | x :: r, p => by
    unfold namG
    rw [namG_some r x, show dblL (p :: x :: r) = ((decide (p = 32) && decide (x = 32)) || dblL (x :: r)) from rfl, List.all_cons]
    have e : decide (some p = some (32 : UInt8)) = decide (p = 32) := by simp
    rw [e]
    cases prB x <;> cases decide (p = 32) <;> cases decide (x = 32) <;> cases dblL (x :: r) <;> simp
theorem namG_none (l : List UInt8) : namG none l = (!dblL l && l.all prB) := by
  cases l with
  | nil => rfl
  | cons x r =>
    unfold namG
    rw [namG_some r x, List.all_cons]
    cases prB x <;> simp
theorem nameB_ref (s : ByteArray) : nameB s = (decide (1 ≤ s.size) && decide (s.size ≤ 64) && !decide (s.data.toList.head? = some 32) && !decide (s.data.toList.getLast? = some 32) && namG none s.data.toList) := by
  unfold nameB
  rw [namG_none]
  simp only [Bool.and_assoc]
theorem nameB_prog (s : ByteArray) : nameB s = (decide (1 ≤ s.size) && decide (s.size ≤ 64) && !decide (s.data.toList.head? = some 32) && !decide (s.data.toList.getLast? = some 32) && !Lib.contains s.data.toList [32, 32] && !decide (0 ≤ Lib.idxFunc visP true s)) := by
  unfold nameB
  rw [dbl_is, vis_is, Bool.not_not]
end Go.Proofs.YtenaifmkejmdaaaGreatDoor
