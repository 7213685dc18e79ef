/- The program: unit. -/
import Derived.Test.YtbmlnflacdockaaGreatDoorPrM
namespace Go.Proofs.YtbmlnflacdockaaGreatDoor
open Go.RowKit

/-- where the bracket closes -/
def endF (s : ByteArray) : Int := Lib.indexByte s.data.toList 93
/-- the bytes in the brackets -/
def midF (s : ByteArray) : List UInt8 := (s.extract 1 (endF s).toNat).data.toList
def unitT : Option Nat → Int → Nat × Nat
  | none, _ => (0, 0)
  | some n, j => if 1073741824 < n then (0, 0) else (n, j.toNat + 1)
/-- the unit that a text in brackets begins with, and the length of the piece -/
def unitF (s : ByteArray) : Nat × Nat := if endF s < 2 ∨ 11 < endF s then (0, 0) else if s.data.toList.getD 1 0 = 48 then (0, 0) else unitT (numG 0 (midF s)) (endF s)
theorem indexByte_lt : ∀ (l : List UInt8) (c : UInt8), Lib.indexByte l c < l.length := by
  intro l c
  induction l with
  | nil => simp [Lib.indexByte]
  | cons x r ih =>
    unfold Lib.indexByte
    repeat' split
    all_goals first | (simp; done) | (simp at *; omega) | omega
set_option maxRecDepth 100000 in
set_option maxHeartbeats 4000000 in
theorem unit_c (s : ByteArray) (w : World) (hS : SynOk w) :
    Calls Tryz.prog 83 #[.string s] w fun e w' => e = .returned (.tuple #[.int .i64 (unitF s).1, .int .i64 (unitF s).2]) ∧ Below w.heap.size w w' := by
  have HI := Lib.hid (fun (W : World) => show Calls Tryz.prog 95 #[.string s, .int .u8 93] W fun e w' => e = .returned (.int .i64 (endF s)) ∧ w' = W from Tryz.strings_IndexByte s 93 W)
  have hjl : endF s < (s.data.toList.length : Int) := indexByte_lt _ _
  rw [← Lib.size_eq] at hjl
  by_cases h2 : endF s < 2
  · have HE := Lib.hid (show unitF s = (0, 0) by unfold unitF; rw [if_pos (.inl h2)])
    have hd : decide (endF s < 2) = true := decide_eq_true h2
    generalize endF s = j at *
    go_enter Tryz.func83, Tryz.ntmps83
    go_wp2_with fail
    refine (HI.out _).mono ?_
    rintro e w1 ⟨rfl, rfl⟩
    go_wp2
    go_ret2
    exact ⟨by rw [HE.out]; rfl, Below.refl _ _⟩
  · have hd : decide (endF s < 2) = false := decide_eq_false h2
    by_cases h11 : 11 < endF s
    · have HE := Lib.hid (show unitF s = (0, 0) by unfold unitF; rw [if_pos (.inr h11)])
      have hd1 : decide (11 < endF s) = true := decide_eq_true h11
      generalize endF s = j at *
      go_enter Tryz.func83, Tryz.ntmps83
      go_wp2_with fail
      refine (HI.out _).mono ?_
      rintro e w1 ⟨rfl, rfl⟩
      go_wp2
      go_ret2
      exact ⟨by rw [HE.out]; rfl, Below.refl _ _⟩
    · have hd1 : decide (11 < endF s) = false := decide_eq_false h11
      obtain ⟨j, hj⟩ := Int.eq_ofNat_of_zero_le (show 0 ≤ endF s by omega)
      have HU := Lib.hid (show unitF s = if s.data.toList.getD 1 0 = 48 then (0, 0) else unitT (numG 0 (s.extract 1 j).data.toList) j by
        unfold unitF midF
        rw [if_neg (by omega), hj]
        rfl)
      rw [hj] at HI hjl h2 h11 hd hd1
      clear hj
      have hjs : j < s.size := by omega
      have hs1 : 1 < s.size := by omega
      have hj11 : j ≤ 11 := by omega
      have hj2 : 2 ≤ j := by omega
      have hgd : s.data.toList.getD 1 0 = s[1] := by
        rw [List.getD_eq_getElem?_getD, Array.getElem?_toList, Array.getElem?_eq_getElem (h := hs1)]
        rfl
      rw [hgd] at HU
      clear hgd h2 h11
      by_cases hq : s[1] = 48
      · have HE := Lib.hid (show unitF s = (0, 0) by rw [HU.out, if_pos hq])
        have hq1 : ((s[1].toNat : Int) == 48) = true := by rw [hq]; rfl
        clear hq HU
        go_enter Tryz.func83, Tryz.ntmps83
        go_wp2_with fail
        refine (HI.out _).mono ?_
        rintro e w1 ⟨rfl, rfl⟩
        go_wp2
        go_ret2
        exact ⟨by rw [HE.out]; rfl, Below.refl _ _⟩
      · have HE := Lib.hid (show unitF s = unitT (numG 0 (s.extract 1 j).data.toList) j by rw [HU.out, if_neg hq])
        have hq1 : ((s[1].toNat : Int) == 48) = false := by
          rw [beq_eq_false_iff_ne]
          intro e
          exact hq (UInt8.toNat_inj.1 (by simpa using Int.ofNat_inj.1 e))
        have hes : (s.extract 1 j).size = j - 1 := by rw [ByteArray.size_extract]; omega
        have HC := Lib.hid (fun (W : World) (hW : SynOk W) => uint_c (s.extract 1 j) (by omega) (by omega) W hW)
        have HS := Lib.hid hS
        clear hq HU hS hes
        go_enter Tryz.func83, Tryz.ntmps83
        go_wp2_with fail
        refine (HI.out _).mono ?_
        rintro e w1 ⟨rfl, rfl⟩
        go_wp2_with fail
        refine (HC.out _ HS.out).mono ?_
        rintro e w2 ⟨⟨n, ve, rfl, hv⟩, hb2⟩
        rcases hv with ⟨rfl, hn⟩ | ⟨⟨N, rfl⟩, hn⟩
        · rw [hn] at HE
          clear hn
          by_cases hm : 1073741824 < n
          · have HF := Lib.hid (show unitF s = (0, 0) by rw [HE.out]; exact if_pos hm)
            have hm1 : decide ((1073741824 : Int) < (n : Int)) = true := decide_eq_true (by omega)
            clear hm
            go_wp2
            go_ret2
            exact ⟨by rw [HF.out]; rfl, hb2⟩
          · have HF := Lib.hid (show unitF s = (n, j + 1) by rw [HE.out]; exact if_neg hm)
            have hm1 : decide ((1073741824 : Int) < (n : Int)) = false := decide_eq_false (by omega)
            have hm2 : (n : Int) ≤ 1073741824 := by omega
            clear hm
            go_wp2
            go_ret2
            exact ⟨by rw [HF.out]; rfl, hb2⟩
        · have HF := Lib.hid (show unitF s = (0, 0) by rw [HE.out, hn]; rfl)
          clear hn
          go_wp2
          go_ret2
          exact ⟨by rw [HF.out]; rfl, hb2⟩
end Go.Proofs.YtbmlnflacdockaaGreatDoor
