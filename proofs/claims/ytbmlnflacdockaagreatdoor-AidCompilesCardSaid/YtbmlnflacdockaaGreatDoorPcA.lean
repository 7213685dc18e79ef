/- The reference of chapter 47: Piece. -/
import Derived.Test.YtbmlnflacdockaaGreatDoorPlU
import Derived.Test.YtbmlnflacdockaaGreatDoorPrA
namespace Go.Proofs.YtbmlnflacdockaaGreatDoor
open Go.RowKit

theorem pieceG_cons (n i : Nat) (c : UInt8) (r : List UInt8) : pieceG n i (c :: r) = if 48 ≤ c.toNat ∧ c.toNat ≤ 57 then (if 1073741824 < 10 * n + (c.toNat - 48) then (0, 0) else pieceG (10 * n + (c.toNat - 48)) (i + 1) r) else if c = 93 then (n, i + 1) else (0, 0) := rfl
theorem byte_at {s : ByteArray} {k : Nat} (h : k < s.size) : s.data.toList[k]? = some s[k] := by
  rw [Array.getElem?_toList, Array.getElem?_eq_getElem (h := h)]
  rfl
theorem byte_getD {s : ByteArray} {k : Nat} (h : k < s.size) : s.data.toList.getD k 0 = s[k] := by
  rw [List.getD, byte_at h]
  rfl
theorem tup2 {a b a' b' : Int} (h1 : a = a') (h2 : b = b') : Ending.returned (.tuple #[.int .i64 a, .int .i64 b]) = .returned (.tuple #[.int .i64 a', .int .i64 b']) := by rw [h1, h2]
set_option maxRecDepth 100000 in
set_option maxHeartbeats 8000000 in
theorem rpiece_c (s : ByteArray) (hs : s.size ≤ 4611686018427387904) (w : World) :
    Calls Tryz.prog 87 #[.string s] w fun e w' => e = .returned (.tuple #[.int .i64 ((pieceF s).1 : Nat), .int .i64 ((pieceF s).2 : Nat)]) ∧ w' = w := by
  by_cases h3 : s.size < 3
  · have d0 : decide ((s.size : Int) < 3) = true := decide_eq_true (by omega)
    have HE := Lib.hid (show pieceF s = (0, 0) by unfold pieceF; rw [if_pos (.inl h3)])
    clear h3
    go_enter Tryz.func87, Tryz.ntmps87
    go_wp2
    go_ret2
    exact ⟨by rw [HE.out]; rfl, rfl⟩
  · have d0 : decide ((s.size : Int) < 3) = false := decide_eq_false (by omega)
    have l0 : 0 < s.size := by omega
    have l1 : 1 < s.size := by omega
    have i0 : (0 : Int) < (s.size : Int) := by omega
    have i1 : (1 : Int) < (s.size : Int) := by omega
    have g0 := byte_getD l0
    have g1 := byte_getD l1
    by_cases h4 : s[0].toNat = 91
    · have e4 : ((s[0].toNat : Int) == 91) = true := by rw [h4]; rfl
      have e4p : (s[0].toNat : Int) = 91 := by omega
      have c4 : s[0] = 91 := UInt8.toNat_inj.1 h4
      by_cases h5 : s[1].toNat < 49
      · have d5 : decide ((s[1].toNat : Int) < 49) = true := decide_eq_true (by omega)
        have HE := Lib.hid (show pieceF s = (0, 0) by unfold pieceF; rw [if_pos (.inr (.inr (.inl (by rw [g1]; exact h5))))])
        clear h3 h4 h5 c4 g0 g1
        go_enter Tryz.func87, Tryz.ntmps87
        go_wp2
        go_ret2
        exact ⟨by rw [HE.out]; rfl, rfl⟩
      · have d5 : decide ((s[1].toNat : Int) < 49) = false := decide_eq_false (by omega)
        by_cases h6 : 57 < s[1].toNat
        · have d6 : decide ((57 : Int) < (s[1].toNat : Int)) = true := decide_eq_true (by omega)
          have HE := Lib.hid (show pieceF s = (0, 0) by unfold pieceF; rw [if_pos (.inr (.inr (.inr (by rw [g1]; exact h6))))])
          clear h3 h4 h5 h6 c4 g0 g1
          go_enter Tryz.func87, Tryz.ntmps87
          go_wp2
          go_ret2
          exact ⟨by rw [HE.out]; rfl, rfl⟩
        · have d6 : decide ((57 : Int) < (s[1].toNat : Int)) = false := decide_eq_false (by omega)
          have HE := Lib.hid (show pieceF s = pieceG 0 1 (s.data.toList.drop 1) by
            unfold pieceF
            rw [if_neg]
            unfold pieceB
            rw [g0, g1, c4]
            simp
            omega)
          clear h3 h4 h5 h6 c4 g0 g1
          go_enter Tryz.func87, Tryz.ntmps87
          go_wp2
          go_loop [4, 5] (fun v4 v5 => ∃ (n i : Nat), v4 = .int .i64 n ∧ v5 = .int .i64 i ∧ i ≤ s.size ∧ n ≤ 1073741824 ∧ Hid (pieceF s = pieceG n i (s.data.toList.drop i))) (fun _ v5 => s.size - (intOf v5).toNat)
          case atStart => exact ⟨0, 1, rfl, rfl, by omega, by omega, HE⟩
          case round =>
            clear HE d0
            obtain ⟨n, i, rfl, rfl, hi, hn, HS⟩ := hrel
            by_cases hlt : i < s.size
            · have HN := Lib.hid (show pieceF s = if 48 ≤ s[i].toNat ∧ s[i].toNat ≤ 57 then (if 1073741824 < 10 * n + (s[i].toNat - 48) then (0, 0) else pieceG (10 * n + (s[i].toNat - 48)) (i + 1) (s.data.toList.drop (i + 1))) else if s[i] = 93 then (n, i + 1) else (0, 0) by rw [HS.out, drop_at (byte_at hlt), pieceG_cons])
              have hli : (i : Int) < (s.size : Int) := by omega
              have hne : ((i : Int) == (s.size : Int)) = false := by rw [beq_eq_false_iff_ne]; omega
              by_cases h1 : s[i].toNat < 48 ∨ 57 < s[i].toNat
              · by_cases h93 : s[i].toNat = 93
                · have e93 : ((s[i].toNat : Int) == 93) = true := by rw [h93]; rfl
                  have e93p : (s[i].toNat : Int) = 93 := by omega
                  have f1 : decide ((48 : Int) ≤ (s[i].toNat : Int)) = true := decide_eq_true (by omega)
                  have f2 : decide ((s[i].toNat : Int) ≤ 57) = false := decide_eq_false (by omega)
                  have HM := Lib.hid (show pieceF s = (n, i + 1) by rw [HN.out, if_neg (by omega), if_pos (UInt8.toNat_inj.1 h93)])
                  clear h1 h93 HN HS
                  go_wp2
                  go_ret2
                  exact ⟨by rw [HM.out]; exact tup2 rfl (by push_cast; rfl), rfl⟩
                · have e93 : ((s[i].toNat : Int) == 93) = false := by rw [beq_eq_false_iff_ne]; omega
                  have e93p : ¬ (s[i].toNat : Int) = 93 := by omega
                  have HM := Lib.hid (show pieceF s = (0, 0) by rw [HN.out, if_neg (by omega), if_neg (fun e => h93 (by rw [e]; rfl))])
                  by_cases h48 : s[i].toNat < 48
                  · have f1 : decide ((48 : Int) ≤ (s[i].toNat : Int)) = false := decide_eq_false (by omega)
                    clear h1 h93 HN HS h48
                    go_wp2
                    go_ret2
                    exact ⟨by rw [HM.out]; rfl, rfl⟩
                  · have f1 : decide ((48 : Int) ≤ (s[i].toNat : Int)) = true := decide_eq_true (by omega)
                    have f2 : decide ((s[i].toNat : Int) ≤ 57) = false := decide_eq_false (by omega)
                    clear h1 h93 HN HS h48
                    go_wp2
                    go_ret2
                    exact ⟨by rw [HM.out]; rfl, rfl⟩
              · have f1 : decide ((48 : Int) ≤ (s[i].toNat : Int)) = true := decide_eq_true (by omega)
                have f2 : decide ((s[i].toNat : Int) ≤ 57) = true := decide_eq_true (by omega)
                obtain ⟨d, hd⟩ : ∃ d : Nat, d = s[i].toNat - 48 := ⟨_, rfl⟩
                obtain ⟨m, hm⟩ : ∃ m : Nat, m = 10 * n + d := ⟨_, rfl⟩
                have hd9 : d ≤ 9 := by omega
                have hw1 : IntKind.u8.wrap ((s[i].toNat : Int) - 48) = (d : Int) := by
                  rw [show ((s[i].toNat : Int) - 48) = (d : Int) by omega]
                  exact IntWalk.u8_in _ (by omega)
                have hw2 : IntKind.i64.wrap (10 * (n : Int)) = 10 * (n : Int) := IntWalk.i64_in _ (by omega)
                have hw3 : IntKind.i64.wrap (10 * (n : Int) + (d : Int)) = (m : Int) := by rw [IntWalk.i64_in _ (by omega)]; omega
                have hw4 : IntKind.i64.wrap (d : Int) = (d : Int) := IntWalk.i64_in _ (by omega)
                have HN2 := Lib.hid (show pieceF s = if 1073741824 < m then (0, 0) else pieceG m (i + 1) (s.data.toList.drop (i + 1)) by rw [HN.out, if_pos (by omega), ← hd, ← hm])
                by_cases h2 : 1073741824 < m
                · have f3 : decide ((1073741824 : Int) < (m : Int)) = true := decide_eq_true (by omega)
                  have HM := Lib.hid (show pieceF s = (0, 0) by rw [HN2.out, if_pos h2])
                  clear h1 h2 HN HN2 HS hd hm
                  go_wp2
                  go_ret2
                  exact ⟨by rw [HM.out]; rfl, rfl⟩
                · have f3 : decide ((1073741824 : Int) < (m : Int)) = false := decide_eq_false (by omega)
                  have HM := Lib.hid (show pieceF s = pieceG m (i + 1) (s.data.toList.drop (i + 1)) by rw [HN2.out, if_neg h2])
                  have hm2 : m ≤ 1073741824 := by omega
                  clear h1 h2 HN HN2 HS hd hm
                  go_wp2
                  go_round
                  case rel => exact ⟨m, i + 1, rfl, by go_num, by omega, hm2, HM⟩
                  case measure => simp [intOf]; omega
            · have hne : ((i : Int) == (s.size : Int)) = true := by rw [beq_iff_eq]; omega
              have hd0 : decide ((i : Int) < (s.size : Int)) = false := decide_eq_false (by omega)
              have HM := Lib.hid (show pieceF s = (0, 0) by rw [HS.out, List.drop_of_length_le (by simp; omega)]; rfl)
              go_wp2
              go_ret2
              exact ⟨by rw [HM.out]; rfl, rfl⟩
    · have e4 : ((s[0].toNat : Int) == 91) = false := by rw [beq_eq_false_iff_ne]; omega
      have e4p : ¬ (s[0].toNat : Int) = 91 := by omega
      have HE := Lib.hid (show pieceF s = (0, 0) from piece_zero (by rw [g0]; intro e; exact h4 (by rw [e]; rfl)))
      clear h3 h4 g0 g1
      go_enter Tryz.func87, Tryz.ntmps87
      go_wp2
      go_ret2
      exact ⟨by rw [HE.out]; rfl, rfl⟩
end Go.Proofs.YtbmlnflacdockaaGreatDoor
