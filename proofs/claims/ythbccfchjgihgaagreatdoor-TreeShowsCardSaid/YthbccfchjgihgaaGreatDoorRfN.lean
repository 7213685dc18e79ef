/- The reference: names, marks. -/
import Derived.Test.YthbccfchjgihgaaGreatDoorRfA
namespace Go.Proofs.YthbccfchjgihgaaGreatDoor
open Go.RowKit

def prvB (l : List UInt8) : Nat → Option UInt8
  | 0 => none
  | k + 1 => l[k]?
theorem byte_at {s : ByteArray} {k : Nat} (h : k < s.size) : s.data.toList[k]? = some (s[k]'h) := by
  have h' : k < s.data.toList.length := by rw [Array.length_toList]; exact h
  rw [List.getElem?_eq_getElem h']
  rfl
theorem namG_at {s : ByteArray} {k : Nat} (h : k < s.size) : namG (prvB s.data.toList k) (s.data.toList.drop k) = (prB (s[k]'h) && !(decide (prvB s.data.toList k = some 32) && decide ((s[k]'h) = 32)) && namG (prvB s.data.toList (k + 1)) (s.data.toList.drop (k + 1))) := by
  rw [drop_at (byte_at h), show prvB s.data.toList (k + 1) = some (s[k]'h) from byte_at h, namG]
theorem prvB_at {s : ByteArray} {k : Nat} (h0 : 0 < k) (h : k - 1 < s.size) : prvB s.data.toList k = some (s[k - 1]'h) := by
  obtain ⟨j, rfl⟩ : ∃ j, k = j + 1 := ⟨k - 1, by omega⟩
  exact byte_at (s := s) (k := j) (by omega)
theorem prB_of {b : UInt8} (h1 : 32 ≤ (b.toNat : Int)) (h2 : (b.toNat : Int) ≤ 126) : prB b = true := by unfold prB prG; simp; omega
theorem prB_lo {b : UInt8} (h : (b.toNat : Int) < 32) : prB b = false := by unfold prB prG; simp; omega
theorem prB_hi {b : UInt8} (h : 126 < (b.toNat : Int)) : prB b = false := by unfold prB prG; simp; omega
theorem beq_byte {b : UInt8} (h : ((b.toNat : Int) == 32) = true) : b = 32 := byte_of (by simpa using h)
theorem bne_byte {b : UInt8} (h : ((b.toNat : Int) == 32) = false) : b ≠ 32 := byte_ne (by simpa using h)
set_option maxRecDepth 100000 in
set_option maxHeartbeats 2000000 in
theorem risName_c (s : ByteArray) (w : World) : Calls Tryz.prog 94 #[.string s] w fun e w' => e = .returned (.bool (nameB s)) ∧ w = w' := by
  have HE := Lib.hid (nameB_ref s)
  by_cases h1 : s.size < 1
  · have HX := Lib.hid (show nameB s = false by rw [HE.out]; simp; omega)
    have h1' : (s.size : Int) < 1 := by omega
    clear h1 HE
    go_enter Tryz.func94, Tryz.ntmps94
    go_wp2
    go_ret
    exact ⟨ret_bool HX.out.symm, rfl⟩
  · by_cases h2 : 64 < s.size
    · have HX := Lib.hid (show nameB s = false by rw [HE.out]; simp; omega)
      have h1' : ¬ (s.size : Int) < 1 := by omega
      have h2' : (64 : Int) < s.size := by omega
      clear h1 h2 HE
      go_enter Tryz.func94, Tryz.ntmps94
      go_wp2
      go_ret
      exact ⟨ret_bool HX.out.symm, rfl⟩
    · have h1' : ¬ (s.size : Int) < 1 := by omega
      have h2' : ¬ (64 : Int) < s.size := by omega
      have HX := Lib.hid (show 0 < s.size by omega)
      have h0' : (0 : Int) < s.size := by omega
      have hs64 : s.size ≤ 64 := by omega
      clear h1 h2
      go_enter Tryz.func94, Tryz.ntmps94
      go_wp2_with fail
      · rename_i hp hq
        go_ret
        refine ⟨ret_bool ?_, rfl⟩
        rw [HE.out, head_at hp, show s[0] = 32 from byte_of hq]
        simp
      · rename_i hp hq hr ht
        go_ret
        refine ⟨ret_bool ?_, rfl⟩
        rw [HE.out, last_at (Nat.sub_lt HX.out (by decide)), show s[s.size - 1] = 32 from beq_byte ht]
        simp
      · rename_i hp hq hr ht K' hK'
        have HN := Lib.hid (show nameB s = namG none s.data.toList by
          rw [HE.out, head_at hp, last_at (Nat.sub_lt HX.out (by decide))]
          have e1 : decide (some s[0] = some 32) = false := by simpa using byte_ne hq
          have e2 : decide (some (s[s.size - 1]'(Nat.sub_lt HX.out (by decide))) = some 32) = false := by simpa using bne_byte ht
          have e3 : decide (1 ≤ s.size) = true := by simp; omega
          have e4 : decide (s.size ≤ 64) = true := by simp; omega
          rw [e1, e2, e3, e4]
          simp)
        clear hq ht
        go_loopw [3] (fun i wr => ∃ k : Nat, k ≤ s.size ∧ i = .int .i64 k ∧ Hid (nameB s = namG (prvB s.data.toList k) (s.data.toList.drop k)) ∧ wr = w) (fun i _ => s.size - (intOf i).toNat)
        case atStart => exact ⟨0, Nat.zero_le _, rfl, HN, rfl⟩
        case round =>
          obtain ⟨k, hk, rfl, HS, rfl⟩ := hrel
          by_cases hlt : k < s.size
          · have hki : (k : Int) < (s.size : Int) := by omega
            have HN := Lib.hid (HS.out.trans (namG_at hlt))
            have HP := Lib.hid (fun (h0 : 0 < k) => prvB_at (s := s) h0 (by omega))
            have HP0 := Lib.hid (fun (h0 : ¬ 0 < k) => (show prvB s.data.toList k = none by rw [show k = 0 from by omega]; rfl))
            have hw : IntKind.i64.wrap ((k : Int) + 1) = (k : Int) + 1 := IntWalk.i64_in _ (by omega)
            have hm : k < s.size := hlt
            clear HS
            go_wp2_with fail
            · rename_i q1
              go_ret
              exact ⟨ret_bool (by rw [HN.out, prB_lo q1]; simp), rfl⟩
            · rename_i q1 q2
              go_ret
              exact ⟨ret_bool (by rw [HN.out, prB_hi q1]; simp), rfl⟩
            · rename_i q1 q2 q3 q4 q5 q6
              go_ret
              exact ⟨ret_bool (by rw [HN.out, HP.out q1, beq_byte q6, byte_of q2]; simp), rfl⟩
            · rename_i q1 q2 q3 q4 q5 q6
              have HQ := Lib.hid (HN.out.trans (show _ = namG (prvB s.data.toList (k + 1)) (s.data.toList.drop (k + 1)) by rw [HP.out q1, prB_of q3 q4]; simp [bne_byte q6]))
              exact ⟨⟨k + 1, by omega, by go_num, HQ, by first | rfl | trivial⟩, by simp [intOf]; omega⟩
            · rename_i q1 q2 q3 q4
              have HQ := Lib.hid (HN.out.trans (show _ = namG (prvB s.data.toList (k + 1)) (s.data.toList.drop (k + 1)) by rw [prB_of (by omega) (by omega)]; simp [byte_ne q4]))
              exact ⟨⟨k + 1, by omega, by go_num, HQ, by first | rfl | trivial⟩, by simp [intOf]; omega⟩
            · rename_i q1 q2 q3
              have HQ := Lib.hid (HN.out.trans (show _ = namG (prvB s.data.toList (k + 1)) (s.data.toList.drop (k + 1)) by rw [HP0.out q3, prB_of (by omega) (by omega)]; simp))
              exact ⟨⟨k + 1, by omega, by go_num, HQ, by first | rfl | trivial⟩, by simp [intOf]; omega⟩
          · have hki : ¬ (k : Int) < (s.size : Int) := by omega
            have HQ := Lib.hid (show nameB s = true by rw [HS.out, List.drop_of_length_le (by rw [Array.length_toList]; show s.size ≤ k; omega)]; unfold namG; rfl)
            clear HS
            go_wp2_with fail
            go_ret
            exact ⟨ret_bool HQ.out.symm, rfl⟩

set_option maxRecDepth 100000 in
set_option maxHeartbeats 2000000 in
theorem risMark_c (s : ByteArray) (w : World) (hn : s.size ≤ 100000) : Calls Tryz.prog 95 #[.string s] w fun e w' => e = .returned (.bool (markB s)) ∧ w = w' := by
  have HE := Lib.hid (show markB s = (inB s.size 1 64 && (s.data.toList.drop 0).all (prG 33)) from rfl)
  go_enter Tryz.func95, Tryz.ntmps95
  go_wp2
  go_loopw [3] (fun i wr => ∃ k : Nat, k ≤ s.size ∧ i = .int .i64 k ∧ Hid (markB s = (inB s.size 1 64 && (s.data.toList.drop k).all (prG 33))) ∧ wr = w) (fun i _ => s.size - (intOf i).toNat)
  case atStart => exact ⟨0, Nat.zero_le _, rfl, HE, rfl⟩
  case round =>
    clear HE
    obtain ⟨k, hk, rfl, HS, rfl⟩ := hrel
    by_cases hlt : k < s.size
    · have hki : (k : Int) < (s.size : Int) := by omega
      have HD := Lib.hid (drop_at (byte_at hlt))
      have hw : IntKind.i64.wrap ((k : Int) + 1) = (k : Int) + 1 := IntWalk.i64_in _ (by omega)
      by_cases h1 : (s[k].toNat : Int) < 33
      · have HX := Lib.hid (show markB s = false by rw [HS.out, HD.out, List.all_cons, show prG 33 s[k] = false by unfold prG; simp; omega]; simp)
        go_wp2
        go_ret
        exact ⟨ret_bool HX.out.symm, rfl⟩
      · by_cases h2 : (126 : Int) < (s[k].toNat : Int)
        · have HX := Lib.hid (show markB s = false by rw [HS.out, HD.out, List.all_cons, show prG 33 s[k] = false by unfold prG; simp; omega]; simp)
          go_wp2
          go_ret
          exact ⟨ret_bool HX.out.symm, rfl⟩
        · have HN := Lib.hid (show markB s = (inB s.size 1 64 && (s.data.toList.drop (k + 1)).all (prG 33)) by rw [HS.out, HD.out, List.all_cons, show prG 33 s[k] = true by unfold prG; simp; omega]; simp)
          go_wp2
          go_roundw
          case rel => exact ⟨k + 1, by omega, by go_num, HN, by first | rfl | trivial⟩
          case measure => simp [intOf]; omega
    · have hki : ¬ (k : Int) < (s.size : Int) := by omega
      have HX := Lib.hid (show markB s = inB s.size 1 64 by rw [HS.out, List.drop_of_length_le (by rw [Array.length_toList]; show s.size ≤ k; omega)]; simp)
      have HY := Lib.hid (show inB s.size 1 64 = (decide ((1 : Int) ≤ s.size) && decide ((s.size : Int) ≤ 64)) from rfl)
      clear HS
      go_wp2
      all_goals
        go_ret
        refine ⟨ret_bool ?_, rfl⟩
        rw [HX.out, HY.out]
        clear HX HY
        rw [Bool.eq_iff_iff]
        simp only [Bool.and_eq_true, decide_eq_true_eq, Bool.false_eq_true, false_iff]
        omega
theorem markF_nil (m : ByteArray) : markF [] m = (0, false) := rfl
theorem markF_cons (x : Brn) (r : List Brn) (m : ByteArray) (hm : m ≠ ⟨#[]⟩) : markF (x :: r) m = if x.mark = m then (x.id, true) else markF r m := by
  unfold markF
  rw [List.find?_cons]
  by_cases h : x.mark = m
  · simp [h, hm]
  · simp [h]
theorem markF_empty (l : List Brn) : markF l ⟨#[]⟩ = (0, false) := by
  unfold markF
  have : l.find? (fun b => decide ((⟨#[]⟩ : ByteArray) ≠ ⟨#[]⟩) && decide (b.mark = ⟨#[]⟩)) = none := by
    rw [List.find?_eq_none]
    intro x _
    simp
  rw [this]
set_option maxRecDepth 100000 in
set_option maxHeartbeats 2000000 in
theorem rmarked_c (t : Tre) (m : ByteArray) (vr vb : Value) (w : World) (B : Nat) (hB : B ≤ w.heap.size) (h : TreRep w B t vr vb) :
    Calls Tryz.prog 21 #[treV vr vb, .string m] w fun e w' => e = .returned (.tuple #[.int .i64 (markF t.brs m).1, .bool (markF t.brs m).2]) ∧ Below w.heap.size w w' := by
  have b1 := tre_new w vr vb
  have h1 := (h.below (b1.mono hB)).brs
  obtain ⟨Ar, cr, rfl, -⟩ := id h.tops
  obtain ⟨A, ca, rfl, hc1, hc2, _⟩ := id h1
  by_cases hm : m = ⟨#[]⟩
  · have hm1 : m.toList.isEmpty = true := by rw [str_empty, hm]; rfl
    have HX := Lib.hid (show markF t.brs m = (0, false) by rw [hm, markF_empty])
    clear hm
    go_enter Tryz.func21, Tryz.ntmps21
    go_wp2
    go_loopw [6] (fun i wr => i = .int .i64 0 ∧ wr = w.alloc (treC (.slice Ar t.roots.length cr) (.slice A t.brs.length ca))) (fun _ _ => 0)
    case atStart => exact ⟨rfl, rfl⟩
    case round =>
      obtain ⟨rfl, rfl⟩ := hrel
      go_wp2
      all_goals
        go_ret2
        exact ⟨by rw [HX.out]; rfl, b1⟩
  · have hm1 : m.toList.isEmpty = false := by
      rw [str_empty, decide_eq_false_iff_not]
      intro e
      exact hm (ByteArray.ext (Array.eq_empty_of_size_eq_zero e))
    have HE := Lib.hid (show markF t.brs m = markF (t.brs.drop 0) m from rfl)
    have HM := Lib.hid hm
    clear hm
    go_enter Tryz.func21, Tryz.ntmps21
    go_wp2
    go_loop [6] (fun i => ∃ k : Nat, k ≤ t.brs.length ∧ i = .int .i64 k ∧ Hid (markF t.brs m = markF (t.brs.drop k) m)) (fun i => t.brs.length - (intOf i).toNat)
    case atStart => exact ⟨0, Nat.zero_le _, rfl, HE⟩
    case round =>
      clear HE
      obtain ⟨k, hk, rfl, HS⟩ := hrel
      by_cases hlt : k < t.brs.length
      · obtain ⟨x, hx⟩ := get_at t.brs hlt
        have HD := Lib.hid (drop_at hx)
        obtain ⟨b, off, vk, rfl, hbB, g0, g1, g2, g3, g4, g5, hkr⟩ := Brns.at_ h1 hx
        have hbw : b < w.heap.size := by have : b < B := hbB; omega
        have hkk : (k : Int) < (t.brs.length : Int) := by omega
        have hwk : IntKind.i64.wrap ((k : Int) + 1) = (k : Int) + 1 := IntWalk.i64_in _ (by omega)
        clear hx hkr
        by_cases hxm : x.mark = m
        · have he : (x.mark.toList == m.toList) = true := by rw [str_eq]; simp [hxm]
          have HX := Lib.hid (show markF t.brs m = (x.id, true) by rw [HS.out, HD.out, markF_cons _ _ _ HM.out, if_pos hxm])
          clear hxm
          go_wp2
          go_ret2
          exact ⟨by rw [HX.out]; rfl, b1⟩
        · have he : (x.mark.toList == m.toList) = false := by rw [str_eq]; simp [hxm]
          have HN := Lib.hid (show markF t.brs m = markF (t.brs.drop (k + 1)) m by rw [HS.out, HD.out, markF_cons _ _ _ HM.out, if_neg hxm])
          clear hxm
          go_wp2
          go_round
          case rel => exact ⟨k + 1, by omega, by go_num, HN⟩
          case measure => simp [intOf]; omega
      · have hkk : ¬ (k : Int) < (t.brs.length : Int) := by omega
        have HX := Lib.hid (show markF t.brs m = (0, false) by rw [HS.out, List.drop_of_length_le (by omega), markF_nil])
        go_wp2
        go_ret2
        exact ⟨by rw [HX.out]; rfl, b1⟩
end Go.Proofs.YthbccfchjgihgaaGreatDoor
