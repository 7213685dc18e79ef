/- The reference: levels, Fits, Find. -/
import Derived.Test.YthbccfchjgihgaaGreatDoorCom
namespace Go.Proofs.YthbccfchjgihgaaGreatDoor
open Go.RowKit

theorem rlevel_c (n : Int) (w : World) : Calls Tryz.prog 56 #[.int .i64 n] w fun e w' => e = .returned (.bool (inB n 1 4)) ∧ w = w' := by
  have HE := Lib.hid (show inB n 1 4 = (decide (1 ≤ n) && decide (n ≤ 4)) from rfl)
  go_enter Tryz.func56, Tryz.ntmps56
  go_wp2
  all_goals
    go_ret
    refine ⟨ret_bool ?_, rfl⟩
    rw [HE.out]
    clear HE
    rw [Bool.eq_iff_iff]
    simp only [Bool.and_eq_true, decide_eq_true_eq, Bool.false_eq_true, false_iff]
    omega
theorem rfits_c (p c : Int) (w : World) : Calls Tryz.prog 17 #[.int .i64 p, .int .i64 c] w fun e w' => e = .returned (.bool (fitB p c)) ∧ w = w' := by
  have H1 := Lib.hid (rlevel_c p w)
  have H2 := Lib.hid (rlevel_c c w)
  have HE := Lib.hid (show fitB p c = (inB p 1 4 && inB c 1 4 && (decide (p < c) || (decide (p = 2) && decide (c = 2)))) from rfl)
  cases hp : inB p 1 4
  · go_enter Tryz.func17, Tryz.ntmps17
    go_wp2_with fail
    refine H1.out.mono ?_
    rintro e w1 ⟨rfl, rfl⟩
    rw [hp]
    go_wp2
    go_ret
    exact ⟨ret_bool (by rw [HE.out, hp]; rfl), rfl⟩
  · cases hc : inB c 1 4
    · go_enter Tryz.func17, Tryz.ntmps17
      go_wp2_with fail
      refine H1.out.mono ?_
      rintro e w1 ⟨rfl, rfl⟩
      rw [hp]
      go_wp2_with fail
      refine H2.out.mono ?_
      rintro e w2 ⟨rfl, rfl⟩
      rw [hc]
      go_wp2
      go_ret
      exact ⟨ret_bool (by rw [HE.out, hp, hc]; rfl), rfl⟩
    · obtain ⟨r, hr⟩ : ∃ r, fitB p c = r := ⟨_, rfl⟩
      have HE2 := Lib.hid (show r = (decide (p < c) || (decide (p = 2) && decide (c = 2))) by rw [← hr, HE.out, hp, hc]; simp)
      rw [hr]
      clear hr
      go_enter Tryz.func17, Tryz.ntmps17
      go_wp2_with fail
      refine H1.out.mono ?_
      rintro e w1 ⟨rfl, rfl⟩
      rw [hp]
      go_wp2_with fail
      refine H2.out.mono ?_
      rintro e w2 ⟨rfl, rfl⟩
      rw [hc]
      clear HE H1 H2
      go_wp2
      all_goals
        go_ret
        refine ⟨ret_bool ?_, rfl⟩
        rw [HE2.out]
        clear HE2
        rw [Bool.eq_iff_iff]
        simp only [Bool.or_eq_true, Bool.and_eq_true, decide_eq_true_eq, beq_iff_eq, Bool.false_eq_true, false_iff, true_iff]
        omega
theorem find_cons (x : Brn) (r : List Brn) (u : Int) : findB (x :: r) u = if x.id = u then some x else findB r u := by
  unfold findB
  rw [List.find?_cons]
  by_cases h : x.id = u
  · simp [h]
  · simp [h]
set_option maxRecDepth 100000 in
set_option maxHeartbeats 2000000 in
theorem rfind_c (t : Tre) (u : Int) (vr vb : Value) (w : World) (B : Nat) (hB : B ≤ w.heap.size) (h : TreRep w B t vr vb) :
    Calls Tryz.prog 19 #[treV vr vb, .int .i64 u] w fun e w' => e = .returned (.tuple #[untV (findU t.brs u).1, .bool (findU t.brs u).2]) ∧ Below w.heap.size w w' := by
  have hF0 := FnAt.make w vr vb
  obtain ⟨Ar, cr, rfl, -⟩ := id h.tops
  obtain ⟨A, ca, rfl, hc1, hc2, _⟩ := id h.brs
  have HE := Lib.hid (show findB t.brs u = findB (t.brs.drop 0) u from rfl)
  have HBR := Lib.hid (fun (W : World) (hW : Below w.heap.size w W) => (h.below (hW.mono hB)).brs)
  have HF0 := Lib.hid hF0
  have HV := Lib.hid (show findU t.brs u = match findB t.brs u with | some b => (b, true) | none => (zBrn, false) from rfl)
  clear hF0
  go_enter Tryz.func19, Tryz.ntmps19
  go_wp2
  go_loopw [6] (fun i wr => ∃ k : Nat, k ≤ t.brs.length ∧ i = .int .i64 k ∧ Hid (findB t.brs u = findB (t.brs.drop k) u) ∧ Hid (FnAt w (.slice Ar t.roots.length cr) (.slice A t.brs.length ca) wr)) (fun i _ => t.brs.length - (intOf i).toNat)
  case atStart => exact ⟨0, Nat.zero_le _, rfl, HE, HF0⟩
  case round =>
    clear HE HF0
    obtain ⟨k, hk, rfl, HS, HF⟩ := hrel
    have z1 : wr.cell? ⟨w.heap.size, 1, none⟩ = some (.slice A t.brs.length ca) := by rw [Lib.cell_of_heap HF.out.cb]; rfl
    have zl := heap_ltT HF.out.cb
    by_cases hlt : k < t.brs.length
    · obtain ⟨x, hx⟩ := get_at t.brs hlt
      have HD := Lib.hid (drop_at hx)
      obtain ⟨b, off, vk, rfl, hbB, g0, g1, g2, g3, g4, g5, hkr⟩ := Brns.at_ (HBR.out _ HF.out.below) hx
      have hbw : b < wr.heap.size := by have : b < B := hbB; have := HF.out.below.size; omega
      have hkk : (k : Int) < (t.brs.length : Int) := by omega
      have hwk : IntKind.i64.wrap ((k : Int) + 1) = (k : Int) + 1 := IntWalk.i64_in _ (by omega)
      clear hx hkr
      by_cases hxu : x.id = u
      · have he : (x.id == u) = true := by simp [hxu]
        have HX := Lib.hid (show findU t.brs u = (x, true) by rw [HV.out, HS.out, HD.out, find_cons, if_pos hxu])
        have hr := HF.out.rb
        obtain ⟨c0, c1, c2, c3, c4, cl⟩ := unt_cells hr
        have f0 := Lib.frozen_of_heap hr 0
        have f1 := Lib.frozen_of_heap hr 1
        have f2 := Lib.frozen_of_heap hr 2
        have f3 := Lib.frozen_of_heap hr 3
        have f4 := Lib.frozen_of_heap hr 4
        have HBL := Lib.hid (put5_below (x := x) HF.out.below (show w.heap.size ≤ w.heap.size + 1 from Nat.le_succ _))
        clear hr hxu
        go_wp2
        refine bodyPost_ret (v := .tuple #[untV x, .bool true]) (by simp [results, Tryz.results19, go_sem, c0, c1, c2, c3, c4]) rfl ⟨by rw [HX.out], HBL.out⟩
      · have he : (x.id == u) = false := by simpa using hxu
        have HN := Lib.hid (show findB t.brs u = findB (t.brs.drop (k + 1)) u by rw [HS.out, HD.out, find_cons, if_neg hxu])
        clear hxu
        go_wp2
        go_roundw
        case rel => exact ⟨k + 1, by omega, by go_num, HN, HF⟩
        case measure => simp [intOf]; omega
    · have HX := Lib.hid (show findU t.brs u = (zBrn, false) by rw [HV.out, HS.out, List.drop_of_length_le (by omega)]; rfl)
      have hkk : ¬ (k : Int) < (t.brs.length : Int) := by omega
      have hr := HF.out.rb
      obtain ⟨c0, c1, c2, c3, c4, cl⟩ := unt_cells hr
      have f0 := Lib.frozen_of_heap hr 0
      have f1 := Lib.frozen_of_heap hr 1
      have f2 := Lib.frozen_of_heap hr 2
      have f3 := Lib.frozen_of_heap hr 3
      have f4 := Lib.frozen_of_heap hr 4
      have HBL := Lib.hid (put5_below (x := zBrn) HF.out.below (show w.heap.size ≤ w.heap.size + 1 from Nat.le_succ _))
      clear hr
      go_wp2
      refine bodyPost_ret (v := .tuple #[untV zBrn, .bool false]) (by simp [results, Tryz.results19, go_sem, zBrn, c0, c1, c2, c3, c4]) rfl ⟨by rw [HX.out], HBL.out⟩
end Go.Proofs.YthbccfchjgihgaaGreatDoor
