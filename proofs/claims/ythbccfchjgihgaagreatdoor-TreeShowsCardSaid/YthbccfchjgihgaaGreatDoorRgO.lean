/- The reference of the evidence: Check, Right, Of, Few; the reference's Rows. -/
import Derived.Test.YthbccfchjgihgaaGreatDoorRgE
import Derived.Test.YthbccfchjgihgaaGreatDoorRfH
namespace Go.Proofs.YthbccfchjgihgaaGreatDoor
open Go.RowKit

theorem passC_at (f : List Came → Came → Int) {l : List Came} {k : Nat} {x : Came} (hx : l[k]? = some x) : passG f (l.take k) (l.drop k) = if f (l.take k) x ≠ 0 then some ((k : Int), f (l.take k) x) else passG f (l.take (k + 1)) (l.drop (k + 1)) := by
  have hlt := lt_of_at hx
  rw [drop_at hx, passG, take_at hx, List.length_take, Nat.min_eq_left (Nat.le_of_lt hlt)]
theorem ret_rpchk {l : List Came} {a b : Int} (h : rpchkF l = (a, b)) : Ending.returned (.tuple #[.int .i64 a, .int .i64 b]) = .returned (pchkP l) := by
  rw [pchk_eq] at h
  exact ret_pchk h
theorem rcamF_is (q : List Came) (c : Came) : rcamF q c = if camB c = false then 2 else if (q.getLast?.any fun x => decide (c.unit ≤ x.unit)) = true then 5 else rclashF q c := rfl
set_option maxRecDepth 100000 in
set_option maxHeartbeats 8000000 in
theorem rpcheck_c (l : List Came) (v : Value) (w : World) (B : Nat) (hB : B ≤ w.heap.size) (h : Cames w B l v) :
    Calls Tryz.prog 107 #[v] w fun e w' => e = .returned (pchkP l) ∧ Below w.heap.size w w' := by
  obtain ⟨A, ca, rfl, hc1, hc2, _⟩ := id h
  by_cases h256 : 256 < l.length
  · have HX := Lib.hid (show rpchkF l = (-1, 8) by unfold rpchkF; rw [if_pos h256])
    have hi : (256 : Int) < (l.length : Int) := by omega
    clear h256
    go_enter Tryz.func107, Tryz.ntmps107
    go_wp2
    go_ret2
    exact ⟨ret_rpchk HX.out, Below.refl _ _⟩
  · have H0 := Lib.hid (show rpchkF l = (passG rcamF (l.take 0) (l.drop 0)).getD (-1, 0) by unfold rpchkF; rw [if_neg h256]; rfl)
    have hi : ¬ (256 : Int) < (l.length : Int) := by omega
    have HR := Lib.hid (fun (W : World) (hW : Below w.heap.size w W) => (⟨Nat.le_trans hB hW.size, h.below camS (hW.mono hB)⟩ : B ≤ W.heap.size ∧ Cames W B l (.slice A l.length ca)))
    have HG := Lib.hid (fun (j : Nat) (hj : j < l.length) => get_at l hj)
    have hl6 : l.length ≤ 256 := by omega
    clear h256
    go_enter Tryz.func107, Tryz.ntmps107
    go_wp2
    go_loopw [4] (fun i wr => ∃ k : Nat, k ≤ l.length ∧ i = .int .i64 k ∧ Hid (rpchkF l = (passG rcamF (l.take k) (l.drop k)).getD (-1, 0)) ∧ Below w.heap.size w wr) (fun i _ => l.length - (intOf i).toNat)
    case atStart => exact ⟨0, Nat.zero_le _, rfl, H0, Below.refl _ _⟩
    case round =>
      clear H0
      obtain ⟨k, hk, rfl, HS, hb⟩ := hrel
      have hs := hb.size
      by_cases hlt : k < l.length
      · obtain ⟨x, hx⟩ := get_at l hlt
        have HP := Lib.hid (passC_at rcamF hx)
        obtain ⟨b, off, rfl, hbB, g0, g1, g2, g3⟩ := Cames.at_ (HR.out _ hb).2 hx
        have hbB' : b < w.heap.size := by have : b < B := hbB; omega
        have hbw : b < wr.heap.size := by omega
        have hkk : (k : Int) < (l.length : Int) := by omega
        have hwk : IntKind.i64.wrap ((k : Int) + 1) = (k : Int) + 1 := IntWalk.i64_in _ (by omega)
        have HPA := Lib.hid (rformed_c x wr)
        have HQ := Lib.hid (fun (j : Nat) (y : Came) (hy : l[j]? = some y) (W : World) (hW : Below w.heap.size w W) => (by
          obtain ⟨b', off', e, -, q0, -⟩ := Cames.at_ (HR.out _ hW).2 hy
          injection e with e
          injection e with e1 e2
          subst e1 e2
          exact q0 : W.cell? ⟨b, off + j * 4, none⟩ = some (.int .i64 y.unit)))
        have HXC := Lib.hid (fun (W : World) (hW : Below w.heap.size w W) => (by
          obtain ⟨b', off', e, -, q0, q1, q2, q3⟩ := Cames.at_ (HR.out _ hW).2 hx
          injection e with e
          injection e with e1 e2
          subst e1 e2
          exact ⟨q0, q1, q2, q3, Nat.lt_of_lt_of_le hbB' hW.size⟩ : W.cell? ⟨b, off + k * 4, none⟩ = some (.int .i64 x.unit) ∧ W.cell? ⟨b, off + k * 4 + 1, none⟩ = some (.int .i64 x.office) ∧ W.cell? ⟨b, off + k * 4 + 2, none⟩ = some (.int .i64 x.accession) ∧ W.cell? ⟨b, off + k * 4 + 3, none⟩ = some (.int .i64 x.number) ∧ b < W.heap.size))
        have HCL := Lib.hid (fun (W : World) (hW : Below w.heap.size w W) => against_c (l.take k) x (.slice (some ⟨b, off, none⟩) k ca) W B (HR.out _ hW).1 ((HR.out _ hW).2.cut_ (Nat.le_of_lt hlt)) (by rw [List.length_take]; omega))
        have HL := Lib.hid (fun (j : Nat) (y : Came) (hy : l[j]? = some y) (hj : k = j + 1) => (by
          have hjl := lt_of_at hy
          rw [hj, take_at hy, List.getLast?_append]
          rfl : (l.take k).getLast? = some y))
        have HL0 := Lib.hid (fun (hi : k = 0) => (by rw [hi]; rfl : (l.take k).getLast? = none))
        have HE := Lib.hid (rcamF_is (l.take k) x)
        obtain ⟨last, hlast⟩ : ∃ q, (l.take k).getLast? = q := ⟨_, rfl⟩
        rw [hlast] at HE HL HL0
        clear hlast hx
        obtain ⟨cf, hcf⟩ : ∃ q, rcamF (l.take k) x = q := ⟨_, rfl⟩
        rw [hcf] at HE HP
        clear hcf
        go_wp2_with fail
        refine HPA.out.mono ?_
        rintro e w1 ⟨rfl, hb1⟩
        have hb := hb.trans (hb1.mono hs)
        clear g0 g1 g2 g3 hb1 hbw hs
        obtain ⟨c0, c1, c2, c3, cl⟩ := HXC.out _ hb
        cases h1 : camB x
        · have HX := Lib.hid (show rpchkF l = ((k : Int), 2) by rw [HS.out, HP.out, HE.out, h1]; rfl)
          clear h1
          go_wp2
          go_ret2
          exact ⟨ret_rpchk HX.out, hb⟩
        · have HE := Lib.hid (HE.out.trans (by rw [h1, if_neg (by decide)]))
          clear h1
          go_wp2
          go_cut [37] (fun v W => v = .bool (last.any fun y => decide (x.unit ≤ y.unit)) ∧ Below w.heap.size w W)
          case first =>
            by_cases hi : 0 < k
            · obtain ⟨y, hy⟩ := HG.out (k - 1) (by omega)
              have hl := HL.out (k - 1) y hy (by omega)
              have q0 := HQ.out (k - 1) y hy _ hb
              have hwj : IntKind.i64.wrap ((k : Int) - 1) = ((k - 1 : Nat) : Int) := by rw [IntWalk.i64_in _ (by omega)]; omega
              have hjj : ((k - 1 : Nat) : Int) < (l.length : Int) := by omega
              have hi' : (0 : Int) < (k : Int) := by omega
              subst hl
              clear hy
              go_quiet (fail)
              go_wp2_with fail
              go_meet
              exact ⟨rfl, below_drewN hb _⟩
            · have hl := HL0.out (by omega)
              have hi' : ¬ (0 : Int) < (k : Int) := by omega
              subst hl
              go_quiet (fail)
              go_wp2_with fail
              go_meet
              exact ⟨rfl, below_drewN hb _⟩
          case rest =>
            obtain ⟨rfl, hb⟩ := hcut
            clear c0 c1 c2 c3 cl HQ HG HL HL0
            cases hq : last.any fun y => decide (x.unit ≤ y.unit)
            · have HE := Lib.hid (HE.out.trans (by rw [hq, if_neg (by decide)]))
              clear hq
              have hbX := hb.drew
              have hkc : (k : Int) ≤ (ca : Int) := by omega
              have hca : ¬ ca = 0 := by omega
              go_wp2
              go_region_held3 (fun W => W.cell? ⟨b, off + k * 4, none⟩ = some (.int .i64 x.unit) ∧ W.cell? ⟨b, off + k * 4 + 1, none⟩ = some (.int .i64 x.office) ∧ W.cell? ⟨b, off + k * 4 + 2, none⟩ = some (.int .i64 x.accession) ∧ W.cell? ⟨b, off + k * 4 + 3, none⟩ = some (.int .i64 x.number) ∧ b < W.heap.size) (with_reducible exact HXC.out _ hbX) (first
                | (go_at_call 136; (with_reducible refine (HCL.out _ hbX).mono ?_); rintro e w5 ⟨rfl, hb5⟩; have hbX := hbX.trans (hb5.mono hbX.size)))
              by_cases hc0 : rclashF (l.take k) x = 0
              · have hne : (rclashF (l.take k) x != 0) = false := by simp [hc0]
                have HX := Lib.hid (show rpchkF l = (passG rcamF (l.take (k + 1)) (l.drop (k + 1))).getD (-1, 0) by rw [HS.out, HP.out, HE.out, if_neg (fun c => c hc0)])
                clear hc0
                go_wp2
                go_roundw
                case rel => exact ⟨k + 1, by omega, by go_num, HX, hbX⟩
                case measure => simp [intOf]; omega
              · have hne : (rclashF (l.take k) x != 0) = true := by simp [hc0]
                have HX := Lib.hid (show rpchkF l = ((k : Int), rclashF (l.take k) x) by rw [HS.out, HP.out, HE.out, if_pos hc0]; rfl)
                clear hc0
                go_wp2
                go_ret2
                exact ⟨ret_rpchk HX.out, hbX⟩
            · have HX := Lib.hid (show rpchkF l = ((k : Int), 5) by rw [HS.out, HP.out, HE.out, hq]; rfl)
              clear hq
              go_wp2
              go_ret2
              exact ⟨ret_rpchk HX.out, hb⟩
      · have hkk : ¬ (k : Int) < (l.length : Int) := by omega
        have HX := Lib.hid (show rpchkF l = (-1, 0) by rw [HS.out, List.drop_of_length_le (by omega)]; rfl)
        go_wp2
        go_ret2
        exact ⟨ret_rpchk HX.out, hb⟩
theorem rpright_c (l : List Came) (v : Value) (w : World) (B : Nat) (hB : B ≤ w.heap.size) (h : Cames w B l v) :
    Calls Tryz.prog 72 #[v] w fun e w' => e = .returned (.bool (prightB l)) ∧ Below w.heap.size w w' := by
  have HC := Lib.hid (rpcheck_c l v w B hB h)
  have HE := Lib.hid (show prightB l = decide ((pchkF l).2 = 0) from rfl)
  obtain ⟨A, ca, rfl, -⟩ := id h
  clear h
  go_enter Tryz.func72, Tryz.ntmps72
  go_wp2_with fail
  refine HC.out.mono ?_
  rintro e w1 ⟨rfl, hb1⟩
  go_wp2
  go_ret
  exact ⟨ret_bool (by rw [HE.out]; rfl), hb1⟩
set_option maxRecDepth 100000 in
set_option maxHeartbeats 2000000 in
theorem rof_c (l : List Came) (hn : l.length ≤ 100000) (u : Int) (v : Value) (w : World) (B : Nat) (hB : B ≤ w.heap.size) (h : Cames w B l v) :
    Calls Tryz.prog 73 #[v, .int .i64 u] w fun e w' => e = .returned (.tuple #[orgV (ofF l u).1, .bool (ofF l u).2]) ∧ Below w.heap.size w w' := by
  have b1 : Below w.heap.size w (w.alloc (orgC zCam)) := (Below.refl _ _).alloc (Nat.le_refl _) _
  have hr : (w.alloc (orgC zCam)).heap[w.heap.size]? = some (orgC zCam) := heap_newT w _
  obtain ⟨c0, c1, c2, cl⟩ := org_cells hr
  have f0 := Lib.frozen_of_heap hr 0
  have f1 := Lib.frozen_of_heap hr 1
  have f2 := Lib.frozen_of_heap hr 2
  have HR := Lib.hid (h.below camS (b1.mono hB))
  have HS := Lib.hid (show ofF l u = match (l.drop 0).find? (fun c => decide (c.unit = u)) with | some c => (c, true) | none => (zCam, false) from rfl)
  obtain ⟨A, ca, rfl, hc1, hc2, -⟩ := id h
  clear h
  go_enter Tryz.func73, Tryz.ntmps73
  go_wp2
  go_loopw [6] (fun i wr => ∃ k : Nat, k ≤ l.length ∧ i = .int .i64 k ∧ Hid (ofF l u = match (l.drop k).find? (fun c => decide (c.unit = u)) with | some c => (c, true) | none => (zCam, false)) ∧ wr = w.alloc (orgC zCam)) (fun i _ => l.length - (intOf i).toNat)
  case atStart => exact ⟨0, Nat.zero_le _, rfl, HS, rfl⟩
  case round =>
    clear HS
    obtain ⟨k, hk, rfl, HS, rfl⟩ := hrel
    by_cases hlt : k < l.length
    · obtain ⟨x, hx⟩ := get_at l hlt
      have HD := Lib.hid (drop_at hx)
      obtain ⟨b, off, rfl, hbB, g0, g1, g2, g3⟩ := Cames.at_ HR.out hx
      have hbw : b < w.heap.size := by have : b < B := hbB; omega
      have hbn : b ≠ w.heap.size := by omega
      have hkk : (k : Int) < (l.length : Int) := by omega
      have hwk : IntKind.i64.wrap ((k : Int) + 1) = (k : Int) + 1 := IntWalk.i64_in _ (by omega)
      clear hx
      by_cases he : x.unit = u
      · have hei : (x.unit == u) = true := by simp [he]
        have HX := Lib.hid (show ofF l u = (x, true) by rw [HS.out, HD.out, List.find?_cons_of_pos (by simpa using he)])
        have HBL := Lib.hid (show Below w.heap.size w (w.alloc (orgC x)) from (Below.refl _ _).alloc (Nat.le_refl _) _)
        clear he hr
        go_wp2
        refine bodyPost_ret (v := .tuple #[orgV x, .bool true]) (by simp [results, Tryz.results73, go_sem]) rfl ⟨by rw [HX.out], HBL.out⟩
      · have hei : (x.unit == u) = false := by simpa using he
        have HX := Lib.hid (show ofF l u = match (l.drop (k + 1)).find? (fun c => decide (c.unit = u)) with | some c => (c, true) | none => (zCam, false) by rw [HS.out, HD.out, List.find?_cons_of_neg (by simpa using he)])
        clear he
        go_wp2
        go_roundw
        case rel => exact ⟨k + 1, by omega, by go_num, HX, by first | rfl | trivial⟩
        case measure => simp [intOf]; omega
    · have hkk : ¬ (k : Int) < (l.length : Int) := by omega
      have HX := Lib.hid (show ofF l u = (zCam, false) by rw [HS.out, List.drop_of_length_le (by omega)]; rfl)
      have HBL := Lib.hid b1
      clear hr
      go_wp2
      refine bodyPost_ret (v := .tuple #[orgV zCam, .bool false]) (by simp [results, Tryz.results73, go_sem, zCam]) rfl ⟨by rw [HX.out], HBL.out⟩
def fewC (l : List Came) : Bool := decide (l.length ≤ 20) || decide (l.length = 256) || decide (l.length = 257)
theorem fewC_c (l : List Came) (v : Value) (w : World) (F : Nat → Prop) (h : SlRep 4 (flat Came.enc) w F l v) : Calls Tryz.prog 31 #[v] w fun e w' => e = .returned (.bool (fewC l)) ∧ w' = w := by
  have HE := Lib.hid (show fewC l = (decide (l.length ≤ 20) || decide (l.length = 256) || decide (l.length = 257)) from rfl)
  obtain ⟨A, ca, rfl, -⟩ := id h
  clear h
  generalize l.length = n at *
  go_enter Tryz.func31, Tryz.ntmps31
  go_wp2
  all_goals
    go_ret
    refine ⟨ret_bool ?_, rfl⟩
    rw [HE.out]
    clear HE
    rw [Bool.eq_iff_iff]
    simp only [Bool.or_eq_true, decide_eq_true_eq, true_iff, beq_iff_eq]
    omega
end Go.Proofs.YthbccfchjgihgaaGreatDoor
