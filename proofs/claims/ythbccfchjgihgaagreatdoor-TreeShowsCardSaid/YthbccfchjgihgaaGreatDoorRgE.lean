/- The reference of the evidence: its check, the origin of a unit. -/
import Derived.Test.YthbccfchjgihgaaGreatDoorRow
namespace Go.Proofs.YthbccfchjgihgaaGreatDoor
open Go.RowKit

theorem rin_c (n lo hi : Int) (w : World) : Calls Tryz.prog 156 #[.int .i64 n, .int .i64 lo, .int .i64 hi] w fun e w' => e = .returned (.bool (inB n lo hi)) ∧ w = w' := by
  have HE := Lib.hid (show inB n lo hi = (decide (lo ≤ n) && decide (n ≤ hi)) from rfl)
  go_enter Tryz.func156, Tryz.ntmps156
  go_wp2
  all_goals
    go_ret
    refine ⟨ret_bool ?_, rfl⟩
    rw [HE.out]
    clear HE
    rw [Bool.eq_iff_iff]
    simp only [Bool.and_eq_true, decide_eq_true_eq, Bool.false_eq_true, false_iff]
    omega
set_option maxRecDepth 100000 in
set_option maxHeartbeats 2000000 in
theorem rvalid_c (x : Came) (w : World) :
    Calls Tryz.prog 157 #[orgV x] w fun e w' => e = .returned (.bool (inB x.office 0 1073741824 && plcB x)) ∧ Below w.heap.size w w' := by
  have HB := Lib.hid (show Below w.heap.size w (w.alloc (orgC x)) from (Below.refl _ _).alloc (Nat.le_refl _) _)
  have H1 := Lib.hid (fun (W : World) => rin_c x.accession 1 1073741824 W)
  have H2 := Lib.hid (fun (W : World) => rin_c x.number 1 9999 W)
  have H4 := Lib.hid (fun (W : World) => rin_c x.office 0 1073741824 W)
  have HC := Lib.hid (plc_cases x)
  generalize plcB x = p at *
  generalize inB x.accession 1 1073741824 = ba at HC H1
  generalize inB x.number 1 9999 = bn at HC H2
  generalize inB x.office 0 1073741824 = bo at *
  cases bo
  · go_enter Tryz.func157, Tryz.ntmps157
    go_wp2_with fail
    refine (H4.out _).mono ?_
    rintro e w1 ⟨rfl, rfl⟩
    go_wp2
    go_ret
    exact ⟨rfl, HB.out⟩
  · rcases HC.out with ⟨rfl, rfl, rfl⟩ | ⟨rfl, rfl, h0, rfl⟩ | ⟨rfl, h0, h1, rfl⟩ | ⟨rfl, h0, h1, rfl⟩ | ⟨rfl, h0, rfl⟩
    all_goals
      clear HC
      go_enter Tryz.func157, Tryz.ntmps157
      go_wp2_with fail
      refine (H4.out _).mono ?_
      rintro e w1 ⟨rfl, rfl⟩
      go_wp2_with fail
      refine (H1.out _).mono ?_
      rintro e w1 ⟨rfl, rfl⟩
      go_wp2_with (first | (with_reducible refine (H2.out _).mono ?_; rintro e w1 ⟨rfl, rfl⟩) | fail)
      (try go_wp2)
      go_ret
      exact ⟨rfl, HB.out⟩
set_option maxHeartbeats 2000000 in
theorem rformed_c (x : Came) (w : World) :
    Calls Tryz.prog 135 #[camV x] w fun e w' => e = .returned (.bool (camB x)) ∧ Below w.heap.size w w' := by
  have b1 : Below w.heap.size w (w.alloc (camC x)) := (Below.refl _ _).alloc (Nat.le_refl _) _
  have HE := Lib.hid (show camB x = (inB x.unit 1 1073741824 && (inB x.office 0 1073741824 && plcB x)) by rw [← Bool.and_assoc]; rfl)
  have H3 := Lib.hid (fun (W : World) => rin_c x.unit 1 1073741824 W)
  have HV := Lib.hid (rvalid_c x (w.alloc (camC x)))
  generalize (inB x.office 0 1073741824 && plcB x) = bv at *
  generalize inB x.unit 1 1073741824 = bu at *
  cases bu
  · go_enter Tryz.func135, Tryz.ntmps135
    go_wp2_with fail
    refine (H3.out _).mono ?_
    rintro e w1 ⟨rfl, rfl⟩
    go_wp2
    go_ret
    exact ⟨ret_bool HE.out.symm, b1⟩
  · go_enter Tryz.func135, Tryz.ntmps135
    go_wp2_with fail
    refine (H3.out _).mono ?_
    rintro e w1 ⟨rfl, rfl⟩
    go_wp2_with fail
    refine HV.out.mono ?_
    rintro e w2 ⟨rfl, hb2⟩
    go_wp2
    go_ret
    exact ⟨ret_bool (by rw [HE.out]; rfl), b1.trans (hb2.mono b1.size)⟩
def rP1 (c x : Came) : Bool := decide (x.unit = c.unit) || decide (c.accession ≠ 0) && decide (x.accession = c.accession) && decide (x.number = c.number)
def rP2 (c x : Came) : Bool := decide (c.accession ≠ 0) && decide (x.accession = c.accession) && decide (x.office ≠ c.office)
theorem rclash_is (q : List Came) (c : Came) : rclashF q c = if ((q.drop 0).any (rP1 c)) = true then 6 else if ((q.drop 0).any (rP2 c)) = true then 10 else 0 := rfl
set_option maxRecDepth 100000 in
set_option maxHeartbeats 8000000 in
theorem against_c (q : List Came) (c : Came) (v : Value) (w : World) (B : Nat) (hB : B ≤ w.heap.size) (h : Cames w B q v) (hn : q.length ≤ 100000) :
    Calls Tryz.prog 136 #[v, camV c] w fun e w' => e = .returned (.int .i64 (rclashF q c)) ∧ Below w.heap.size w w' := by
  have b1 : Below w.heap.size w (w.alloc (camC c)) := (Below.refl _ _).alloc (Nat.le_refl _) _
  have hs1 : w.heap.size + 1 ≤ (w.alloc (camC c)).heap.size := by simp
  have KC := Lib.hid (fun (W : World) (hW : Below (w.heap.size + 1) (w.alloc (camC c)) W) => cam_cells ((hW.block w.heap.size (by omega)).trans (heap_newT w (camC c))))
  have HUP := Lib.hid (fun (W : World) (hW : Below (w.heap.size + 1) (w.alloc (camC c)) W) => b1.trans (hW.mono (Nat.le_succ _)))
  have HR := Lib.hid (fun (W : World) (hW : Below w.heap.size w W) => h.below camS (hW.mono hB))
  have HS := Lib.hid (rclash_is q c)
  obtain ⟨A, ca, rfl, hc1, hc2, -⟩ := id h
  have bX : Below (w.heap.size + 1) (w.alloc (camC c)) (w.alloc (camC c)) := Below.refl _ _
  clear h
  go_enter Tryz.func136, Tryz.ntmps136
  go_wp2
  go_loopw [5] (fun i wr => ∃ k : Nat, k ≤ q.length ∧ i = .int .i64 k ∧ Hid (rclashF q c = if ((q.drop k).any (rP1 c)) = true then 6 else if ((q.drop 0).any (rP2 c)) = true then 10 else 0) ∧ Below (w.heap.size + 1) (w.alloc (camC c)) wr) (fun i _ => q.length - (intOf i).toNat)
  case atStart => exact ⟨0, Nat.zero_le _, rfl, HS, bX⟩
  case round =>
    clear HS bX
    obtain ⟨k, hk, rfl, HS, bX⟩ := hrel
    have bw := HUP.out _ bX
    by_cases hlt : k < q.length
    · obtain ⟨x, hx⟩ := get_at q hlt
      have HD := Lib.hid (drop_at hx)
      obtain ⟨b, off, rfl, hbB, g0, g1, g2, g3⟩ := Cames.at_ (HR.out _ bw) hx
      obtain ⟨c0, c1, c2, c3, cl⟩ := KC.out _ bX
      have hbw : b < wr.heap.size := by have : b < B := hbB; have := bw.size; omega
      have hkk : (k : Int) < (q.length : Int) := by omega
      have hwk : IntKind.i64.wrap ((k : Int) + 1) = (k : Int) + 1 := IntWalk.i64_in _ (by omega)
      have HT := Lib.hid (fun (hp : rP1 c x = true) => (by rw [HS.out, HD.out, List.any_cons, hp]; rfl : rclashF q c = 6))
      have HF := Lib.hid (fun (hp : rP1 c x = false) => (by rw [HS.out, HD.out, List.any_cons, hp, Bool.false_or] : rclashF q c = if ((q.drop (k + 1)).any (rP1 c)) = true then 6 else if ((q.drop 0).any (rP2 c)) = true then 10 else 0))
      clear hx HD HS
      by_cases hu : x.unit = c.unit
      · have e1 : (x.unit == c.unit) = true := by simp [hu]
        have HX := Lib.hid (HT.out (by unfold rP1; simp [hu]))
        clear hu
        go_wp2
        go_quiet (fail)
        go_wp2
        go_ret
        exact ⟨ret_int HX.out.symm, below_drewN bw _⟩
      · have e1 : (x.unit == c.unit) = false := by simpa using hu
        by_cases ha : c.accession = 0
        · have e2 : (c.accession != 0) = false := by simp [ha]
          have HX := Lib.hid (HF.out (by unfold rP1; simp [hu, ha]))
          clear hu ha
          go_wp2
          go_quiet (fail)
          go_wp2
          go_roundw
          case rel => exact ⟨k + 1, by omega, by go_num, HX, below_drewN bX _⟩
          case measure => simp [intOf]; omega
        · have e2 : (c.accession != 0) = true := by simpa using ha
          by_cases hc : x.accession = c.accession
          · have e3 : (x.accession == c.accession) = true := by simp [hc]
            by_cases hm : x.number = c.number
            · have e4 : (x.number == c.number) = true := by simp [hm]
              have HX := Lib.hid (HT.out (by unfold rP1; rw [decide_eq_true hc, decide_eq_true hm, decide_eq_true ha]; simp))
              clear hu ha hc hm
              go_wp2
              go_quiet (fail)
              go_wp2
              go_ret
              exact ⟨ret_int HX.out.symm, below_drewN bw _⟩
            · have e4 : (x.number == c.number) = false := by simpa using hm
              have HX := Lib.hid (HF.out (by unfold rP1; simp [hu, hm]))
              clear hu ha hc hm
              go_wp2
              go_quiet (fail)
              go_wp2
              go_roundw
              case rel => exact ⟨k + 1, by omega, by go_num, HX, below_drewN bX _⟩
              case measure => simp [intOf]; omega
          · have e3 : (x.accession == c.accession) = false := by simpa using hc
            have HX := Lib.hid (HF.out (by unfold rP1; simp [hu, hc]))
            clear hu ha hc
            go_wp2
            go_quiet (fail)
            go_wp2
            go_roundw
            case rel => exact ⟨k + 1, by omega, by go_num, HX, below_drewN bX _⟩
            case measure => simp [intOf]; omega
    · have hkk : ¬ (k : Int) < (q.length : Int) := by omega
      have HS := Lib.hid (show rclashF q c = if ((q.drop 0).any (rP2 c)) = true then 10 else 0 by rw [HS.out, List.drop_of_length_le (by omega)]; rfl)
      go_wp2
      go_loopw [6] (fun i wr => ∃ k : Nat, k ≤ q.length ∧ i = .int .i64 k ∧ Hid (rclashF q c = if ((q.drop k).any (rP2 c)) = true then 10 else 0) ∧ Below (w.heap.size + 1) (w.alloc (camC c)) wr) (fun i _ => q.length - (intOf i).toNat)
      case atStart => exact ⟨0, Nat.zero_le _, rfl, HS, bX⟩
      case round =>
        clear HS bX bw
        obtain ⟨k, hk, rfl, HS, bX⟩ := hrel
        have bw := HUP.out _ bX
        by_cases hlt : k < q.length
        · obtain ⟨x, hx⟩ := get_at q hlt
          have HD := Lib.hid (drop_at hx)
          obtain ⟨b, off, rfl, hbB, g0, g1, g2, g3⟩ := Cames.at_ (HR.out _ bw) hx
          obtain ⟨c0, c1, c2, c3, cl⟩ := KC.out _ bX
          have hbw : b < wr.heap.size := by have : b < B := hbB; have := bw.size; omega
          have hkk : (k : Int) < (q.length : Int) := by omega
          have hwk : IntKind.i64.wrap ((k : Int) + 1) = (k : Int) + 1 := IntWalk.i64_in _ (by omega)
          have HT := Lib.hid (fun (hp : rP2 c x = true) => (by rw [HS.out, HD.out, List.any_cons, hp]; rfl : rclashF q c = 10))
          have HF := Lib.hid (fun (hp : rP2 c x = false) => (by rw [HS.out, HD.out, List.any_cons, hp, Bool.false_or] : rclashF q c = if ((q.drop (k + 1)).any (rP2 c)) = true then 10 else 0))
          clear hx HD HS
          by_cases ha : c.accession = 0
          · have e2 : (c.accession != 0) = false := by simp [ha]
            have HX := Lib.hid (HF.out (by unfold rP2; simp [ha]))
            clear ha
            go_wp2
            go_quiet (fail)
            go_wp2
            go_roundw
            case rel => exact ⟨k + 1, by omega, by go_num, HX, below_drewN bX _⟩
            case measure => simp [intOf]; omega
          · have e2 : (c.accession != 0) = true := by simpa using ha
            by_cases hc : x.accession = c.accession
            · have e3 : (x.accession == c.accession) = true := by simp [hc]
              by_cases hm : x.office = c.office
              · have e4 : (x.office != c.office) = false := by simp [hm]
                have HX := Lib.hid (HF.out (by unfold rP2; simp [hm]))
                clear ha hc hm
                go_wp2
                go_quiet (fail)
                go_wp2
                go_roundw
                case rel => exact ⟨k + 1, by omega, by go_num, HX, below_drewN bX _⟩
                case measure => simp [intOf]; omega
              · have e4 : (x.office != c.office) = true := by simpa using hm
                have HX := Lib.hid (HT.out (by unfold rP2; rw [decide_eq_true hc, decide_eq_true hm, decide_eq_true ha]; rfl))
                clear ha hc hm
                go_wp2
                go_quiet (fail)
                go_wp2
                go_ret
                exact ⟨ret_int HX.out.symm, below_drewN bw _⟩
            · have e3 : (x.accession == c.accession) = false := by simpa using hc
              have HX := Lib.hid (HF.out (by unfold rP2; simp [hc]))
              clear ha hc
              go_wp2
              go_quiet (fail)
              go_wp2
              go_roundw
              case rel => exact ⟨k + 1, by omega, by go_num, HX, below_drewN bX _⟩
              case measure => simp [intOf]; omega
        · have hkk : ¬ (k : Int) < (q.length : Int) := by omega
          have HX := Lib.hid (show rclashF q c = 0 by rw [HS.out, List.drop_of_length_le (by omega)]; rfl)
          go_wp2
          go_ret
          exact ⟨ret_int HX.out.symm, bw⟩
end Go.Proofs.YthbccfchjgihgaaGreatDoor
