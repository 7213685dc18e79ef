/- Check of boxes, the reference's: formed, sum, form, inside. -/
import Derived.Test.YthabpkigflldmaaBxC
namespace Go.Proofs.Ythabpkigflldmaa
open Go.RowKit

theorem formed_c (x : Content) (w : World) : Calls Try.prog 109 #[.agg #[.int .i64 x.unit, .int .i64 x.thick]] w fun e w' => e = .returned (.bool (contOk x)) ∧ Below w.heap.size w w' := by
  by_cases e0 : 1 ≤ x.unit
  · by_cases e1 : x.unit ≤ 1073741824
    · by_cases e2 : 1 ≤ x.thick
      · have HE := Lib.hid (show contOk x = decide (x.thick ≤ 10000) by simp [contOk, inB, e0, e1, e2])
        go_enter Try.func109, Try.ntmps109
        go_wp2
        go_ret
        exact ⟨ret_bool HE.out.symm, (by repeat' (first | refine below_drewN ?_ _ | go_grown))⟩
      · have HE := Lib.hid (show contOk x = false by simp [contOk, inB, e2])
        have e2' : decide (1 ≤ x.thick) = false := by simpa using e2
        go_enter Try.func109, Try.ntmps109
        go_wp2
        go_ret
        exact ⟨ret_bool HE.out.symm, (by repeat' (first | refine below_drewN ?_ _ | go_grown))⟩
    · have HE := Lib.hid (show contOk x = false by simp [contOk, inB, e1])
      have e1' : decide (x.unit ≤ 1073741824) = false := by simpa using e1
      go_enter Try.func109, Try.ntmps109
      go_wp2
      go_ret
      exact ⟨ret_bool HE.out.symm, (by repeat' (first | refine below_drewN ?_ _ | go_grown))⟩
  · have HE := Lib.hid (show contOk x = false by simp [contOk, inB, e0])
    have e0' : decide (1 ≤ x.unit) = false := by simpa using e0
    go_enter Try.func109, Try.ntmps109
    go_wp2
    go_ret
    exact ⟨ret_bool HE.out.symm, (by repeat' (first | refine below_drewN ?_ _ | go_grown))⟩
set_option maxHeartbeats 1000000 in
theorem sum_c (x : Box) (v : Value) (w : World) (B : Nat) (hB : B ≤ w.heap.size) (h : Contents w B x.cont v) (hl : x.cont.length ≤ 64) (hx : ∀ c ∈ x.cont, 1 ≤ c.thick ∧ c.thick ≤ 10000) :
    Calls Try.prog 110 #[.agg #[.int .i64 x.id, .int .i64 x.width, .int .i64 x.room, .int .i64 x.clim, v]] w fun e w' => e = .returned (.int .i64 (thickS x.cont)) ∧ Below w.heap.size w w' := by
  obtain ⟨A, c, rfl, hc1, hc2, _⟩ := id h
  have HX := Lib.hid hx
  clear hx
  have b0 : Below w.heap.size w (w.alloc (.cells #[.int .i64 x.id, .int .i64 x.width, .int .i64 x.room, .int .i64 x.clim, .slice A x.cont.length c] 101)) := (Below.refl _ _).alloc (Nat.le_refl _) _
  go_enter Try.func110, Try.ntmps110
  go_wp2
  go_loopw [3, 9] (fun s i wr => ∃ k : Nat, k ≤ x.cont.length ∧ i = .int .i64 k ∧ s = .int .i64 (thickS (x.cont.take k)) ∧ Below w.heap.size w wr) (fun _ i _ => x.cont.length - (intOf i).toNat)
  case atStart => exact ⟨0, Nat.zero_le _, rfl, rfl, b0⟩
  case round =>
    obtain ⟨k, hk, rfl, rfl, hb⟩ := hrel
    have hs := hb.size
    clear b0
    by_cases hlt : k < x.cont.length
    · obtain ⟨y, hx⟩ := get_at x.cont hlt
      have HT := Lib.hid (thickS_take x.cont k y hx)
      have hbd := thickS_bd (x.cont.take k) fun c hc => HX.out c (List.mem_of_mem_take hc)
      have hlk : (x.cont.take k).length ≤ 64 := by simp; omega
      have hxb := HX.out y (List.mem_of_getElem? hx)
      obtain ⟨hx1, hx2⟩ := hxb
      obtain ⟨b, off, rfl, hbB, g0, g1⟩ := Contents.at_ (h.below coS (hb.mono hB)) hx
      have hbw : b < wr.heap.size := by omega
      obtain ⟨hd1, hd2⟩ := hbd
      have hd3 : thickS (x.cont.take k) ≤ 640000 := by omega
      clear hx hd2 hlk
      go_wp2
      go_roundw
      case rel => exact ⟨k + 1, by omega, by go_num, by rw [HT.out], hb.alloc hs _⟩
      case measure => simp [intOf]; omega
    · go_wp2
      go_ret
      refine ⟨ret_int ?_, hb⟩
      rw [List.take_of_length_le (by omega)]
def insideN (b : Box) (u : Int) : Nat := (unitsOf b).count u
theorem inside_take (b : Box) (u : Int) {k : Nat} {x : Content} (h : b.cont[k]? = some x) : ((unitsOf b).take (k + 1)).count u = ((unitsOf b).take k).count u + if x.unit = u then 1 else 0 := by
  rw [(units_take h).2, List.count_append]
  congr 1
  by_cases hx : x.unit = u <;> simp [hx]
set_option maxHeartbeats 1000000 in
theorem inside_c (u : Int) (x : Box) (v : Value) (w : World) (B : Nat) (hB : B ≤ w.heap.size) (h : Contents w B x.cont v) :
    Calls Try.prog 98 #[.agg #[.int .i64 x.id, .int .i64 x.width, .int .i64 x.room, .int .i64 x.clim, v], .int .i64 u] w fun e w' => e = .returned (.int .i64 (insideN x u)) ∧ Below w.heap.size w w' := by
  obtain ⟨A, c, rfl, hc1, hc2, _⟩ := id h
  have b0 : Below w.heap.size w (w.alloc (.cells #[.int .i64 x.id, .int .i64 x.width, .int .i64 x.room, .int .i64 x.clim, .slice A x.cont.length c] 101)) := (Below.refl _ _).alloc (Nat.le_refl _) _
  go_enter Try.func98, Try.ntmps98
  go_wp2
  go_loopw [5, 11] (fun s i wr => ∃ k : Nat, k ≤ x.cont.length ∧ i = .int .i64 k ∧ s = .int .i64 (((unitsOf x).take k).count u) ∧ Below w.heap.size w wr) (fun _ i _ => x.cont.length - (intOf i).toNat)
  case atStart => exact ⟨0, Nat.zero_le _, rfl, rfl, b0⟩
  case round =>
    obtain ⟨k, hk, rfl, rfl, hb⟩ := hrel
    have hs := hb.size
    clear b0
    by_cases hlt : k < x.cont.length
    · obtain ⟨y, hx⟩ := get_at x.cont hlt
      have HT := Lib.hid (inside_take x u hx)
      have hlk : ((unitsOf x).take k).count u ≤ k := Nat.le_trans List.count_le_length (by simp; omega)
      obtain ⟨b, off, rfl, hbB, g0, g1⟩ := Contents.at_ (h.below coS (hb.mono hB)) hx
      have hbw : b < wr.heap.size := by omega
      clear hx
      by_cases hyu : y.unit = u
      · have e1 : (y.unit == u) = true := by simpa using hyu
        have HT2 := Lib.hid (show ((unitsOf x).take (k + 1)).count u = ((unitsOf x).take k).count u + 1 by rw [HT.out, if_pos hyu])
        obtain ⟨m, hm⟩ : ∃ m, m = ((unitsOf x).take k).count u := ⟨_, rfl⟩
        rw [← hm] at hlk HT2 ⊢
        clear hyu hm
        go_wp2
        go_roundw
        case rel => exact ⟨k + 1, by omega, by go_num, by rw [HT2.out]; go_num, hb.alloc hs _⟩
        case measure => simp [intOf]; omega
      · have e1 : (y.unit == u) = false := by simpa using hyu
        have HT2 := Lib.hid (show ((unitsOf x).take (k + 1)).count u = ((unitsOf x).take k).count u by rw [HT.out, if_neg hyu]; rfl)
        obtain ⟨m, hm⟩ : ∃ m, m = ((unitsOf x).take k).count u := ⟨_, rfl⟩
        rw [← hm] at hlk HT2 ⊢
        clear hm
        go_wp2
        go_roundw
        case rel => exact ⟨k + 1, by omega, by go_num, by rw [HT2.out], hb.alloc hs _⟩
        case measure => simp [intOf]; omega
    · go_wp2
      go_ret
      refine ⟨ret_int ?_, hb⟩
      rw [List.take_of_length_le (by rw [units_len]; omega)]
      rfl
end Go.Proofs.Ythabpkigflldmaa
