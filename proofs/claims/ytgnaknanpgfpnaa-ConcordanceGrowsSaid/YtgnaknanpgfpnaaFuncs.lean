/- slices.IndexFunc and slices.ContainsFunc over what was given, at any closure; the closures of the statements. -/
import Derived.Test.YtgnaknanpgfpnaaLawB
import Derived.Test.YtgnaknanpgfpnaaPlainE
namespace Go.Proofs.Ytgnaknanpgfpnaa
open Go.RowKit

theorem idx_any {α : Type} (p : α → Bool) (xs : List α) : decide (0 ≤ idxF p xs) = xs.any p := by
  rcases idxF_cases p xs with ⟨hf, hn⟩ | ⟨k, y, hf, hk, hy, hn⟩
  · rw [hf, eq_comm, show decide ((0 : Int) ≤ -1) = false from rfl, List.any_eq_false]
    intro x hx
    have := List.find?_eq_none.1 hn x hx
    simpa using this
  · rw [hf, eq_comm, show decide ((0 : Int) ≤ (k : Int)) = true by simp, List.any_eq_true]
    exact ⟨y, List.mem_of_getElem? hk, List.find?_some hn⟩
set_option maxHeartbeats 1000000 in
theorem indexGiD_c (ca : Value) (p : Given → Bool) (xs : List Given) (v : Value) (w : World) (B : Nat) (hB : B ≤ w.heap.size) (h : Givens w B xs v)
    (hp : ∀ (x : Given) (W : World), Below w.heap.size w W → Calls Try.prog 32 #[.agg #[.string x.mark, .int .i64 x.unit, .int .i64 x.from_, .int .i64 x.until_], ca] W fun e w' => e = .returned (.bool (p x)) ∧ Below W.heap.size W w') :
    Calls Try.prog 48 #[v, .func (.func 32) #[] #[ca]] w fun e w' => e = .returned (.int .i64 (idxF p xs)) ∧ Below w.heap.size w w' := by
  obtain ⟨A, c, rfl, hc1, hc2, _⟩ := id h
  have HP := Lib.hid hp
  clear hp
  have HF := Lib.hid (show idxF p xs = idxG p (xs.drop 0) 0 from rfl)
  go_enter Try.func48, Try.ntmps48
  go_wp2
  go_loopw [8] (fun i wr => ∃ k : Nat, k ≤ xs.length ∧ i = .int .i64 k ∧ Hid (idxF p xs = idxG p (xs.drop k) k) ∧ Below w.heap.size w wr) (fun i _ => xs.length - (intOf i).toNat)
  case atStart => exact ⟨0, Nat.zero_le _, rfl, HF, Below.refl _ _⟩
  case round =>
    obtain ⟨k, hk, rfl, HS, hb⟩ := hrel
    clear HF
    have hs := hb.size
    by_cases hlt : k < xs.length
    · obtain ⟨x, hx⟩ := get_at xs hlt
      have HD := Lib.hid (drop_at hx)
      obtain ⟨b, off, rfl, hbB, g0, g1, g2, g3⟩ := Givens.at_ (h.below giS (hb.mono hB)) hx
      have hbw : b < wr.heap.size := by omega
      clear hx
      go_wp2_with fail
      refine (HP.out x wr hb).mono ?_
      rintro e w1 ⟨rfl, hb1⟩
      cases hpx : p x
      · go_wp2
        go_roundw
        case rel => exact ⟨k + 1, by omega, by go_num, by show _ = _; rw [HS.out, HD.out]; simp [idxG, hpx], hb.trans (hb1.mono hs)⟩
        case measure => simp [intOf]; omega
      · go_wp2
        go_ret
        exact ⟨ret_int (by rw [HS.out, HD.out]; simp [idxG, hpx]), hb.trans (hb1.mono hs)⟩
    · go_wp2
      go_ret
      exact ⟨ret_int (by rw [HS.out, List.drop_of_length_le (by omega)]; rfl), hb⟩
theorem containsGiD_c (ca : Value) (p : Given → Bool) (xs : List Given) (v : Value) (w : World) (B : Nat) (hB : B ≤ w.heap.size) (h : Givens w B xs v)
    (hp : ∀ (x : Given) (W : World), Below w.heap.size w W → Calls Try.prog 32 #[.agg #[.string x.mark, .int .i64 x.unit, .int .i64 x.from_, .int .i64 x.until_], ca] W fun e w' => e = .returned (.bool (p x)) ∧ Below W.heap.size W w') :
    Calls Try.prog 31 #[v, .func (.func 32) #[] #[ca]] w fun e w' => e = .returned (.bool (xs.any p)) ∧ Below w.heap.size w w' := by
  have HI := Lib.hid (indexGiD_c ca p xs v w B hB h hp)
  obtain ⟨A, c, rfl, hc1, hc2, _⟩ := id h
  have HE := Lib.hid (idx_any p xs)
  clear hp
  go_enter Try.func31, Try.ntmps31
  go_wp2_with fail
  refine HI.out.mono ?_
  rintro e w1 ⟨rfl, hb1⟩
  go_wp2
  go_ret
  exact ⟨ret_bool HE.out, hb1⟩
set_option maxHeartbeats 1000000 in
theorem indexGiW_c (ca : Value) (cb : Value) (p : Given → Bool) (xs : List Given) (v : Value) (w : World) (B : Nat) (hB : B ≤ w.heap.size) (h : Givens w B xs v)
    (hp : ∀ (x : Given) (W : World), Below w.heap.size w W → Calls Try.prog 33 #[.agg #[.string x.mark, .int .i64 x.unit, .int .i64 x.from_, .int .i64 x.until_], ca, cb] W fun e w' => e = .returned (.bool (p x)) ∧ Below W.heap.size W w') :
    Calls Try.prog 48 #[v, .func (.func 33) #[] #[ca, cb]] w fun e w' => e = .returned (.int .i64 (idxF p xs)) ∧ Below w.heap.size w w' := by
  obtain ⟨A, c, rfl, hc1, hc2, _⟩ := id h
  have HP := Lib.hid hp
  clear hp
  have HF := Lib.hid (show idxF p xs = idxG p (xs.drop 0) 0 from rfl)
  go_enter Try.func48, Try.ntmps48
  go_wp2
  go_loopw [8] (fun i wr => ∃ k : Nat, k ≤ xs.length ∧ i = .int .i64 k ∧ Hid (idxF p xs = idxG p (xs.drop k) k) ∧ Below w.heap.size w wr) (fun i _ => xs.length - (intOf i).toNat)
  case atStart => exact ⟨0, Nat.zero_le _, rfl, HF, Below.refl _ _⟩
  case round =>
    obtain ⟨k, hk, rfl, HS, hb⟩ := hrel
    clear HF
    have hs := hb.size
    by_cases hlt : k < xs.length
    · obtain ⟨x, hx⟩ := get_at xs hlt
      have HD := Lib.hid (drop_at hx)
      obtain ⟨b, off, rfl, hbB, g0, g1, g2, g3⟩ := Givens.at_ (h.below giS (hb.mono hB)) hx
      have hbw : b < wr.heap.size := by omega
      clear hx
      go_wp2_with fail
      refine (HP.out x wr hb).mono ?_
      rintro e w1 ⟨rfl, hb1⟩
      cases hpx : p x
      · go_wp2
        go_roundw
        case rel => exact ⟨k + 1, by omega, by go_num, by show _ = _; rw [HS.out, HD.out]; simp [idxG, hpx], hb.trans (hb1.mono hs)⟩
        case measure => simp [intOf]; omega
      · go_wp2
        go_ret
        exact ⟨ret_int (by rw [HS.out, HD.out]; simp [idxG, hpx]), hb.trans (hb1.mono hs)⟩
    · go_wp2
      go_ret
      exact ⟨ret_int (by rw [HS.out, List.drop_of_length_le (by omega)]; rfl), hb⟩
theorem containsGiW_c (ca : Value) (cb : Value) (p : Given → Bool) (xs : List Given) (v : Value) (w : World) (B : Nat) (hB : B ≤ w.heap.size) (h : Givens w B xs v)
    (hp : ∀ (x : Given) (W : World), Below w.heap.size w W → Calls Try.prog 33 #[.agg #[.string x.mark, .int .i64 x.unit, .int .i64 x.from_, .int .i64 x.until_], ca, cb] W fun e w' => e = .returned (.bool (p x)) ∧ Below W.heap.size W w') :
    Calls Try.prog 31 #[v, .func (.func 33) #[] #[ca, cb]] w fun e w' => e = .returned (.bool (xs.any p)) ∧ Below w.heap.size w w' := by
  have HI := Lib.hid (indexGiW_c ca cb p xs v w B hB h hp)
  obtain ⟨A, c, rfl, hc1, hc2, _⟩ := id h
  have HE := Lib.hid (idx_any p xs)
  clear hp
  go_enter Try.func31, Try.ntmps31
  go_wp2_with fail
  refine HI.out.mono ?_
  rintro e w1 ⟨rfl, hb1⟩
  go_wp2
  go_ret
  exact ⟨ret_bool HE.out, hb1⟩
end Go.Proofs.Ytgnaknanpgfpnaa
