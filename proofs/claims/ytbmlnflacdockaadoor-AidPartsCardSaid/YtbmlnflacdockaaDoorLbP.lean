/- What AidParts calls: its closure, and slices.IndexFunc on sections. -/
import Derived.Test.YtbmlnflacdockaaDoorPlP
import Derived.Test.YtbmlnflacdockaaDoorMaps
namespace Go.Proofs.YtbmlnflacdockaaDoor
open Go.RowKit

theorem parts1_c (u : Int) (g : Nat) (x : Sect) (vf : Value) (hvf : ∃ A n c, vf = .slice A n c) (w : World) (h0 : w.cell? ⟨g, 0, none⟩ = some (.int .i64 u)) (hg : g < w.heap.size) :
    Calls Tryd.prog 28 #[.agg #[.int .i64 x.unit, .string x.number, vf], .pointer (some ⟨g, 0, none⟩)] w fun e w' => e = .returned (.bool (decide (x.unit = u))) ∧ Below w.heap.size w w' := by
  obtain ⟨A, n, c, rfl⟩ := hvf
  by_cases hxu : x.unit = u
  · have he : (x.unit == u) = true := by simp [hxu]
    have HE := Lib.hid (show decide (x.unit = u) = true by simp [hxu])
    clear hxu
    go_enter Tryd.func28, Tryd.ntmps28
    go_wp2
    go_ret
    exact ⟨ret_bool HE.out.symm, (Below.refl _ _).alloc (Nat.le_refl _) _⟩
  · have he : (x.unit == u) = false := by simpa using hxu
    have HE := Lib.hid (show decide (x.unit = u) = false by simp [hxu])
    clear hxu
    go_enter Tryd.func28, Tryd.ntmps28
    go_wp2
    go_ret
    exact ⟨ret_bool HE.out.symm, (Below.refl _ _).alloc (Nat.le_refl _) _⟩
set_option maxHeartbeats 1000000 in
theorem indexQc_c (c0 : Value) (p : Sect → Bool) (xs : List Sect) (v : Value) (w : World) (B : Nat) (hB : B ≤ w.heap.size) (h : SlRep 3 secR w (fun b => b < B) xs v)
    (hp : ∀ (x : Sect) (vf : Value) (W : World), Below w.heap.size w W → (∃ A n c, vf = .slice A n c) → Calls Tryd.prog 28 #[.agg #[.int .i64 x.unit, .string x.number, vf], c0] W fun e w' => e = .returned (.bool (p x)) ∧ Below W.heap.size W w') :
    Calls Tryd.prog 27 #[v, .func (.func 28) #[] #[c0]] w fun e w' => e = .returned (.int .i64 (idxF p xs)) ∧ Below w.heap.size w w' := by
  obtain ⟨A, c, rfl, hc1, hc2, _⟩ := id h
  have HP := Lib.hid hp
  clear hp
  have HF := Lib.hid (show idxF p xs = idxG p (xs.drop 0) 0 from rfl)
  go_enter Tryd.func27, Tryd.ntmps27
  go_wp2
  go_loopw [8] (fun i wr => ∃ k : Nat, k ≤ xs.length ∧ i = .int .i64 k ∧ Hid (idxF p xs = idxG p (xs.drop k) k) ∧ Below w.heap.size w wr) (fun i _ => xs.length - (intOf i).toNat)
  case atStart => exact ⟨0, Nat.zero_le _, rfl, HF, Below.refl _ _⟩
  case round =>
    obtain ⟨k, hk, rfl, HS, hb⟩ := hrel
    clear HF
    have hs := hb.size
    by_cases hlt : k < xs.length
    · obtain ⟨x, hx⟩ := get_at xs hlt
      have HD := Lib.hid (drop_at hx)
      obtain ⟨b, off, vf, rfl, hbB, g0, g1, g2, hvf⟩ := Sects.at_ (h.below secS (hb.mono hB)) hx
      have hbw : b < wr.heap.size := by have : b < B := hbB; omega
      clear hx
      go_wp2_with fail
      refine (HP.out x vf wr hb (have ⟨_, _, e9, _⟩ := hvf; ⟨_, _, _, e9⟩)).mono ?_
      rintro e w1 ⟨rfl, hb1⟩
      cases hpx : p x
      · go_wp2
        go_roundw
        case rel => exact ⟨k + 1, by omega, by go_num, by show _ = _; rw [HS.out, HD.out]; simp [idxG, hpx], hb.trans (hb1.mono hs)⟩
        case measure => simp [intOf]; omega
      · go_wp2
        go_ret
        exact ⟨ret_int (by rw [HS.out, HD.out]; simp [idxG, hpx]), hb.trans (hb1.mono hs)⟩
    · go_wp2
      go_ret
      exact ⟨ret_int (by rw [HS.out, List.drop_of_length_le (by omega)]; rfl), hb⟩
end Go.Proofs.YtbmlnflacdockaaDoor
