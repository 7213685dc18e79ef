/- The reference of chapter 49: Holder, has. -/
import Derived.Test.YtgnaknanpgfpnaaRefG
import Derived.Test.YtgnaknanpgfpnaaCncH
namespace Go.Proofs.Ytgnaknanpgfpnaa
open Go.RowKit

def refHolder (hs : List Shot) (m : ByteArray) : Int × Bool := if refCheck hs ≠ 0 then (0, false) else holderF (refCollect hs) m
set_option maxHeartbeats 1000000 in
theorem rholder_c (m : ByteArray) (hs : List Shot) (v : Value) (w : World) (B : Nat) (hB : B ≤ w.heap.size) (h : Shots w B hs v) (hl64 : refCheck hs = 0 → hs.length ≤ 64) (hfew : refCheck hs = 0 → ∀ s ∈ hs, s.units.length ≤ 256) :
    Calls Try.prog 24 #[v, .string m] w fun e w' => e = .returned (.tuple #[.int .i64 (refHolder hs m).1, .bool (refHolder hs m).2]) ∧ Below w.heap.size w w' := by
  by_cases hp : refCheck hs = 0
  · have HC := Lib.hid (rcollect_ok hs _ _ B hB h hp (hl64 hp) (hfew hp))
    have HE := Lib.hid (show refHolder hs m = holderF ((refCollect hs).drop 0) m by simp [refHolder, hp])
    clear hp hl64 hfew
    obtain ⟨A, c, rfl, hc1, hc2, _⟩ := id h
    go_enter Try.func24, Try.ntmps24
    go_wp2_with fail
    refine HC.out.mono ?_
    rintro e w1 ⟨v1, rfl, hown, hb1⟩
    have hsl := hown.toSl giS
    obtain ⟨A2, c2, rfl, hq1, hq2, -⟩ := id hsl
    clear HC
    go_wp2
    go_loop [8] (fun i => ∃ k : Nat, k ≤ (refCollect hs).length ∧ i = .int .i64 k ∧ Hid (refHolder hs m = holderF ((refCollect hs).drop k) m)) (fun i => (refCollect hs).length - (intOf i).toNat)
    case atStart => exact ⟨0, Nat.zero_le _, rfl, HE⟩
    case round =>
      obtain ⟨k, hk, rfl, HS⟩ := hrel
      clear HE
      by_cases hlt : k < (refCollect hs).length
      · obtain ⟨g, hx⟩ := get_at (refCollect hs) hlt
        have HD := Lib.hid (drop_at hx)
        obtain ⟨b, off, rfl, hbB, g0, g1, -⟩ := Givens.at_ hsl hx
        clear hx
        by_cases hm : g.mark = m
        · have hm1 : (g.mark.toList == m.toList) = true := by simp [hm]
          have HR := Lib.hid (show refHolder hs m = (g.unit, true) by rw [HS.out, HD.out]; simp [holderF, hm])
          clear hm
          go_wp2
          go_ret2
          exact ⟨by rw [HR.out]; rfl, hb1⟩
        · have hm1 : (g.mark.toList == m.toList) = false := by rw [str_eq]; simpa using hm
          have HR := Lib.hid (show refHolder hs m = holderF ((refCollect hs).drop (k + 1)) m by rw [HS.out, HD.out]; simp [holderF, hm])
          clear hm
          go_wp2
          go_round
          case rel => exact ⟨k + 1, by omega, by go_num, HR⟩
          case measure => simp [intOf]; omega
      · go_wp2
        go_ret2
        exact ⟨by rw [HS.out, List.drop_of_length_le (by omega)]; rfl, hb1⟩
  · have HC := Lib.hid (rcollect_bad hs _ _ B hB h hp)
    have HE := Lib.hid (show refHolder hs m = (0, false) by simp [refHolder, hp])
    clear hp hl64 hfew
    obtain ⟨A, c, rfl, hc1, hc2, _⟩ := id h
    go_enter Try.func24, Try.ntmps24
    go_wp2_with fail
    refine HC.out.mono ?_
    rintro e w1 ⟨rfl, hb1⟩
    go_wp2
    refine wp_loop_rounds 1 ?_
    rw [rounds_succ]
    go_wp2
    go_ret2
    exact ⟨by rw [HE.out]; rfl, hb1⟩

set_option maxHeartbeats 1000000 in
theorem rhas_c (m : ByteArray) (xs : List ByteArray) (v : Value) (w : World) (B : Nat) (_hB : B ≤ w.heap.size) (h : Strs w B xs v) :
    Calls Try.prog 51 #[v, .string m] w fun e w' => e = .returned (.bool (hasB xs m)) ∧ w = w' := by
  obtain ⟨A, c, rfl, hc1, hc2, _⟩ := id h
  have HF := Lib.hid (show hasB xs m = hasB (xs.drop 0) m from rfl)
  go_enter Try.func51, Try.ntmps51
  go_wp2
  go_loop [5] (fun i => ∃ k : Nat, k ≤ xs.length ∧ i = .int .i64 k ∧ Hid (hasB xs m = hasB (xs.drop k) m)) (fun i => xs.length - (intOf i).toNat)
  case atStart => exact ⟨0, Nat.zero_le _, rfl, HF⟩
  case round =>
    obtain ⟨k, hk, rfl, HS⟩ := hrel
    clear HF
    by_cases hlt : k < xs.length
    · obtain ⟨x, hx⟩ := get_at xs hlt
      have HD := Lib.hid (drop_at hx)
      obtain ⟨b, off, rfl, hbB, g0⟩ := Strs.at_ h hx
      clear hx
      by_cases hm : x = m
      · have hm1 : (x.toList == m.toList) = true := by simp [hm]
        have HR := Lib.hid (show hasB xs m = true by rw [HS.out, HD.out]; simp [hasB, hm])
        clear hm
        go_wp2
        go_ret
        exact ⟨ret_bool HR.out.symm, rfl⟩
      · have hm1 : (x.toList == m.toList) = false := by rw [str_eq]; simpa using hm
        have HR := Lib.hid (show hasB xs m = hasB (xs.drop (k + 1)) m by rw [HS.out, HD.out]; simp [hasB, hm])
        clear hm
        go_wp2
        go_round
        case rel => exact ⟨k + 1, by omega, by go_num, HR⟩
        case measure => simp [intOf]; omega
    · go_wp2
      go_ret
      exact ⟨ret_bool (by rw [HS.out, List.drop_of_length_le (by omega)]; rfl), rfl⟩

end Go.Proofs.Ytgnaknanpgfpnaa
