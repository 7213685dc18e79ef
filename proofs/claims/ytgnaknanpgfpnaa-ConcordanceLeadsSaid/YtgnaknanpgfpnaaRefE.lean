/- The reference of chapter 49: Check, At, mark. -/
import Derived.Test.YtgnaknanpgfpnaaRefD
namespace Go.Proofs.Ytgnaknanpgfpnaa
open Go.RowKit

def checkG (hs : List Shot) : List Shot → Nat → Int
  | [], _ => 0
  | x :: r, i => if shotE hs i x ≠ 0 then shotE hs i x else checkG hs r (i + 1)
def refCheck (hs : List Shot) : Int := if 64 < hs.length then 8 else checkG hs hs 0

set_option maxHeartbeats 1000000 in
theorem refCheck_c (hs : List Shot) (v : Value) (w : World) (B : Nat) (hB : B ≤ w.heap.size) (h : Shots w B hs v) :
    Calls Try.prog 14 #[v] w fun e w' => e = .returned (.int .i64 (refCheck hs)) ∧ Below w.heap.size w w' := by
  obtain ⟨A, c, rfl, hc1, hc2, _⟩ := id h
  by_cases hl : 64 < hs.length
  · have HE := Lib.hid (show refCheck hs = 8 by simp [refCheck, hl])
    have hl1 : (64 : Int) < hs.length := by omega
    go_enter Try.func14, Try.ntmps14
    go_wp2
    go_ret
    exact ⟨ret_int HE.out.symm, Below.refl _ _⟩
  have HE := Lib.hid (show refCheck hs = checkG hs (hs.drop 0) 0 by simp [refCheck, hl])
  have hl1 : (hs.length : Int) ≤ 64 := by omega
  clear hl
  go_enter Try.func14, Try.ntmps14
  go_wp2
  go_loopw [3] (fun i' wr => ∃ k : Nat, k ≤ hs.length ∧ i' = .int .i64 k ∧ Hid (refCheck hs = checkG hs (hs.drop k) k) ∧ Below w.heap.size w wr) (fun i' _ => hs.length - (intOf i').toNat)
  case atStart => exact ⟨0, Nat.zero_le _, rfl, HE, Below.refl _ _⟩
  case round =>
    obtain ⟨k, hk, rfl, HS, hb⟩ := hrel
    clear HE
    have hs' := hb.size
    have hwr := h.below shS (hb.mono hB)
    by_cases hlt : k < hs.length
    · obtain ⟨x, hx⟩ := get_at hs hlt
      have HD := Lib.hid (drop_at hx)
      have HC := Lib.hid (shot_c k x hs _ _ B (by omega) hwr hx)
      clear hx
      by_cases hp : shotE hs k x = 0
      · rw [hp] at HC
        have HP := Lib.hid hp
        clear hp
        go_wp2_with fail
        refine HC.out.mono ?_
        rintro e w' ⟨rfl, hb'⟩
        go_wp2
        go_roundw
        case rel => exact ⟨k + 1, by omega, by go_num, by show _ = _; rw [HS.out, HD.out]; simp [checkG, HP.out], hb.trans (hb'.mono (by omega))⟩
        case measure => simp [intOf]; omega
      · have hp1 : (shotE hs k x != 0) = true := by simpa using hp
        have hp2 : (shotE hs k x == 0) = false := by simpa using hp
        go_wp2_with fail
        refine HC.out.mono ?_
        rintro e w' ⟨rfl, hb'⟩
        go_wp2
        go_ret
        exact ⟨ret_int (by rw [HS.out, HD.out]; simp [checkG, hp]), hb.trans (hb'.mono (by omega))⟩
    · go_wp2
      go_ret
      exact ⟨ret_int (by rw [HS.out, List.drop_of_length_le (by omega)]; rfl), hb⟩

def atG (day : Int) : List Shot → Nat → Int → Int
  | [], _, o => o
  | x :: r, i, o => atG day r (i + 1) (if x.day ≤ day then i else o)
def refAt (hs : List Shot) (day : Int) : Int := if refCheck hs ≠ 0 then -1 else atG day hs 0 (-1)

set_option maxHeartbeats 1000000 in
theorem refAt_c (hs : List Shot) (day : Int) (v : Value) (w : World) (B : Nat) (hB : B ≤ w.heap.size) (h : Shots w B hs v) :
    Calls Try.prog 16 #[v, .int .i64 day] w fun e w' => e = .returned (.int .i64 (refAt hs day)) ∧ Below w.heap.size w w' := by
  obtain ⟨A, c, rfl, hc1, hc2, _⟩ := id h
  have HC := Lib.hid (refCheck_c hs _ _ B hB h)
  by_cases hp : refCheck hs = 0
  · rw [hp] at HC
    have HE := Lib.hid (show refAt hs day = atG day (hs.drop 0) 0 (-1) by simp [refAt, hp])
    clear hp
    go_enter Try.func16, Try.ntmps16
    go_wp2_with fail
    refine HC.out.mono ?_
    rintro e w1 ⟨rfl, hb⟩
    have hwr := h.below shS (hb.mono hB)
    have hs1 := hb.size
    go_wp2
    go_loop [5, 6] (fun o i' => ∃ (k : Nat) (q : Int), k ≤ hs.length ∧ i' = .int .i64 k ∧ o = .int .i64 q ∧ Hid (refAt hs day = atG day (hs.drop k) k q)) (fun _ i' => hs.length - (intOf i').toNat)
    case atStart => exact ⟨0, -1, Nat.zero_le _, rfl, rfl, HE⟩
    case round =>
      obtain ⟨k, q, hk, rfl, rfl, HS⟩ := hrel
      clear HE
      by_cases hlt : k < hs.length
      · obtain ⟨x, hx⟩ := get_at hs hlt
        have HD := Lib.hid (drop_at hx)
        obtain ⟨b, off, v, rfl, hbB, g0, -⟩ := Shots.at_ hwr hx
        have hbw : b < w1.heap.size := by omega
        clear hx
        go_wp2
        all_goals
          go_round
          case rel => exact ⟨k + 1, _, by omega, by go_num, rfl, by show _ = _; rw [HS.out, HD.out]; simp only [atG]; first | rw [if_pos (by assumption)] | rw [if_neg (by omega)]⟩
          case measure => simp [intOf]; omega
      · go_wp2
        go_ret
        exact ⟨ret_int (by rw [HS.out, List.drop_of_length_le (by omega)]; rfl), hb⟩
  · have hp1 : (refCheck hs != 0) = true := by simpa using hp
    have hp2 : (refCheck hs == 0) = false := by simpa using hp
    go_enter Try.func16, Try.ntmps16
    go_wp2_with fail
    refine HC.out.mono ?_
    rintro e w1 ⟨rfl, hb⟩
    go_wp2
    go_ret
    exact ⟨ret_int (by simp [refAt, hp]), hb⟩

def markIn (s : Shot) (u : Int) : ByteArray := match findU s.units u with
  | none => ⟨#[]⟩
  | some y => y.mark
theorem mark_out (i u : Int) (hs : List Shot) (v : Value) (w : World) (B : Nat) (_hB : B ≤ w.heap.size) (h : Shots w B hs v) (hi : i < 0 ∨ (hs.length : Int) ≤ i) :
    Calls Try.prog 45 #[v, .int .i64 i, .int .i64 u] w fun e w' => e = .returned (.string ⟨#[]⟩) ∧ w = w' := by
  obtain ⟨A, c, rfl, hc1, hc2, _⟩ := id h
  rcases hi with hi | hi
  · go_enter Try.func45, Try.ntmps45
    go_wp2
    go_ret
    exact ⟨rfl, rfl⟩
  · have h0 : 0 ≤ i := by omega
    have h1 : ¬ i < 0 := by omega
    go_enter Try.func45, Try.ntmps45
    go_wp2
    go_ret
    exact ⟨rfl, rfl⟩

set_option maxHeartbeats 2000000 in
theorem mark_in (i : Nat) (u : Int) (s : Shot) (hs : List Shot) (v : Value) (w : World) (B : Nat) (hB : B ≤ w.heap.size) (h : Shots w B hs v) (hi : hs[i]? = some s) :
    Calls Try.prog 45 #[v, .int .i64 i, .int .i64 u] w fun e w' => e = .returned (.string (markIn s u)) ∧ Below w.heap.size w w' := by
  obtain ⟨A, c, rfl, hc1, hc2, _⟩ := id h
  obtain ⟨b, off, v, rfl, hbB, g0, g1, hu⟩ := Shots.at_ h hi
  obtain ⟨A', c', rfl, hd1, hd2, _⟩ := id hu
  have hbw : b < w.heap.size := by omega
  have hil : i < hs.length := (List.getElem?_eq_some_iff.1 hi).1
  clear hi
  have HC := Lib.hid (fun (W : World) (hW : Below w.heap.size w W) => find_c s.day u s.units _ W B (by have := hW.size; omega) (hu.below stS (hW.mono hB)))
  rcases findF_cases s.units u with ⟨hf, hn⟩ | ⟨k, y, hf, hk, hy, hn⟩
  · rw [hf] at HC
    have HN := Lib.hid hn
    clear hf hn
    go_enter Try.func45, Try.ntmps45
    go_wp2_with fail
    refine (HC.out _ (Below.refl _ _)).mono ?_
    rintro e w1 ⟨rfl, hb⟩
    go_wp2
    go_ret
    exact ⟨by simp [markIn, HN.out], hb⟩
  · rw [hf] at HC
    have HN := Lib.hid hn
    obtain ⟨b', off', rfl, hbB', -, -, -, y3, -⟩ := Units.at_ hu hk
    have hbw' : b' < w.heap.size := by omega
    have hkl : k < s.units.length := (List.getElem?_eq_some_iff.1 hk).1
    clear hf hn hk hy
    go_enter Try.func45, Try.ntmps45
    go_wp2_with fail
    refine (HC.out _ (Below.refl _ _)).mono ?_
    rintro e w1 ⟨rfl, hb⟩
    have hs1 := hb.size
    have e0 := (hb.cell (p := ⟨b, off + i * 2, none⟩) hbw).trans g0
    have e1 := (hb.cell (p := ⟨b, off + i * 2 + 1, none⟩) hbw).trans g1
    have e3 := (hb.cell (p := ⟨b', off' + k * 5 + 3, none⟩) hbw').trans y3
    go_wp2_with fail
    have KEEP := Lib.hid (fun (w' : World) (hW : Below w.heap.size w w') => (⟨hW, (hW.cell (p := ⟨b, off + i * 2, none⟩) hbw).trans g0, (hW.cell (p := ⟨b, off + i * 2 + 1, none⟩) hbw).trans g1, (hW.cell (p := ⟨b', off' + k * 5 + 3, none⟩) hbw').trans y3⟩ : Below w.heap.size w w' ∧ w'.cell? ⟨b, off + i * 2, none⟩ = some (.int .i64 s.day) ∧ w'.cell? ⟨b, off + i * 2 + 1, none⟩ = some (.slice (some ⟨b', off', none⟩) s.units.length c') ∧ w'.cell? ⟨b', off' + k * 5 + 3, none⟩ = some (.string y.mark)))
    go_region_held3 (fun w' => Below w.heap.size w w' ∧ w'.cell? ⟨b, off + i * 2, none⟩ = some (.int .i64 s.day) ∧ w'.cell? ⟨b, off + i * 2 + 1, none⟩ = some (.slice (some ⟨b', off', none⟩) s.units.length c') ∧ w'.cell? ⟨b', off' + k * 5 + 3, none⟩ = some (.string y.mark)) (first | exact KEEP.out _ hb.drew | exact KEEP.out _ (hb.drew.trans (hb2.mono (by simp; omega)))) (first | (go_at_call 50; refine (HC.out _ hb.drew).mono ?_; rintro e w2 ⟨rfl, hb2⟩))
    go_wp2
    go_ret
    exact ⟨by simp [markIn, HN.out], hb.drew.trans (hb2.mono (by simp; omega))⟩
end Go.Proofs.Ytgnaknanpgfpnaa
