/- The reference of chapter 49: used, marks. -/
import Derived.Test.YtgnaknanpgfpnaaRefB
namespace Go.Proofs.Ytgnaknanpgfpnaa
open Go.RowKit

def usedU (m : ByteArray) (u : Int) (l : List Standing) : Bool := l.any fun y => decide (y.mark = m) && decide (y.unit ≠ u)
def usedS (m : ByteArray) (u : Int) (l : List Shot) : Bool := l.any fun s => usedU m u s.units
theorem usedU_cons (m : ByteArray) (u : Int) (y : Standing) (l : List Standing) : usedU m u (y :: l) = ((decide (y.mark = m) && decide (y.unit ≠ u)) || usedU m u l) := rfl
theorem usedS_cons (m : ByteArray) (u : Int) (y : Shot) (l : List Shot) : usedS m u (y :: l) = (usedU m u y.units || usedS m u l) := rfl

set_option maxHeartbeats 1000000 in
theorem used_c (i : Nat) (m : ByteArray) (u : Int) (hs : List Shot) (v : Value) (w : World) (B : Nat) (hB : B ≤ w.heap.size) (h : Shots w B hs v) (hi : i < hs.length) :
    Calls Try.prog 65 #[v, .int .i64 i, .string m, .int .i64 u] w fun e w' => e = .returned (.bool (usedS m u (hs.take (i + 1)))) ∧ w = w' := by
  obtain ⟨A, c, rfl, hc1, hc2, _⟩ := id h
  have HF := Lib.hid (show usedS m u (hs.take (i + 1)) = usedS m u ((hs.take (i + 1)).drop 0) from rfl)
  go_enter Try.func65, Try.ntmps65
  go_wp2
  go_loop [9] (fun i' => ∃ k : Nat, k ≤ i + 1 ∧ i' = .int .i64 k ∧ Hid (usedS m u (hs.take (i + 1)) = usedS m u ((hs.take (i + 1)).drop k))) (fun i' => i + 1 - (intOf i').toNat)
  case atStart => exact ⟨0, Nat.zero_le _, rfl, HF⟩
  case round =>
    obtain ⟨k, hk, rfl, HS⟩ := hrel
    clear HF
    by_cases hlt : k ≤ i
    · obtain ⟨s, hx⟩ := get_at hs (show k < hs.length by omega)
      have HD := Lib.hid (drop_at (xs := hs.take (i + 1)) (i := k) (x := s) (by rw [List.getElem?_take, if_pos (by omega)]; exact hx))
      obtain ⟨b, off, v, rfl, hbB, -, g1, hu⟩ := Shots.at_ h hx
      obtain ⟨A', c', rfl, hd1, hd2, _⟩ := id hu
      have hbw : b < w.heap.size := by omega
      have hkl : k < hs.length := by omega
      clear hx
      have HG := Lib.hid (show usedS m u (hs.take (i + 1)) = (usedU m u (s.units.drop 0) || usedS m u ((hs.take (i + 1)).drop (k + 1))) by rw [HS.out, HD.out]; rfl)
      go_wp2
      go_loop [10] (fun i' => ∃ n : Nat, n ≤ s.units.length ∧ i' = .int .i64 n ∧ Hid (usedS m u (hs.take (i + 1)) = (usedU m u (s.units.drop n) || usedS m u ((hs.take (i + 1)).drop (k + 1))))) (fun i' => s.units.length - (intOf i').toNat)
      case atStart => exact ⟨0, Nat.zero_le _, rfl, HG⟩
      case round =>
        obtain ⟨n, hn, rfl, HT⟩ := hrel
        clear HG
        by_cases hnl : n < s.units.length
        · obtain ⟨y, hy⟩ := get_at s.units hnl
          have HE := Lib.hid (drop_at hy)
          obtain ⟨b', off', rfl, hbB', y0, -, -, y3, -⟩ := Units.at_ hu hy
          have hbw' : b' < w.heap.size := by omega
          clear hy
          go_wp2
          · go_ret
            exact ⟨ret_bool (by rw [HT.out, HE.out, usedU_cons]; simp_all [str_iff]), rfl⟩
          · go_round
            case rel => exact ⟨n + 1, by omega, by go_num, by show _ = _; rw [HT.out, HE.out, usedU_cons]; simp_all [str_iff]⟩
            case measure => simp [intOf]; omega
          · go_round
            case rel => exact ⟨n + 1, by omega, by go_num, by show _ = _; rw [HT.out, HE.out, usedU_cons]; simp_all [str_iff]⟩
            case measure => simp [intOf]; omega
        · go_wp2
          go_round
          case rel => exact ⟨k + 1, by omega, by go_num, by show _ = _; rw [HT.out, List.drop_of_length_le (by omega : s.units.length ≤ n)]; rfl⟩
          case measure => simp [intOf]; omega
    · go_wp2
      go_ret
      exact ⟨ret_bool (by rw [HS.out, List.drop_of_length_le (by simp; omega)]; rfl), rfl⟩

def marksE (hs : List Shot) (l : List Standing) : Int := if l.any (fun x => decide (x.mark.size ≠ 0) && usedS x.mark x.unit hs) then 19 else 0
theorem marksE_cons (hs : List Shot) (x : Standing) (l : List Standing) : marksE hs (x :: l) = if x.mark.size ≠ 0 ∧ usedS x.mark x.unit hs = true then 19 else marksE hs l := by
  unfold marksE
  have e : (decide (x.mark.size ≠ 0) && usedS x.mark x.unit hs) = decide (x.mark.size ≠ 0 ∧ usedS x.mark x.unit hs = true) := by rw [Bool.decide_and, Bool.decide_eq_true]
  rw [List.any_cons, e]
  by_cases h : x.mark.size ≠ 0 ∧ usedS x.mark x.unit hs = true
  · rw [decide_eq_true h, if_pos h]; rfl
  · rw [decide_eq_false h, if_neg h]; rfl

set_option maxHeartbeats 1000000 in
theorem marks_c (i : Nat) (s : Shot) (hs : List Shot) (v : Value) (w : World) (B : Nat) (hB : B ≤ w.heap.size) (h : Shots w B hs v) (hi : hs[i]? = some s) :
    Calls Try.prog 55 #[v, .int .i64 i] w fun e w' => e = .returned (.int .i64 (marksE (hs.take (i + 1)) s.units)) ∧ Below w.heap.size w w' := by
  obtain ⟨A, c, rfl, hc1, hc2, _⟩ := id h
  obtain ⟨b, off, v, rfl, hbB, -, g1, hu⟩ := Shots.at_ h hi
  obtain ⟨A', c', rfl, hd1, hd2, _⟩ := id hu
  have hbw : b < w.heap.size := by omega
  have hil : i < hs.length := (List.getElem?_eq_some_iff.1 hi).1
  clear hi
  have HF := Lib.hid (show marksE (hs.take (i + 1)) s.units = marksE (hs.take (i + 1)) (s.units.drop 0) from rfl)
  go_enter Try.func55, Try.ntmps55
  go_wp2
  go_loopw [5] (fun i' wr => ∃ k : Nat, k ≤ s.units.length ∧ i' = .int .i64 k ∧ Hid (marksE (hs.take (i + 1)) s.units = marksE (hs.take (i + 1)) (s.units.drop k)) ∧ Below w.heap.size w wr) (fun i' _ => s.units.length - (intOf i').toNat)
  case atStart => exact ⟨0, Nat.zero_le _, rfl, HF, Below.refl _ _⟩
  case round =>
    obtain ⟨k, hk, rfl, HS, hb⟩ := hrel
    clear HF
    have hs' := hb.size
    have hwr := h.below shS (hb.mono hB)
    have g1' := (hb.cell (p := ⟨b, off + i * 2 + 1, none⟩) hbw).trans g1
    by_cases hlt : k < s.units.length
    · obtain ⟨x, hx⟩ := get_at s.units hlt
      have HD := Lib.hid (drop_at hx)
      obtain ⟨b', off', rfl, hbB', y0, y1, y2, y3, y4⟩ := Units.at_ (hu.below stS (hb.mono hB)) hx
      have hbr : b < wr.heap.size := by omega
      have hbr' : b' < wr.heap.size := by omega
      have hx1 : Below wr.heap.size wr (wr.alloc (.cells #[.int .i64 x.unit, .int .i64 x.parent, .int .i64 x.level, .string x.mark, .string x.title] 46)) := (Below.refl _ _).alloc (Nat.le_refl _) _
      have HC := Lib.hid (used_c i x.mark x.unit hs _ _ B (by simp; omega) (hwr.below shS (hx1.mono (by omega))) hil)
      clear hx
      by_cases hm : x.mark.size = 0
      · have hm1 : x.mark.toList.isEmpty = true := by rw [str_empty]; simpa using hm
        have hm2 : x.mark.toList = [] := by simpa using hm1
        go_wp2
        go_roundw
        case rel => exact ⟨k + 1, by omega, by go_num, by show _ = _; rw [HS.out, HD.out, marksE_cons, if_neg (by simp [hm])], hb.trans (hx1.mono (by omega))⟩
        case measure => simp [intOf]; omega
      · have hm1 : x.mark.toList.isEmpty = false := by rw [str_empty]; simpa using hm
        have hm2 : ¬ x.mark.toList = [] := by simpa using hm1
        cases hU : usedS x.mark x.unit (hs.take (i + 1))
        · have HU := Lib.hid hU
          rw [hU] at HC
          clear hU
          go_wp2_with fail
          refine HC.out.mono ?_
          rintro e w' ⟨rfl, rfl⟩
          go_wp2
          go_roundw
          case rel => exact ⟨k + 1, by omega, by go_num, by show _ = _; rw [HS.out, HD.out, marksE_cons, if_neg (by simp [HU.out])], hb.trans (hx1.mono (by omega))⟩
          case measure => simp [intOf]; omega
        · have HU := Lib.hid hU
          rw [hU] at HC
          clear hU
          go_wp2_with fail
          refine HC.out.mono ?_
          rintro e w' ⟨rfl, rfl⟩
          go_wp2
          go_ret
          exact ⟨ret_int (by rw [HS.out, HD.out, marksE_cons, if_pos ⟨hm, HU.out⟩]), hb.trans (hx1.mono (by omega))⟩
    · go_wp2
      go_ret
      exact ⟨ret_int (by rw [HS.out, List.drop_of_length_le (by omega)]; rfl), hb⟩
end Go.Proofs.Ytgnaknanpgfpnaa
