/- The reference of chapter 49: shot, Check, At. -/
import Derived.Test.YtgnaknanpgfpnaaRefC
namespace Go.Proofs.Ytgnaknanpgfpnaa
open Go.RowKit

def fieldsE : Option Standing → List Standing → Int
  | _, [] => 0
  | p, x :: r => if fieldE p x ≠ 0 then fieldE p x else fieldsE (some x) r
def dayBad (prev : Option Shot) (x : Shot) : Bool := match prev with
  | none => false
  | some p => decide (x.day ≤ p.day)
def prevAt {α : Type} (l : List α) (i : Nat) : Option α := if i = 0 then none else l[i - 1]?
def shotE (hs : List Shot) (i : Nat) (x : Shot) : Int :=
  if x.day < 0 ∨ 1048575 < x.day then 2
  else if dayBad (prevAt hs i) x then 5
  else if 256 < x.units.length then 8
  else if fieldsE none x.units ≠ 0 then fieldsE none x.units
  else if placesE x.units x.units ≠ 0 then placesE x.units x.units
  else marksE (hs.take (i + 1)) x.units

set_option maxHeartbeats 2000000 in
theorem shot_c (i : Nat) (x : Shot) (hs : List Shot) (v : Value) (w : World) (B : Nat) (hB : B ≤ w.heap.size) (h : Shots w B hs v) (hi : hs[i]? = some x) :
    Calls Try.prog 37 #[v, .int .i64 i] w fun e w' => e = .returned (.int .i64 (shotE hs i x)) ∧ Below w.heap.size w w' := by
  obtain ⟨A, c, rfl, hc1, hc2, _⟩ := id h
  obtain ⟨b, off, v, rfl, hbB, g0, g1, hu⟩ := Shots.at_ h hi
  obtain ⟨A', c', rfl, hd1, hd2, _⟩ := id hu
  have hbw : b < w.heap.size := by omega
  have hil : i < hs.length := (List.getElem?_eq_some_iff.1 hi).1
  have HI := Lib.hid hi
  clear hi
  have hbox : Below w.heap.size w (w.alloc (.cells #[.int .i64 x.day, .slice A' x.units.length c'] 61)) := (Below.refl _ _).alloc (Nat.le_refl _) _
  by_cases hday : x.day < 0 ∨ 1048575 < x.day
  · have HE := Lib.hid (show shotE hs i x = 2 by simp [shotE, hday])
    rcases hday with hday | hday
    all_goals
      go_enter Try.func37, Try.ntmps37
      go_wp2
      go_ret
      exact ⟨ret_int HE.out.symm, hbox⟩
  have hday1 : 0 ≤ x.day := by omega
  have hday2 : x.day ≤ 1048575 := by omega
  have hprev : dayBad (prevAt hs i) x = true ∧ 0 < i ∨ dayBad (prevAt hs i) x = false := by
    by_cases h0 : i = 0
    · right; simp [dayBad, prevAt, h0]
    · cases hd : dayBad (prevAt hs i) x
      · exact .inr rfl
      · exact .inl ⟨rfl, by omega⟩
  rcases hprev with ⟨hbad, hi0⟩ | hgood
  · have HE := Lib.hid (show shotE hs i x = 5 by simp [shotE, hday, hbad])
    obtain ⟨p, hp⟩ := get_at hs (show i - 1 < hs.length by omega)
    obtain ⟨b', off', v', hA, hbB', p0, -⟩ := Shots.at_ h hp
    injection hA with hA
    injection hA with hA1 hA2
    subst hA1 hA2
    have hpd : x.day ≤ p.day := by simpa [dayBad, prevAt, show i ≠ 0 by omega, hp] using hbad
    have hi2 : (1 : Int) ≤ i := by omega
    clear hp hbad hday
    go_enter Try.func37, Try.ntmps37
    go_wp2
    go_quiet (fail)
    go_wp2
    go_ret
    exact ⟨ret_int HE.out.symm, below_drewN hbox _⟩
  have hpr : i = 0 ∨ ∃ p : Shot, 0 < i ∧ w.cell? ⟨b, off + (i - 1) * 2, none⟩ = some (.int .i64 p.day) ∧ p.day < x.day := by
    by_cases h0 : i = 0
    · exact .inl h0
    · obtain ⟨p, hp⟩ := get_at hs (show i - 1 < hs.length by omega)
      obtain ⟨b', off', v', hA, hbB', p0, -⟩ := Shots.at_ h hp
      injection hA with hA
      injection hA with hA1 hA2
      subst hA1 hA2
      refine .inr ⟨p, by omega, p0, ?_⟩
      have : ¬ x.day ≤ p.day := by simpa [dayBad, prevAt, h0, hp] using hgood
      omega
  by_cases hlen : 256 < x.units.length
  · have HE := Lib.hid (show shotE hs i x = 8 by simp [shotE, hday, hgood, hlen])
    have hlen1 : (256 : Int) < x.units.length := by omega
    clear hgood hday
    rcases hpr with rfl | ⟨p, hi0, p0, hpd⟩
    · simp only [Nat.zero_mul, Nat.add_zero] at g0 g1
      go_enter Try.func37, Try.ntmps37
      go_wp2
      go_quiet (fail)
      go_wp2
      go_ret
      exact ⟨ret_int HE.out.symm, below_drewN hbox _⟩
    · have hi2 : (1 : Int) ≤ i := by omega
      go_enter Try.func37, Try.ntmps37
      go_wp2
      go_quiet (fail)
      go_wp2
      go_ret
      exact ⟨ret_int HE.out.symm, below_drewN hbox _⟩
  have HE := Lib.hid (show shotE hs i x = if fieldsE none x.units ≠ 0 then fieldsE none x.units else if placesE x.units x.units ≠ 0 then placesE x.units x.units else marksE (hs.take (i + 1)) x.units by simp [shotE, hday, hgood, hlen])
  have hlen1 : (x.units.length : Int) ≤ 256 := by omega
  have HF := Lib.hid (show fieldsE none x.units = fieldsE (prevAt x.units 0) (x.units.drop 0) from rfl)
  clear hgood hday hlen
  have hday3 : ¬ x.day < 0 := by omega
  rcases hpr with rfl | ⟨p, hi0, p0, hpd⟩
  · simp only [Nat.zero_mul, Nat.add_zero] at g0 g1
    go_enter Try.func37, Try.ntmps37
    go_wp2
    go_quiet (fail)
    go_wp2
    go_loopw [6] (fun i' wr => ∃ k : Nat, k ≤ x.units.length ∧ i' = .int .i64 k ∧ Hid (fieldsE none x.units = fieldsE (prevAt x.units k) (x.units.drop k)) ∧ Below (w.heap.size + 1) (w.alloc (.cells #[.int .i64 x.day, .slice A' x.units.length c'] 61)) wr) (fun i' _ => x.units.length - (intOf i').toNat)
    case atStart => exact ⟨0, Nat.zero_le _, rfl, HF, below_drewN (Below.refl _ _) _⟩
    case round =>
      obtain ⟨k, hk, rfl, HS, hb⟩ := hrel
      clear HF
      have hs' := hb.size
      simp only [World.size_alloc] at hs'
      have c0 : wr.cell? ⟨w.heap.size, 0, none⟩ = some (.int .i64 x.day) := (hb.cell (p := ⟨w.heap.size, 0, none⟩) (by simp)).trans (by simp)
      have c1 : wr.cell? ⟨w.heap.size, 1, none⟩ = some (.slice A' x.units.length c') := (hb.cell (p := ⟨w.heap.size, 1, none⟩) (by simp)).trans (by simp)
      have hB' := hbox.trans (hb.mono (Nat.le_succ _))
      have hwr := hu.below stS (hB'.mono hB)
      by_cases hlt : k < x.units.length
      · obtain ⟨y, hy⟩ := get_at x.units hlt
        have HD := Lib.hid (drop_at hy)
        have HC := Lib.hid (field_c x.day k y x.units _ _ B (by omega) hwr hy)
        have HY := Lib.hid (show prevAt x.units (k + 1) = some y by simpa [prevAt] using hy)
        clear hy
        change Hid (Calls _ _ _ _ fun e w' => e = .returned (.int .i64 (fieldE (prevAt x.units k) y)) ∧ _) at HC
        by_cases hf : fieldE (prevAt x.units k) y = 0
        · rw [hf] at HC
          have HP := Lib.hid hf
          clear hf
          go_wp2_with fail
          refine HC.out.mono ?_
          rintro e w' ⟨rfl, hb'⟩
          go_wp2
          go_roundw
          case rel => exact ⟨k + 1, by omega, by go_num, by show _ = _; rw [HS.out, HD.out, HY.out]; simp [fieldsE, HP.out], hb.trans (hb'.mono (by omega))⟩
          case measure => simp [intOf]; omega
        · have hf1 : (fieldE (prevAt x.units k) y != 0) = true := by simpa using hf
          have hf2 : (fieldE (prevAt x.units k) y == 0) = false := by simpa using hf
          go_wp2_with fail
          refine HC.out.mono ?_
          rintro e w' ⟨rfl, hb'⟩
          go_wp2
          go_ret
          refine ⟨ret_int ?_, hB'.trans (hb'.mono (by omega))⟩
          have e1 : fieldsE none x.units = fieldE (prevAt x.units k) y := by rw [HS.out, HD.out]; simp [fieldsE, hf]
          rw [HE.out, e1, if_pos hf]
      · have e1 := Lib.hid (show fieldsE none x.units = 0 by rw [HS.out, List.drop_of_length_le (by omega)]; simp [fieldsE])
        have HC := Lib.hid (places_c x.day x.units _ _ B (by omega) hwr)
        by_cases hf : placesE x.units x.units = 0
        · rw [hf] at HC
          have HP := Lib.hid hf
          clear hf
          go_wp2_with fail
          refine HC.out.mono ?_
          rintro e w' ⟨rfl, hb'⟩
          have hb2 := hB'.trans (hb'.mono (by omega))
          have hs2 := hb'.size
          go_wp2_with fail
          refine (marks_c _ x hs _ _ B (by omega) (h.below shS (hb2.mono hB)) HI.out).mono ?_
          rintro e w2 ⟨rfl, hb3⟩
          go_wp2
          go_ret
          refine ⟨ret_int ?_, hb2.trans (hb3.mono (by omega))⟩
          rw [HE.out, e1.out, HP.out, if_neg (by simp), if_neg (by simp)]
        · have hf1 : (placesE x.units x.units != 0) = true := by simpa using hf
          have hf2 : (placesE x.units x.units == 0) = false := by simpa using hf
          go_wp2_with fail
          refine HC.out.mono ?_
          rintro e w' ⟨rfl, hb'⟩
          go_wp2
          go_ret
          refine ⟨ret_int ?_, hB'.trans (hb'.mono (by omega))⟩
          rw [HE.out, e1.out, if_neg (by simp), if_pos hf]
  · have hi2 : (1 : Int) ≤ i := by omega
    go_enter Try.func37, Try.ntmps37
    go_wp2
    go_quiet (fail)
    go_wp2
    go_loopw [6] (fun i' wr => ∃ k : Nat, k ≤ x.units.length ∧ i' = .int .i64 k ∧ Hid (fieldsE none x.units = fieldsE (prevAt x.units k) (x.units.drop k)) ∧ Below (w.heap.size + 1) (w.alloc (.cells #[.int .i64 x.day, .slice A' x.units.length c'] 61)) wr) (fun i' _ => x.units.length - (intOf i').toNat)
    case atStart => exact ⟨0, Nat.zero_le _, rfl, HF, below_drewN (Below.refl _ _) _⟩
    case round =>
      obtain ⟨k, hk, rfl, HS, hb⟩ := hrel
      clear HF
      have hs' := hb.size
      simp only [World.size_alloc] at hs'
      have c0 : wr.cell? ⟨w.heap.size, 0, none⟩ = some (.int .i64 x.day) := (hb.cell (p := ⟨w.heap.size, 0, none⟩) (by simp)).trans (by simp)
      have c1 : wr.cell? ⟨w.heap.size, 1, none⟩ = some (.slice A' x.units.length c') := (hb.cell (p := ⟨w.heap.size, 1, none⟩) (by simp)).trans (by simp)
      have hB' := hbox.trans (hb.mono (Nat.le_succ _))
      have hwr := hu.below stS (hB'.mono hB)
      by_cases hlt : k < x.units.length
      · obtain ⟨y, hy⟩ := get_at x.units hlt
        have HD := Lib.hid (drop_at hy)
        have HC := Lib.hid (field_c x.day k y x.units _ _ B (by omega) hwr hy)
        have HY := Lib.hid (show prevAt x.units (k + 1) = some y by simpa [prevAt] using hy)
        clear hy
        change Hid (Calls _ _ _ _ fun e w' => e = .returned (.int .i64 (fieldE (prevAt x.units k) y)) ∧ _) at HC
        by_cases hf : fieldE (prevAt x.units k) y = 0
        · rw [hf] at HC
          have HP := Lib.hid hf
          clear hf
          go_wp2_with fail
          refine HC.out.mono ?_
          rintro e w' ⟨rfl, hb'⟩
          go_wp2
          go_roundw
          case rel => exact ⟨k + 1, by omega, by go_num, by show _ = _; rw [HS.out, HD.out, HY.out]; simp [fieldsE, HP.out], hb.trans (hb'.mono (by omega))⟩
          case measure => simp [intOf]; omega
        · have hf1 : (fieldE (prevAt x.units k) y != 0) = true := by simpa using hf
          have hf2 : (fieldE (prevAt x.units k) y == 0) = false := by simpa using hf
          go_wp2_with fail
          refine HC.out.mono ?_
          rintro e w' ⟨rfl, hb'⟩
          go_wp2
          go_ret
          refine ⟨ret_int ?_, hB'.trans (hb'.mono (by omega))⟩
          have e1 : fieldsE none x.units = fieldE (prevAt x.units k) y := by rw [HS.out, HD.out]; simp [fieldsE, hf]
          rw [HE.out, e1, if_pos hf]
      · have e1 := Lib.hid (show fieldsE none x.units = 0 by rw [HS.out, List.drop_of_length_le (by omega)]; simp [fieldsE])
        have HC := Lib.hid (places_c x.day x.units _ _ B (by omega) hwr)
        by_cases hf : placesE x.units x.units = 0
        · rw [hf] at HC
          have HP := Lib.hid hf
          clear hf
          go_wp2_with fail
          refine HC.out.mono ?_
          rintro e w' ⟨rfl, hb'⟩
          have hb2 := hB'.trans (hb'.mono (by omega))
          have hs2 := hb'.size
          go_wp2_with fail
          refine (marks_c _ x hs _ _ B (by omega) (h.below shS (hb2.mono hB)) HI.out).mono ?_
          rintro e w2 ⟨rfl, hb3⟩
          go_wp2
          go_ret
          refine ⟨ret_int ?_, hb2.trans (hb3.mono (by omega))⟩
          rw [HE.out, e1.out, HP.out, if_neg (by simp), if_neg (by simp)]
        · have hf1 : (placesE x.units x.units != 0) = true := by simpa using hf
          have hf2 : (placesE x.units x.units == 0) = false := by simpa using hf
          go_wp2_with fail
          refine HC.out.mono ?_
          rintro e w' ⟨rfl, hb'⟩
          go_wp2
          go_ret
          refine ⟨ret_int ?_, hB'.trans (hb'.mono (by omega))⟩
          rw [HE.out, e1.out, if_neg (by simp), if_pos hf]
end Go.Proofs.Ytgnaknanpgfpnaa
