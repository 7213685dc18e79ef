/- The program's concordance: at, At, Collect, Holder, Standing. -/
import Derived.Test.YtgnaknanpgfpnaaPlainA
import Derived.Test.YtgnaknanpgfpnaaGiven
namespace Go.Proofs.Ytgnaknanpgfpnaa
open Go.RowKit

set_option maxHeartbeats 1000000 in
theorem indexSh_c (ca : Addr) (p : Shot → Bool) (xs : List Shot) (v : Value) (w : World) (B : Nat) (hB : B ≤ w.heap.size) (h : Shots w B xs v)
    (hp : ∀ (x : Shot) (v : Value) (W : World), Below w.heap.size w W → Calls Try.prog 57 #[.agg #[.int .i64 x.day, v], .pointer (some ca)] W fun e w' => e = .returned (.bool (p x)) ∧ Below W.heap.size W w') :
    Calls Try.prog 56 #[v, .func (.func 57) #[] #[.pointer (some ca)]] w fun e w' => e = .returned (.int .i64 (idxF p xs)) ∧ Below w.heap.size w w' := by
  obtain ⟨A, c, rfl, hc1, hc2, _⟩ := id h
  have HP := Lib.hid hp
  clear hp
  have HF := Lib.hid (show idxF p xs = idxG p (xs.drop 0) 0 from rfl)
  go_enter Try.func56, Try.ntmps56
  go_wp2
  go_loopw [8] (fun i wr => ∃ k : Nat, k ≤ xs.length ∧ i = .int .i64 k ∧ Hid (idxF p xs = idxG p (xs.drop k) k) ∧ Below w.heap.size w wr) (fun i _ => xs.length - (intOf i).toNat)
  case atStart => exact ⟨0, Nat.zero_le _, rfl, HF, Below.refl _ _⟩
  case round =>
    obtain ⟨k, hk, rfl, HS, hb⟩ := hrel
    clear HF
    have hs := hb.size
    by_cases hlt : k < xs.length
    · obtain ⟨x, hx⟩ := get_at xs hlt
      have HD := Lib.hid (drop_at hx)
      obtain ⟨b, off, v, rfl, hbB, g0, g1, hu⟩ := Shots.at_ (h.below shS (hb.mono hB)) hx
      obtain ⟨A9, c9, rfl, _⟩ := id hu
      have hbw : b < wr.heap.size := by omega
      clear hx
      go_wp2_with fail
      refine (HP.out x _ wr hb).mono ?_
      rintro e w1 ⟨rfl, hb1⟩
      cases hpx : p x
      · go_wp2
        go_roundw
        case rel => exact ⟨k + 1, by omega, by go_num, by show _ = _; rw [HS.out, HD.out]; simp [idxG, hpx], hb.trans (hb1.mono hs)⟩
        case measure => simp [intOf]; omega
      · go_wp2
        go_ret
        exact ⟨ret_int (by rw [HS.out, HD.out]; simp [idxG, hpx]), hb.trans (hb1.mono hs)⟩
    · go_wp2
      go_ret
      exact ⟨ret_int (by rw [HS.out, List.drop_of_length_le (by omega)]; rfl), hb⟩

set_option maxHeartbeats 1000000 in
theorem indexGi_c (ca : Addr) (p : Given → Bool) (xs : List Given) (v : Value) (w : World) (B : Nat) (hB : B ≤ w.heap.size) (h : Givens w B xs v)
    (hp : ∀ (x : Given) (W : World), Below w.heap.size w W → Calls Try.prog 49 #[.agg #[.string x.mark, .int .i64 x.unit, .int .i64 x.from_, .int .i64 x.until_], .pointer (some ca)] W fun e w' => e = .returned (.bool (p x)) ∧ Below W.heap.size W w') :
    Calls Try.prog 48 #[v, .func (.func 49) #[] #[.pointer (some ca)]] w fun e w' => e = .returned (.int .i64 (idxF p xs)) ∧ Below w.heap.size w w' := by
  obtain ⟨A, c, rfl, hc1, hc2, _⟩ := id h
  have HP := Lib.hid hp
  clear hp
  have HF := Lib.hid (show idxF p xs = idxG p (xs.drop 0) 0 from rfl)
  go_enter Try.func48, Try.ntmps48
  go_wp2
  go_loopw [8] (fun i wr => ∃ k : Nat, k ≤ xs.length ∧ i = .int .i64 k ∧ Hid (idxF p xs = idxG p (xs.drop k) k) ∧ Below w.heap.size w wr) (fun i _ => xs.length - (intOf i).toNat)
  case atStart => exact ⟨0, Nat.zero_le _, rfl, HF, Below.refl _ _⟩
  case round =>
    obtain ⟨k, hk, rfl, HS, hb⟩ := hrel
    clear HF
    have hs := hb.size
    by_cases hlt : k < xs.length
    · obtain ⟨x, hx⟩ := get_at xs hlt
      have HD := Lib.hid (drop_at hx)
      obtain ⟨b, off, rfl, hbB, g0, g1, g2, g3⟩ := Givens.at_ (h.below giS (hb.mono hB)) hx
      have hbw : b < wr.heap.size := by omega
      clear hx
      go_wp2_with fail
      refine (HP.out x wr hb).mono ?_
      rintro e w1 ⟨rfl, hb1⟩
      cases hpx : p x
      · go_wp2
        go_roundw
        case rel => exact ⟨k + 1, by omega, by go_num, by show _ = _; rw [HS.out, HD.out]; simp [idxG, hpx], hb.trans (hb1.mono hs)⟩
        case measure => simp [intOf]; omega
      · go_wp2
        go_ret
        exact ⟨ret_int (by rw [HS.out, HD.out]; simp [idxG, hpx]), hb.trans (hb1.mono hs)⟩
    · go_wp2
      go_ret
      exact ⟨ret_int (by rw [HS.out, List.drop_of_length_le (by omega)]; rfl), hb⟩

theorem at1_c (d : Int) (cb : Nat) (x : Shot) (v : Value) (w : World) (hc : w.cell? ⟨cb, 0, none⟩ = some (.int .i64 d)) (hcb : cb < w.heap.size) :
    Calls Try.prog 57 #[.agg #[.int .i64 x.day, v], .pointer (some ⟨cb, 0, none⟩)] w fun e w' => e = .returned (.bool (decide (d < x.day))) ∧ Below w.heap.size w w' := by
  go_enter Try.func57, Try.ntmps57
  go_wp2
  go_ret
  exact ⟨rfl, (by repeat' (first | refine below_drewN ?_ _ | go_grown))⟩
def atF (hs : List Shot) (d : Int) : Int := if idxF (fun x : Shot => decide (d < x.day)) hs < 0 then hs.length - 1 else idxF (fun x : Shot => decide (d < x.day)) hs - 1
theorem at_c (d : Int) (hs : List Shot) (v : Value) (w : World) (B : Nat) (hB : B ≤ w.heap.size) (h : Shots w B hs v) :
    Calls Try.prog 38 #[v, .int .i64 d] w fun e w' => e = .returned (.int .i64 (atF hs d)) ∧ Below w.heap.size w w' := by
  obtain ⟨A, c, rfl, hc1, hc2, _⟩ := id h
  have hbox : Below w.heap.size w (w.alloc (.cells #[.int .i64 d] 3)) := (Below.refl _ _).alloc (Nat.le_refl _) _
  have HC := Lib.hid (indexSh_c ⟨w.heap.size, 0, none⟩ (fun x : Shot => decide (d < x.day)) hs _ _ B (by simp; omega) (h.below shS (hbox.mono hB)) (fun x v W hW => at1_c d w.heap.size x v W ((hW.cell (p := ⟨w.heap.size, 0, none⟩) (by simp)).trans (by simp)) (by have := hW.size; simp at this; omega)))
  rcases idxF_cases (fun x : Shot => decide (d < x.day)) hs with ⟨hf, _⟩ | ⟨k, y, hf, hk, _⟩
  · have HE := Lib.hid (show atF hs d = hs.length - 1 by simp [atF, hf])
    rw [hf] at HC
    clear hf
    go_enter Try.func38, Try.ntmps38
    go_wp2_with fail
    refine HC.out.mono ?_
    rintro e w1 ⟨rfl, hb1⟩
    go_wp2
    go_ret
    exact ⟨ret_int HE.out.symm, hbox.trans (hb1.mono (by simp))⟩
  · have hkl := lt_of_at hk
    have HE := Lib.hid (show atF hs d = (k : Int) - 1 by unfold atF; rw [hf, if_neg (by omega)])
    rw [hf] at HC
    clear hf hk
    go_enter Try.func38, Try.ntmps38
    go_wp2_with fail
    refine HC.out.mono ?_
    rintro e w1 ⟨rfl, hb1⟩
    go_wp2
    go_ret
    exact ⟨ret_int HE.out.symm, hbox.trans (hb1.mono (by simp))⟩
def progAt (hs : List Shot) (d : Int) : Int := if progCheck hs ≠ 0 then -1 else atF hs d
theorem progAt_c (d : Int) (hs : List Shot) (v : Value) (w : World) (B : Nat) (hB : B ≤ w.heap.size) (h : Shots w B hs v) :
    Calls Try.prog 15 #[v, .int .i64 d] w fun e w' => e = .returned (.int .i64 (progAt hs d)) ∧ Below w.heap.size w w' := by
  have HC := Lib.hid (progCheck_c hs _ _ B hB h)
  obtain ⟨A, c, rfl, hc1, hc2, _⟩ := id h
  by_cases hp : progCheck hs = 0
  · have HE := Lib.hid (show progAt hs d = atF hs d by simp [progAt, hp])
    rw [hp] at HC
    clear hp
    go_enter Try.func15, Try.ntmps15
    go_wp2_with fail
    refine HC.out.mono ?_
    rintro e w1 ⟨rfl, hb1⟩
    have hs1 := hb1.size
    go_wp2_with fail
    refine (at_c d hs _ _ B (by omega) (h.below shS (hb1.mono hB))).mono ?_
    rintro e w2 ⟨rfl, hb2⟩
    go_wp2
    go_ret
    exact ⟨ret_int HE.out.symm, hb1.trans (hb2.mono hs1)⟩
  · have HE := Lib.hid (show progAt hs d = -1 by simp [progAt, hp])
    have hp1 : (progCheck hs != 0) = true := by simpa using hp
    have hp2 : (progCheck hs == 0) = false := by simpa using hp
    go_enter Try.func15, Try.ntmps15
    go_wp2_with fail
    refine HC.out.mono ?_
    rintro e w1 ⟨rfl, hb1⟩
    go_wp2
    go_ret
    exact ⟨ret_int HE.out.symm, hb1⟩

theorem collect_bad (hs : List Shot) (v : Value) (w : World) (B : Nat) (hB : B ≤ w.heap.size) (h : Shots w B hs v) (hp : progCheck hs ≠ 0) :
    Calls Try.prog 17 #[v] w fun e w' => e = .returned (.tuple #[.slice none 0 0, .int .i64 1]) ∧ Below w.heap.size w w' := by
  have HC := Lib.hid (progCheck_c hs _ _ B hB h)
  obtain ⟨A, c, rfl, hc1, hc2, _⟩ := id h
  have hp1 : (progCheck hs != 0) = true := by simpa using hp
  have hp2 : (progCheck hs == 0) = false := by simpa using hp
  go_enter Try.func17, Try.ntmps17
  go_wp2_with fail
  refine HC.out.mono ?_
  rintro e w1 ⟨rfl, hb1⟩
  go_wp2
  go_ret2
  exact ⟨rfl, hb1⟩
theorem collect_ok (hs : List Shot) (v : Value) (w : World) (B : Nat) (hB : B ≤ w.heap.size) (h : Shots w B hs v) (hp : progCheck hs = 0) :
    Calls Try.prog 17 #[v] w fun e w' => ∃ v', e = .returned (.tuple #[v', .int .i64 0]) ∧ OwnRep 4 (flat Given.enc) 38 w.heap.size w' (collectL hs) v' ∧ Below w.heap.size w w' := by
  have HC := Lib.hid (progCheck_c hs _ _ B hB h)
  obtain ⟨A, c, rfl, hc1, hc2, _⟩ := id h
  have HP := Lib.hid hp
  have hg := good_of hp
  have hfew := Lib.hid (good_few hs _ _ hg.2)
  have hlen := given_len hp
  rw [hp] at HC
  have hl64 := hg.1
  clear hp hg
  go_enter Try.func17, Try.ntmps17
  go_wp2_with fail
  refine HC.out.mono ?_
  rintro e w1 ⟨rfl, hb1⟩
  have hs1 := hb1.size
  go_wp2_with fail
  refine (given_c hs _ _ B (by omega) (h.below shS (hb1.mono hB)) hl64 hfew.out).mono ?_
  rintro e w2 ⟨v2, rfl, hown, hb2⟩
  have hs2 := hb2.size
  have hlt2 := hown.own_lt
  obtain ⟨A2, c2, hv2, -⟩ := id (hown.toSl giS)
  subst hv2
  go_wp2_with fail
  refine (sortG_c (givenP hs) _ w1.heap.size w2 hown (by omega)).mono ?_
  rintro e w3 ⟨rfl, ys, hperm, hsort, hown3, hg3⟩
  have HY := Lib.hid (collect_one HP.out ys hperm hsort)
  have hb3 := (hb1.trans (hb2.mono hs1)).grown hg3 (by omega) (fun k hk => by have := (hlt2 k hk).1; omega)
  clear hperm hsort
  go_wp2
  go_ret2
  exact ⟨_, rfl, by rw [← HY.out]; exact hown3.base_le hs1, hb3⟩

theorem holder1_c (m : ByteArray) (cb : Nat) (x : Given) (w : World) (hc : w.cell? ⟨cb, 0, none⟩ = some (.string m)) (hcb : cb < w.heap.size) :
    Calls Try.prog 49 #[.agg #[.string x.mark, .int .i64 x.unit, .int .i64 x.from_, .int .i64 x.until_], .pointer (some ⟨cb, 0, none⟩)] w fun e w' => e = .returned (.bool (decide (x.mark = m))) ∧ Below w.heap.size w w' := by
  go_enter Try.func49, Try.ntmps49
  go_wp2
  go_ret
  exact ⟨ret_bool (by first | exact str_eq _ _ | simp [str_iff]), (by repeat' (first | refine below_drewN ?_ _ | go_grown))⟩
def holderF (l : List Given) (m : ByteArray) : Int × Bool := match l.find? (fun g => decide (g.mark = m)) with
  | none => (0, false)
  | some g => (g.unit, true)
def progHolder (hs : List Shot) (m : ByteArray) : Int × Bool := if progCheck hs ≠ 0 then (0, false) else holderF (collectL hs) m
set_option maxHeartbeats 1000000 in
theorem holder_c (m : ByteArray) (hs : List Shot) (v : Value) (w : World) (B : Nat) (hB : B ≤ w.heap.size) (h : Shots w B hs v) :
    Calls Try.prog 23 #[v, .string m] w fun e w' => e = .returned (.tuple #[.int .i64 (progHolder hs m).1, .bool (progHolder hs m).2]) ∧ Below w.heap.size w w' := by
  have hbox : Below w.heap.size w (w.alloc (.cells #[.string m] 9)) := (Below.refl _ _).alloc (Nat.le_refl _) _
  have h1 := h.below shS (hbox.mono hB)
  have HCB := Lib.hid (collect_bad hs _ _ B (by simp; omega) h1)
  have HCO := Lib.hid (collect_ok hs _ _ B (by simp; omega) h1)
  obtain ⟨A, c, rfl, hc1, hc2, _⟩ := id h
  clear h1
  by_cases hp : progCheck hs = 0
  · have HC := Lib.hid (HCO.out hp)
    have HE := Lib.hid (show progHolder hs m = holderF (collectL hs) m by simp [progHolder, hp])
    clear HCB HCO hp
    go_enter Try.func23, Try.ntmps23
    go_wp2_with fail
    refine HC.out.mono ?_
    rintro e w1 ⟨v1, rfl, hown, hb1⟩
    have hs1 := hb1.size
    simp only [World.size_alloc] at hs1
    have hsl := hown.toSl giS
    have hc0 : ∀ W, Below w1.heap.size w1 W → W.cell? ⟨w.heap.size, 0, none⟩ = some (.string m) := fun W hW => (hW.cell (p := ⟨w.heap.size, 0, none⟩) (by show w.heap.size < _; omega)).trans ((hb1.cell (p := ⟨w.heap.size, 0, none⟩) (by simp)).trans (by simp))
    have HI := Lib.hid (indexGi_c ⟨w.heap.size, 0, none⟩ (fun x : Given => decide (x.mark = m)) (collectL hs) _ w1 w1.heap.size (Nat.le_refl _) hsl (fun x W hW => holder1_c m w.heap.size x W (hc0 W hW) (by have := hW.size; omega)))
    obtain ⟨A2, c2, rfl, hq1, hq2, -⟩ := id hsl
    clear hc0
    rcases idxF_cases (fun x : Given => decide (x.mark = m)) (collectL hs) with ⟨hf, hn⟩ | ⟨k, y, hf, hk, _, hn⟩
    · have HN := Lib.hid (show holderF (collectL hs) m = (0, false) by simp [holderF, hn])
      rw [hf] at HI
      clear hf hn
      go_wp2_with fail
      refine HI.out.mono ?_
      rintro e w2 ⟨rfl, hb2⟩
      go_wp2
      go_ret2
      exact ⟨by rw [HE.out, HN.out]; rfl, hbox.trans ((hb1.mono (by simp)).trans (hb2.mono (by omega)))⟩
    · have HN := Lib.hid (show holderF (collectL hs) m = (y.unit, true) by simp [holderF, hn])
      have hkl := lt_of_at hk
      rw [hf] at HI
      clear hf hn
      go_wp2_with fail
      refine HI.out.mono ?_
      rintro e w2 ⟨rfl, hb2⟩
      obtain ⟨b, off, rfl, hbB, -, g1, -⟩ := Givens.at_ (hsl.below giS hb2) hk
      have hbw : b < w2.heap.size := by have := hb2.size; omega
      clear hk
      go_wp2
      go_ret2
      exact ⟨by rw [HE.out, HN.out]; rfl, hbox.trans ((hb1.mono (by simp)).trans (hb2.mono (by omega)))⟩
  · have HC := Lib.hid (HCB.out hp)
    have HE := Lib.hid (show progHolder hs m = (0, false) by simp [progHolder, hp])
    clear HCB HCO hp
    go_enter Try.func23, Try.ntmps23
    go_wp2_with fail
    refine HC.out.mono ?_
    rintro e w1 ⟨rfl, hb1⟩
    have hs1 := hb1.size
    simp only [World.size_alloc] at hs1
    have hc0 : ∀ W, Below w1.heap.size w1 W → W.cell? ⟨w.heap.size, 0, none⟩ = some (.string m) := fun W hW => (hW.cell (p := ⟨w.heap.size, 0, none⟩) (by show w.heap.size < _; omega)).trans ((hb1.cell (p := ⟨w.heap.size, 0, none⟩) (by simp)).trans (by simp))
    have HI := Lib.hid (indexGi_c ⟨w.heap.size, 0, none⟩ (fun x : Given => decide (x.mark = m)) [] (.slice none 0 0) w1 w1.heap.size (Nat.le_refl _) SlRep.nil_ (fun x W hW => holder1_c m w.heap.size x W (hc0 W hW) (by have := hW.size; omega)))
    clear hc0
    rw [show idxF (fun x : Given => decide (x.mark = m)) [] = -1 from rfl] at HI
    go_wp2_with fail
    refine HI.out.mono ?_
    rintro e w2 ⟨rfl, hb2⟩
    go_wp2
    go_ret2
    exact ⟨by rw [HE.out]; rfl, hbox.trans ((hb1.mono (by simp)).trans (hb2.mono (by omega)))⟩
end Go.Proofs.Ytgnaknanpgfpnaa
