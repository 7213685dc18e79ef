/- The program's concordance: Check. -/
import Derived.Test.YtgnaknanpgfpnaaCncC
import Derived.Test.YtgnaknanpgfpnaaCncB
namespace Go.Proofs.Ytgnaknanpgfpnaa
open Go.RowKit

abbrev StrMap (w : World) (b : Nat) (f : ByteArray → Option Int) : Prop := MapF w b Value.string (fun n : Int => Value.int .i64 n) f
theorem strKind : KeyKind Try.prog 9 Value.string := string_kind Try.underlying9

def holdU (f : ByteArray → Option Int) : List Standing → Option (ByteArray → Option Int)
  | [] => some f
  | s :: r => if s.mark.size = 0 then holdU f r else match f s.mark with
    | some u => if u ≠ s.unit then none else holdU (upd f s.mark s.unit) r
    | none => holdU (upd f s.mark s.unit) r
def preE (prev : Option Shot) (x : Shot) : Int :=
  if x.day < 0 ∨ 1048575 < x.day then 2
  else if dayBad prev x then 5
  else if 256 < x.units.length then 8
  else if fieldsE none x.units ≠ 0 then fieldsE none x.units
  else aboveE (pmap x.units) x.units
def checkP (f : ByteArray → Option Int) (prev : Option Shot) : List Shot → Int
  | [] => 0
  | x :: r => if preE prev x ≠ 0 then preE prev x else match holdU f x.units with
    | none => 19
    | some f' => checkP f' (some x) r
def progCheck (hs : List Shot) : Int := if 64 < hs.length then 8 else checkP (fun _ => none) none hs
theorem holdU_skip (f : ByteArray → Option Int) (s : Standing) (r : List Standing) (h : s.mark.size = 0) : holdU f (s :: r) = holdU f r := by rw [holdU, if_pos h]
theorem holdU_new (f : ByteArray → Option Int) (s : Standing) (r : List Standing) (h : s.mark.size ≠ 0) (hf : f s.mark = none) : holdU f (s :: r) = holdU (upd f s.mark s.unit) r := by rw [holdU, if_neg h, hf]
theorem holdU_same (f : ByteArray → Option Int) (s : Standing) (r : List Standing) (h : s.mark.size ≠ 0) (hf : f s.mark = some s.unit) : holdU f (s :: r) = holdU (upd f s.mark s.unit) r := by rw [holdU, if_neg h, hf]; simp
theorem holdU_bad (f : ByteArray → Option Int) (s : Standing) (r : List Standing) (u : Int) (h : s.mark.size ≠ 0) (hf : f s.mark = some u) (hu : u ≠ s.unit) : holdU f (s :: r) = none := by rw [holdU, if_neg h, hf]; simp [hu]

set_option maxRecDepth 100000 in
set_option maxHeartbeats 8000000 in
theorem progCheck_c (hs : List Shot) (v : Value) (w : World) (B : Nat) (hB : B ≤ w.heap.size) (h : Shots w B hs v) :
    Calls Try.prog 12 #[v] w fun e w' => e = .returned (.int .i64 (progCheck hs)) ∧ Below w.heap.size w w' := by
  obtain ⟨A, c, rfl, hc1, hc2, _⟩ := id h
  by_cases hl : 64 < hs.length
  · have HE := Lib.hid (show progCheck hs = 8 by simp [progCheck, hl])
    have hl1 : (64 : Int) < hs.length := by omega
    go_enter Try.func12, Try.ntmps12
    go_wp2
    go_ret
    exact ⟨ret_int HE.out.symm, Below.refl _ _⟩
  have HE := Lib.hid (show progCheck hs = checkP (fun _ => none) (prevAt hs 0) (hs.drop 0) by simp [progCheck, hl, prevAt])
  have hl1 : (hs.length : Int) ≤ 64 := by omega
  clear hl
  have hmm := @run_makeMap Try.prog
  go_enter Try.func12, Try.ntmps12
  go_wp2
  clear hmm
  go_loopw [18] (fun i' wr => ∃ (k : Nat) (f : ByteArray → Option Int), k ≤ hs.length ∧ i' = .int .i64 k ∧ Hid (progCheck hs = checkP f (prevAt hs k) (hs.drop k)) ∧ StrMap wr w.heap.size f ∧ Below w.heap.size w wr) (fun i' _ => hs.length - (intOf i').toNat)
  case atStart => exact ⟨0, _, Nat.zero_le _, rfl, HE, MapF.new w _ _ rfl, (Below.refl _ _).alloc (Nat.le_refl _) _⟩
  case round =>
    obtain ⟨k, f, hk, rfl, HS, hm, hb⟩ := hrel
    clear HE
    have hsz := hb.size
    have hml := hm.lt
    have hwr := h.below shS (hb.mono hB)
    by_cases hlt : k < hs.length
    · obtain ⟨x, hx⟩ := get_at hs hlt
      have HD := Lib.hid (drop_at hx)
      have HY := Lib.hid (show prevAt hs (k + 1) = some x by simpa [prevAt] using hx)
      obtain ⟨b, off, v, rfl, hbB, g0, g1, hu⟩ := Shots.at_ hwr hx
      obtain ⟨A', c', rfl, hd1, hd2, _⟩ := id hu
      have hbr : b < wr.heap.size := by omega
      have hbox : Below wr.heap.size wr (wr.alloc (.cells #[.int .i64 x.day, .slice A' x.units.length c'] 61)) := (Below.refl _ _).alloc (Nat.le_refl _) _
      have hb1 := hb.trans (hbox.mono hsz)
      have HE := Lib.hid (show progCheck hs = if preE (prevAt hs k) x ≠ 0 then preE (prevAt hs k) x else match holdU f x.units with | none => 19 | some f' => checkP f' (prevAt hs (k + 1)) (hs.drop (k + 1)) by rw [HS.out, HD.out, HY.out]; rfl)
      have HX := Lib.hid hx
      clear hx HS HD HY
      by_cases hday : x.day < 0 ∨ 1048575 < x.day
      · have hE := Lib.hid (show progCheck hs = 2 by rw [HE.out]; simp [preE, hday])
        rcases hday with hday | hday
        all_goals
          go_wp2
          go_ret
          exact ⟨ret_int hE.out.symm, hb1⟩
      have hday1 : 0 ≤ x.day := by omega
      have hday2 : x.day ≤ 1048575 := by omega
      have hday3 : ¬ x.day < 0 := by omega
      by_cases h0 : k = 0
      · subst h0
        simp only [Nat.zero_mul, Nat.add_zero] at g0 g1
        have hgood : dayBad (prevAt hs 0) x = false := rfl
        by_cases hlen : 256 < x.units.length
        · have hE := Lib.hid (show progCheck hs = 8 by rw [HE.out]; simp [preE, hday, hgood, hlen])
          have hlen1 : (256 : Int) < x.units.length := by omega
          clear hgood hday
          go_wp2
          go_quiet (fail)
          go_wp2
          go_ret
          exact ⟨ret_int hE.out.symm, below_drewN hb1 _⟩
        have hlen1 : (x.units.length : Int) ≤ 256 := by omega
        have HG := Lib.hid (show preE (prevAt hs 0) x = if fieldsE none x.units ≠ 0 then fieldsE none x.units else aboveE (pmap x.units) x.units by simp [preE, hday, hgood, hlen])
        clear hgood hday hlen
        go_wp2
        go_quiet (fail)
        have hb2 : Below (wr.heap.size + 1) (wr.alloc (.cells #[.int .i64 x.day, .slice A' x.units.length c'] 61)) ((wr.alloc (.cells #[.int .i64 x.day, .slice A' x.units.length c'] 61)).drewN nq) := below_drewN (Below.refl _ _) _
        have HC := Lib.hid (fields_c x.units _ _ B (by simp; omega) (hu.below stS ((hbox.trans (hb2.mono (Nat.le_succ _))).mono (by omega))))
        go_wp2_with fail
        by_cases hf : fieldsE none x.units = 0
        · rw [hf] at HC
          have HP := Lib.hid hf
          clear hf
          refine HC.out.mono ?_
          rintro e w1 ⟨rfl, hb3⟩
          have hb4 := hb2.trans (hb3.mono (by simp))
          have hb5 := hbox.trans (hb4.mono (Nat.le_succ _))
          have hs4 := hb4.size
          simp only [World.size_alloc] at hs4
          have c1 : w1.cell? ⟨wr.heap.size, 1, none⟩ = some (.slice A' x.units.length c') := (hb4.cell (p := ⟨wr.heap.size, 1, none⟩) (by simp)).trans (by simp)
          have HC2 := Lib.hid (above_c x.units _ w1 B (by omega) (hu.below stS (hb5.mono (by omega))))
          by_cases ha : aboveE (pmap x.units) x.units = 0
          · rw [ha] at HC2
            have HA := Lib.hid (show preE (prevAt hs 0) x = 0 by rw [HG.out, HP.out]; simp [ha])
            clear ha
            go_wp2_with fail
            refine HC2.out.mono ?_
            rintro e w2 ⟨rfl, hb6⟩
            have hb7 := hb5.trans (hb6.mono (by omega))
            have hs7 := hb6.size
            have c2 : w2.cell? ⟨wr.heap.size, 1, none⟩ = some (.slice A' x.units.length c') := (hb6.cell (p := ⟨wr.heap.size, 1, none⟩) (by simp; omega)).trans c1
            have hm2 := hm.below hb7 hml
            have hb8 := hb.trans (hb7.mono hsz)
            clear hb2 hb3 hb4 hb6 c1
            have HH := Lib.hid (show holdU f x.units = holdU f (x.units.drop 0) from rfl)
            obtain ⟨wo, rfl⟩ : ∃ wo : World, wo = wr := ⟨_, rfl⟩
            go_wp2
            go_loopw [63] (fun i' wi => ∃ (n : Nat) (f' : ByteArray → Option Int), n ≤ x.units.length ∧ i' = .int .i64 n ∧ Hid (holdU f x.units = holdU f' (x.units.drop n)) ∧ StrMap wi w.heap.size f' ∧ Below w.heap.size w wi) (fun i' _ => x.units.length - (intOf i').toNat)
            case atStart => exact ⟨0, f, Nat.zero_le _, rfl, HH, hm2, hb8⟩
            case round =>
              obtain ⟨n, f', hn, rfl, HT, hmi, hbi⟩ := hrel
              clear HH hb7 hs7 c2 hm2 hb8 hb5
              have hsi := hbi.size
              have hmil := hmi.lt
              by_cases hnl : n < x.units.length
              · obtain ⟨s, hy⟩ := get_at x.units hnl
                have HDs := Lib.hid (drop_at hy)
                have hui := (Shots.at_ (h.below shS (hbi.mono hB)) HX.out)
                obtain ⟨bq, offq, vq, hAq, hbBq, -, gq1, huq⟩ := hui
                injection hAq with hAq
                injection hAq with hAq1 hAq2
                subst hAq1 hAq2
                have hvq : vq = .slice A' x.units.length c' := by
                  have hold := (hb.cell (p := ⟨b, off + 0 * 2 + 1, none⟩) (by omega : b < w.heap.size))
                  have hnew := (hbi.cell (p := ⟨b, off + 0 * 2 + 1, none⟩) (by omega : b < w.heap.size))
                  have e1 := gq1.symm.trans (hnew.trans (hold.symm.trans (by simpa using g1)))
                  injection e1
                subst hvq
                obtain ⟨b2, off2, rfl, hbB2, y0, y1, y2, y3, y4⟩ := Units.at_ huq hy
                have hbw2 : b2 < wr.heap.size := by omega
                have hx1 : Below wr.heap.size wr (wr.alloc (.cells #[.int .i64 s.unit, .int .i64 s.parent, .int .i64 s.level, .string s.mark, .string s.title] 46)) := (Below.refl _ _).alloc (Nat.le_refl _) _
                have hm1 := hmi.below hx1 hmil
                have hb9 := hbi.trans (hx1.mono hsi)
                clear hy gq1 huq
                by_cases hmk : s.mark.size = 0
                · have hk1 : s.mark.toList.isEmpty = true := by rw [str_empty]; simpa using hmk
                  have hk2' : s.mark.toList = [] := by simpa using hk1
                  have HR := Lib.hid (show holdU f x.units = holdU f' (x.units.drop (n + 1)) by rw [HT.out, HDs.out, holdU_skip _ _ _ hmk])
                  clear hmk
                  go_wp2
                  go_roundw
                  case rel => exact ⟨n + 1, f', by omega, by go_num, HR, hm1, hb9⟩
                  case measure => simp [intOf]; omega
                · have hk1 : s.mark.toList.isEmpty = false := by rw [str_empty]; simpa using hmk
                  have hk2' : ¬ s.mark.toList = [] := by simpa using hk1
                  cases hfm : f' s.mark with
                  | none =>
                    have HR := Lib.hid (show holdU f x.units = holdU (upd f' s.mark s.unit) (x.units.drop (n + 1)) by rw [HT.out, HDs.out, holdU_new _ _ _ hmk hfm])
                    go_wp2_with (at_lookup; refine stop_intro ?_)
                    refine stop_elim ?_
                    refine wpList_look rfl (.tmp 71) (.tmp 73) 64 true rfl strKind Try.underlying64 (zeroInt _) hm1 rfl s.mark rfl (.tuple #[.int .i64 0, .bool false]) (by rw [hfm]; rfl) ?_
                    clear hfm
                    go_wp2_with (at_mapUpdate; refine stop_intro ?_)
                    refine stop_elim ?_
                    refine wpList_mapPut rfl (.tmp 84) (.tmp 86) (.tmp 88) 64 (.inl rfl) strKind Try.underlying64 hm1 rfl s.mark rfl s.unit rfl ?_
                    intro w3 hm3 hg3
                    have hb10 := hb9.grown hg3 (by simp; omega) (fun k hk => by injection hk; omega)
                    go_wp2
                    go_roundw
                    case rel => exact ⟨n + 1, _, by omega, by go_num, HR, hm3, hb10⟩
                    case measure => simp [intOf]; omega
                  | some u =>
                    by_cases hus : u = s.unit
                    · subst hus
                      have HR := Lib.hid (show holdU f x.units = holdU (upd f' s.mark s.unit) (x.units.drop (n + 1)) by rw [HT.out, HDs.out, holdU_same _ _ _ hmk hfm])
                      have hq : (s.unit != s.unit) = false := by simp
                      go_wp2_with (at_lookup; refine stop_intro ?_)
                      refine stop_elim ?_
                      refine wpList_look rfl (.tmp 71) (.tmp 73) 64 true rfl strKind Try.underlying64 (zeroInt _) hm1 rfl s.mark rfl (.tuple #[.int .i64 s.unit, .bool true]) (by rw [hfm]; rfl) ?_
                      clear hfm
                      go_wp2_with (at_mapUpdate; refine stop_intro ?_)
                      refine stop_elim ?_
                      refine wpList_mapPut rfl (.tmp 84) (.tmp 86) (.tmp 88) 64 (.inl rfl) strKind Try.underlying64 hm1 rfl s.mark rfl s.unit rfl ?_
                      intro w3 hm3 hg3
                      have hb10 := hb9.grown hg3 (by simp; omega) (fun k hk => by injection hk; omega)
                      go_wp2
                      go_roundw
                      case rel => exact ⟨n + 1, _, by omega, by go_num, HR, hm3, hb10⟩
                      case measure => simp [intOf]; omega
                    · have hq1 : (u != s.unit) = true := by simpa using hus
                      have hq2 : (u == s.unit) = false := by simpa using hus
                      have HR := Lib.hid (show progCheck hs = 19 by rw [HE.out, HA.out, show holdU f x.units = none by rw [HT.out, HDs.out, holdU_bad _ _ _ _ hmk hfm hus]]; simp)
                      go_wp2_with (at_lookup; refine stop_intro ?_)
                      refine stop_elim ?_
                      refine wpList_look rfl (.tmp 71) (.tmp 73) 64 true rfl strKind Try.underlying64 (zeroInt _) hm1 rfl s.mark rfl (.tuple #[.int .i64 u, .bool true]) (by rw [hfm]; rfl) ?_
                      clear hfm
                      go_wp2
                      go_ret
                      exact ⟨ret_int HR.out.symm, hb9⟩
              · have HR := Lib.hid (show progCheck hs = checkP f' (prevAt hs (0 + 1)) (hs.drop (0 + 1)) by rw [HE.out, HA.out, show holdU f x.units = some f' by rw [HT.out, List.drop_of_length_le (by omega)]; rfl]; simp)
                go_wp2
                go_roundw
                case rel => exact ⟨0 + 1, f', by omega, by go_num, HR, hmi, hbi⟩
                case measure => simp [intOf]; omega
          · have ha1 : (aboveE (pmap x.units) x.units != 0) = true := by simpa using ha
            have ha2 : (aboveE (pmap x.units) x.units == 0) = false := by simpa using ha
            have HR := Lib.hid (show progCheck hs = aboveE (pmap x.units) x.units by rw [HE.out, HG.out, HP.out]; simp [ha])
            go_wp2_with fail
            refine HC2.out.mono ?_
            rintro e w2 ⟨rfl, hb6⟩
            go_wp2
            go_ret
            exact ⟨ret_int HR.out.symm, hb.trans ((hb5.trans (hb6.mono (by omega))).mono hsz)⟩
        · have hf1 : (fieldsE none x.units != 0) = true := by simpa using hf
          have hf2 : (fieldsE none x.units == 0) = false := by simpa using hf
          have HR := Lib.hid (show progCheck hs = fieldsE none x.units by rw [HE.out, HG.out]; simp [hf])
          refine HC.out.mono ?_
          rintro e w1 ⟨rfl, hb3⟩
          go_wp2
          go_ret
          exact ⟨ret_int HR.out.symm, hb.trans ((hbox.trans ((hb2.trans (hb3.mono (by simp))).mono (Nat.le_succ _))).mono hsz)⟩
      · obtain ⟨p, hp⟩ := get_at hs (show k - 1 < hs.length by omega)
        obtain ⟨b', off', v', hA, hbB', p0, -⟩ := Shots.at_ hwr hp
        injection hA with hA
        injection hA with hA1 hA2
        subst hA1 hA2
        have hk0 : 0 < k := by omega
        have hk2 : (1 : Int) ≤ k := by omega
        by_cases hpd : x.day ≤ p.day
        · have hE := Lib.hid (show progCheck hs = 5 by rw [HE.out]; simp [preE, hday, dayBad, prevAt, h0, hp, hpd])
          clear hp h0 hday
          go_wp2
          go_quiet (fail)
          go_wp2
          go_ret
          exact ⟨ret_int hE.out.symm, below_drewN hb1 _⟩
        · have hgood : dayBad (prevAt hs k) x = false := by simp [dayBad, prevAt, h0, hp, hpd]
          clear hp h0
          have hpd2 : p.day < x.day := by omega
          by_cases hlen : 256 < x.units.length
          · have hE := Lib.hid (show progCheck hs = 8 by rw [HE.out]; simp [preE, hday, hgood, hlen])
            have hlen1 : (256 : Int) < x.units.length := by omega
            clear hgood hday
            go_wp2
            go_quiet (fail)
            go_wp2
            go_ret
            exact ⟨ret_int hE.out.symm, below_drewN hb1 _⟩
          have hlen1 : (x.units.length : Int) ≤ 256 := by omega
          have HG := Lib.hid (show preE (prevAt hs k) x = if fieldsE none x.units ≠ 0 then fieldsE none x.units else aboveE (pmap x.units) x.units by simp [preE, hday, hgood, hlen])
          clear hgood hday hlen
          go_wp2
          go_quiet (fail)
          have hb2 : Below (wr.heap.size + 1) (wr.alloc (.cells #[.int .i64 x.day, .slice A' x.units.length c'] 61)) ((wr.alloc (.cells #[.int .i64 x.day, .slice A' x.units.length c'] 61)).drewN nq) := below_drewN (Below.refl _ _) _
          have HC := Lib.hid (fields_c x.units _ _ B (by simp; omega) (hu.below stS ((hbox.trans (hb2.mono (Nat.le_succ _))).mono (by omega))))
          go_wp2_with fail
          by_cases hf : fieldsE none x.units = 0
          · rw [hf] at HC
            have HP := Lib.hid hf
            clear hf
            refine HC.out.mono ?_
            rintro e w1 ⟨rfl, hb3⟩
            have hb4 := hb2.trans (hb3.mono (by simp))
            have hb5 := hbox.trans (hb4.mono (Nat.le_succ _))
            have hs4 := hb4.size
            simp only [World.size_alloc] at hs4
            have c1 : w1.cell? ⟨wr.heap.size, 1, none⟩ = some (.slice A' x.units.length c') := (hb4.cell (p := ⟨wr.heap.size, 1, none⟩) (by simp)).trans (by simp)
            have HC2 := Lib.hid (above_c x.units _ w1 B (by omega) (hu.below stS (hb5.mono (by omega))))
            by_cases ha : aboveE (pmap x.units) x.units = 0
            · rw [ha] at HC2
              have HA := Lib.hid (show preE (prevAt hs k) x = 0 by rw [HG.out, HP.out]; simp [ha])
              clear ha
              go_wp2_with fail
              refine HC2.out.mono ?_
              rintro e w2 ⟨rfl, hb6⟩
              have hb7 := hb5.trans (hb6.mono (by omega))
              have hs7 := hb6.size
              have c2 : w2.cell? ⟨wr.heap.size, 1, none⟩ = some (.slice A' x.units.length c') := (hb6.cell (p := ⟨wr.heap.size, 1, none⟩) (by simp; omega)).trans c1
              have hm2 := hm.below hb7 hml
              have hb8 := hb.trans (hb7.mono hsz)
              clear hb2 hb3 hb4 hb6 c1
              have HH := Lib.hid (show holdU f x.units = holdU f (x.units.drop 0) from rfl)
              obtain ⟨wo, rfl⟩ : ∃ wo : World, wo = wr := ⟨_, rfl⟩
              go_wp2
              go_loopw [63] (fun i' wi => ∃ (n : Nat) (f' : ByteArray → Option Int), n ≤ x.units.length ∧ i' = .int .i64 n ∧ Hid (holdU f x.units = holdU f' (x.units.drop n)) ∧ StrMap wi w.heap.size f' ∧ Below w.heap.size w wi) (fun i' _ => x.units.length - (intOf i').toNat)
              case atStart => exact ⟨0, f, Nat.zero_le _, rfl, HH, hm2, hb8⟩
              case round =>
                obtain ⟨n, f', hn, rfl, HT, hmi, hbi⟩ := hrel
                clear HH hb7 hs7 c2 hm2 hb8 hb5
                have hsi := hbi.size
                have hmil := hmi.lt
                by_cases hnl : n < x.units.length
                · obtain ⟨s, hy⟩ := get_at x.units hnl
                  have HDs := Lib.hid (drop_at hy)
                  have hui := (Shots.at_ (h.below shS (hbi.mono hB)) HX.out)
                  obtain ⟨bq, offq, vq, hAq, hbBq, -, gq1, huq⟩ := hui
                  injection hAq with hAq
                  injection hAq with hAq1 hAq2
                  subst hAq1 hAq2
                  have hvq : vq = .slice A' x.units.length c' := by
                    have hold := (hb.cell (p := ⟨b, off + k * 2 + 1, none⟩) (by omega : b < w.heap.size))
                    have hnew := (hbi.cell (p := ⟨b, off + k * 2 + 1, none⟩) (by omega : b < w.heap.size))
                    have e1 := gq1.symm.trans (hnew.trans (hold.symm.trans (by simpa using g1)))
                    injection e1
                  subst hvq
                  obtain ⟨b2, off2, rfl, hbB2, y0, y1, y2, y3, y4⟩ := Units.at_ huq hy
                  have hbw2 : b2 < wr.heap.size := by omega
                  have hx1 : Below wr.heap.size wr (wr.alloc (.cells #[.int .i64 s.unit, .int .i64 s.parent, .int .i64 s.level, .string s.mark, .string s.title] 46)) := (Below.refl _ _).alloc (Nat.le_refl _) _
                  have hm1 := hmi.below hx1 hmil
                  have hb9 := hbi.trans (hx1.mono hsi)
                  clear hy gq1 huq
                  by_cases hmk : s.mark.size = 0
                  · have hk1 : s.mark.toList.isEmpty = true := by rw [str_empty]; simpa using hmk
                    have hk2' : s.mark.toList = [] := by simpa using hk1
                    have HR := Lib.hid (show holdU f x.units = holdU f' (x.units.drop (n + 1)) by rw [HT.out, HDs.out, holdU_skip _ _ _ hmk])
                    clear hmk
                    go_wp2
                    go_roundw
                    case rel => exact ⟨n + 1, f', by omega, by go_num, HR, hm1, hb9⟩
                    case measure => simp [intOf]; omega
                  · have hk1 : s.mark.toList.isEmpty = false := by rw [str_empty]; simpa using hmk
                    have hk2' : ¬ s.mark.toList = [] := by simpa using hk1
                    cases hfm : f' s.mark with
                    | none =>
                      have HR := Lib.hid (show holdU f x.units = holdU (upd f' s.mark s.unit) (x.units.drop (n + 1)) by rw [HT.out, HDs.out, holdU_new _ _ _ hmk hfm])
                      go_wp2_with (at_lookup; refine stop_intro ?_)
                      refine stop_elim ?_
                      refine wpList_look rfl (.tmp 71) (.tmp 73) 64 true rfl strKind Try.underlying64 (zeroInt _) hm1 rfl s.mark rfl (.tuple #[.int .i64 0, .bool false]) (by rw [hfm]; rfl) ?_
                      clear hfm
                      go_wp2_with (at_mapUpdate; refine stop_intro ?_)
                      refine stop_elim ?_
                      refine wpList_mapPut rfl (.tmp 84) (.tmp 86) (.tmp 88) 64 (.inl rfl) strKind Try.underlying64 hm1 rfl s.mark rfl s.unit rfl ?_
                      intro w3 hm3 hg3
                      have hb10 := hb9.grown hg3 (by simp; omega) (fun k hk => by injection hk; omega)
                      go_wp2
                      go_roundw
                      case rel => exact ⟨n + 1, _, by omega, by go_num, HR, hm3, hb10⟩
                      case measure => simp [intOf]; omega
                    | some u =>
                      by_cases hus : u = s.unit
                      · subst hus
                        have HR := Lib.hid (show holdU f x.units = holdU (upd f' s.mark s.unit) (x.units.drop (n + 1)) by rw [HT.out, HDs.out, holdU_same _ _ _ hmk hfm])
                        have hq : (s.unit != s.unit) = false := by simp
                        go_wp2_with (at_lookup; refine stop_intro ?_)
                        refine stop_elim ?_
                        refine wpList_look rfl (.tmp 71) (.tmp 73) 64 true rfl strKind Try.underlying64 (zeroInt _) hm1 rfl s.mark rfl (.tuple #[.int .i64 s.unit, .bool true]) (by rw [hfm]; rfl) ?_
                        clear hfm
                        go_wp2_with (at_mapUpdate; refine stop_intro ?_)
                        refine stop_elim ?_
                        refine wpList_mapPut rfl (.tmp 84) (.tmp 86) (.tmp 88) 64 (.inl rfl) strKind Try.underlying64 hm1 rfl s.mark rfl s.unit rfl ?_
                        intro w3 hm3 hg3
                        have hb10 := hb9.grown hg3 (by simp; omega) (fun k hk => by injection hk; omega)
                        go_wp2
                        go_roundw
                        case rel => exact ⟨n + 1, _, by omega, by go_num, HR, hm3, hb10⟩
                        case measure => simp [intOf]; omega
                      · have hq1 : (u != s.unit) = true := by simpa using hus
                        have hq2 : (u == s.unit) = false := by simpa using hus
                        have HR := Lib.hid (show progCheck hs = 19 by rw [HE.out, HA.out, show holdU f x.units = none by rw [HT.out, HDs.out, holdU_bad _ _ _ _ hmk hfm hus]]; simp)
                        go_wp2_with (at_lookup; refine stop_intro ?_)
                        refine stop_elim ?_
                        refine wpList_look rfl (.tmp 71) (.tmp 73) 64 true rfl strKind Try.underlying64 (zeroInt _) hm1 rfl s.mark rfl (.tuple #[.int .i64 u, .bool true]) (by rw [hfm]; rfl) ?_
                        clear hfm
                        go_wp2
                        go_ret
                        exact ⟨ret_int HR.out.symm, hb9⟩
                · have HR := Lib.hid (show progCheck hs = checkP f' (prevAt hs (k + 1)) (hs.drop (k + 1)) by rw [HE.out, HA.out, show holdU f x.units = some f' by rw [HT.out, List.drop_of_length_le (by omega)]; rfl]; simp)
                  go_wp2
                  go_roundw
                  case rel => exact ⟨k + 1, f', by omega, by go_num, HR, hmi, hbi⟩
                  case measure => simp [intOf]; omega
            · have ha1 : (aboveE (pmap x.units) x.units != 0) = true := by simpa using ha
              have ha2 : (aboveE (pmap x.units) x.units == 0) = false := by simpa using ha
              have HR := Lib.hid (show progCheck hs = aboveE (pmap x.units) x.units by rw [HE.out, HG.out, HP.out]; simp [ha])
              go_wp2_with fail
              refine HC2.out.mono ?_
              rintro e w2 ⟨rfl, hb6⟩
              go_wp2
              go_ret
              exact ⟨ret_int HR.out.symm, hb.trans ((hb5.trans (hb6.mono (by omega))).mono hsz)⟩
          · have hf1 : (fieldsE none x.units != 0) = true := by simpa using hf
            have hf2 : (fieldsE none x.units == 0) = false := by simpa using hf
            have HR := Lib.hid (show progCheck hs = fieldsE none x.units by rw [HE.out, HG.out]; simp [hf])
            refine HC.out.mono ?_
            rintro e w1 ⟨rfl, hb3⟩
            go_wp2
            go_ret
            exact ⟨ret_int HR.out.symm, hb.trans ((hbox.trans ((hb2.trans (hb3.mono (by simp))).mono (Nat.le_succ _))).mono hsz)⟩
    · go_wp2
      go_ret
      exact ⟨ret_int (by rw [HS.out, List.drop_of_length_le (by omega)]; rfl), hb⟩
end Go.Proofs.Ytgnaknanpgfpnaa
