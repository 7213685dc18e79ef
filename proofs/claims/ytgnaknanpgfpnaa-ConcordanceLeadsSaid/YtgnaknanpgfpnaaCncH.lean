/- The program's concordance: Table. -/
import Derived.Test.YtgnaknanpgfpnaaCncG
namespace Go.Proofs.Ytgnaknanpgfpnaa
open Go.RowKit

def markOf (l : List Standing) (u : Int) : ByteArray := match l.find? (fun x => x.unit == u) with
  | none => ⟨#[]⟩
  | some y => y.mark
def nowMark (hs : List Shot) (u : Int) : ByteArray := match hs[hs.length - 1]? with
  | none => ⟨#[]⟩
  | some s => markOf s.units u
def tableG (hs : List Shot) : Option Given → List Given → List (ByteArray × ByteArray)
  | _, [] => []
  | p, g :: r => if p.map (·.mark) = some g.mark then tableG hs (some g) r else if nowMark hs g.unit = g.mark then tableG hs (some g) r else (g.mark, nowMark hs g.unit) :: tableG hs (some g) r
def progTable (hs : List Shot) : List (ByteArray × ByteArray) := if progCheck hs ≠ 0 then [] else tableG hs none (collectL hs)
theorem collect_ne {hs : List Shot} (h : 0 < (collectL hs).length) : 0 < hs.length := by
  rcases hs with _ | ⟨x, r⟩
  · simp [collectL, givenP] at h
  · simp
theorem table_bad (hs : List Shot) (v : Value) (w : World) (B : Nat) (hB : B ≤ w.heap.size) (h : Shots w B hs v) (hp : progCheck hs ≠ 0) :
    Calls Try.prog 19 #[v] w fun e w' => e = .returned (.tuple #[.slice none 0 0, .int .i64 1]) ∧ Below w.heap.size w w' := by
  have HC := Lib.hid (collect_bad hs _ _ B hB h hp)
  obtain ⟨A, c, rfl, hc1, hc2, _⟩ := id h
  go_enter Try.func19, Try.ntmps19
  go_wp2_with fail
  refine HC.out.mono ?_
  rintro e w1 ⟨rfl, hb1⟩
  go_wp2
  go_ret2
  exact ⟨rfl, hb1⟩
theorem collect_len {hs : List Shot} (h : progCheck hs = 0) : (collectL hs).length ≤ 16384 := by
  obtain ⟨_, h2⟩ := foldl_ins (givenP hs) [] List.Pairwise.nil
  have := h2.length_eq
  have h3 := given_len h
  simp at this
  unfold collectL
  omega

set_option maxRecDepth 100000 in
set_option maxHeartbeats 4000000 in
theorem table_ok (hs : List Shot) (v : Value) (w : World) (B : Nat) (hB : B ≤ w.heap.size) (h : Shots w B hs v) (hp : progCheck hs = 0) :
    Calls Try.prog 19 #[v] w fun e w' => ∃ v', e = .returned (.tuple #[v', .int .i64 0]) ∧ Pairs w' w'.heap.size (progTable hs) v' ∧ Below w.heap.size w w' := by
  have HC := Lib.hid (collect_ok hs _ _ B hB h hp)
  have HE := Lib.hid (show progTable hs = [] ++ tableG hs (prevAt (collectL hs) 0) ((collectL hs).drop 0) by simp [progTable, hp, prevAt])
  have hlen := collect_len hp
  have hlen64 := (good_of hp).1
  obtain ⟨A, c, rfl, hc1, hc2, _⟩ := id h
  have hne := Lib.hid (@collect_ne hs)
  clear hp
  go_enter Try.func19, Try.ntmps19
  go_wp2_with fail
  refine HC.out.mono ?_
  rintro e w1 ⟨v1, rfl, hown, hb1⟩
  have hs1 := hb1.size
  have hsl := hown.toSl giS
  obtain ⟨A2, c2, rfl, hq1, hq2, -⟩ := id hsl
  go_wp2
  go_loopw [6, 22] (fun o i wr => ∃ (k : Nat) (acc : List (ByteArray × ByteArray)), k ≤ (collectL hs).length ∧ i = .int .i64 k ∧ OwnRep 2 (flat pairEnc) 40 w1.heap.size wr acc o ∧ acc.length ≤ k ∧ Hid (progTable hs = acc ++ tableG hs (prevAt (collectL hs) k) ((collectL hs).drop k)) ∧ Below w1.heap.size w1 wr) (fun _ i _ => (collectL hs).length - (intOf i).toNat)
  case atStart => exact ⟨0, [], Nat.zero_le _, rfl, OwnRep.nil_, by simp, HE, Below.refl _ _⟩
  case round =>
    obtain ⟨k, acc, hk, rfl, hacc, hal, HS, hb⟩ := hrel
    clear HE
    have hsz := hb.size
    have hbw := hb1.trans (hb.mono (by omega))
    obtain ⟨A3, c3, ho3, hle3, hc3, -⟩ := id (hacc.toSl paS)
    subst ho3
    by_cases hlt : k < (collectL hs).length
    · obtain ⟨g, hx⟩ := get_at (collectL hs) hlt
      have HD := Lib.hid (drop_at hx)
      have HY := Lib.hid (show prevAt (collectL hs) (k + 1) = some g by simpa [prevAt] using hx)
      have hslr := hsl.below giS hb
      obtain ⟨b, off, rfl, hbB, g0, g1, g2, g3⟩ := Givens.at_ hslr hx
      have hbr : b < wr.heap.size := by omega
      clear hx
      have hh1 := hne.out (by omega)
      obtain ⟨sl, hsl2⟩ := get_at hs (show hs.length - 1 < hs.length by omega)
      obtain ⟨b5, off5, v5, hA5, hbB5, -, l1, hu5⟩ := Shots.at_ h hsl2
      subst hA5
      obtain ⟨A6, c6, rfl, hd61, hd62, -⟩ := id hu5
      have hb5w : b5 < w.heap.size := by omega
      have HN := Lib.hid (show nowMark hs g.unit = markOf sl.units g.unit by simp only [nowMark, hsl2])
      clear hsl2
      have hx1 : Below wr.heap.size wr (wr.alloc (.cells #[.string g.mark, .int .i64 g.unit, .int .i64 g.from_, .int .i64 g.until_] 38)) := (Below.refl _ _).alloc (Nat.le_refl _) _
      have hacc1 := hacc.below paS hx1
      have hb3 := hb.trans (hx1.mono hsz)
      have hbw3 := hbw.trans (hx1.mono (by omega))
      have hlta := hacc.own_lt
      have l2 := (hbw3.cell (p := ⟨b5, off5 + (hs.length - 1) * 2 + 1, none⟩) hb5w).trans l1
      by_cases h0 : k = 0
      · subst h0
        simp only [Nat.zero_mul, Nat.add_zero] at g0 g1 g2 g3
        have HR := Lib.hid (show progTable hs = acc ++ (if nowMark hs g.unit = g.mark then tableG hs (prevAt (collectL hs) 1) ((collectL hs).drop 1) else (g.mark, nowMark hs g.unit) :: tableG hs (prevAt (collectL hs) 1) ((collectL hs).drop 1)) by rw [HS.out, HD.out, HY.out]; rfl)
        have HC2 := Lib.hid (fun n : Nat => cfind_c g.unit sl.units _ ((wr.alloc (.cells #[.string g.mark, .int .i64 g.unit, .int .i64 g.from_, .int .i64 g.until_] 38)).drewN n) B (by show B ≤ (wr.alloc _).heap.size; simp; omega) (hu5.below stS ((below_drewN hbw3 n).mono hB)))
        go_wp2
        go_quiet (fail)
        rcases idxF_cases (fun x : Standing => x.unit == g.unit) sl.units with ⟨hi, hq⟩ | ⟨m, y, hi, hm, _, hq⟩
        · rw [hi] at HC2
          have HN2 := Lib.hid (show nowMark hs g.unit = ⟨#[]⟩ by rw [HN.out]; simp only [markOf, hq])
          clear hi hq
          go_wp2_with fail
          refine (HC2.out _).mono ?_
          rintro e w3 ⟨rfl, hb4⟩
          have hs4 := hb4.size
          change (wr.alloc _).heap.size ≤ w3.heap.size at hs4
          simp only [World.size_alloc] at hs4
          have hb4' : Below (wr.heap.size + 1) (wr.alloc (.cells #[.string g.mark, .int .i64 g.unit, .int .i64 g.from_, .int .i64 g.until_] 38)) w3 := (below_drewN (Below.refl _ _) nq).trans (hb4.mono (by show _ ≤ (wr.alloc _).heap.size; simp))
          have z0 : w3.cell? ⟨wr.heap.size, 0, none⟩ = some (.string g.mark) := (hb4'.cell (p := ⟨wr.heap.size, 0, none⟩) (by simp)).trans (by simp)
          have hb5 := hb3.trans (hb4'.mono (by omega))
          have hacc2 := hacc1.below paS (w' := w3) (by simpa using hb4')
          by_cases hnm : (⟨#[]⟩ : ByteArray) = g.mark
          · have HR2 := Lib.hid (show progTable hs = acc ++ tableG hs (prevAt (collectL hs) (0 + 1)) ((collectL hs).drop (0 + 1)) by rw [HR.out, HN2.out, if_pos hnm])
            have hy1 : g.mark.toList.isEmpty = true := by rw [str_empty, ← hnm]; rfl
            have hy2 : g.mark.toList = [] := by simpa using hy1
            have hy3 : (([] : List UInt8) == g.mark.toList) = true := by rw [hy2]; rfl
            clear hnm
            go_wp2
            go_roundw
            case rel => exact ⟨0 + 1, acc, by omega, by go_num, hacc2, by omega, HR2, hb5⟩
            case measure => simp [intOf]; omega
          · have HR2 := Lib.hid (show progTable hs = (acc ++ [(g.mark, (⟨#[]⟩ : ByteArray))]) ++ tableG hs (prevAt (collectL hs) (0 + 1)) ((collectL hs).drop (0 + 1)) by rw [HR.out, HN2.out, if_neg hnm]; simp)
            have hy1 : g.mark.toList.isEmpty = false := by
              rw [str_empty, decide_eq_false_iff_not]
              intro hz
              exact hnm (WideShapes.bytes_inj (by rw [List.eq_nil_of_length_eq_zero (l := g.mark.data.toList) (by simpa using hz)]))
            have hy2 : ¬ g.mark.toList = [] := by simpa using hy1
            have hy3 : (([] : List UInt8) == g.mark.toList) = false := by
              cases hz : g.mark.toList with
              | nil => exact absurd hz hy2
              | cons a l => rfl
            go_wp2_with (at_builtin; refine stop_intro ?_)
            refine stop_elim ?_
            refine wpList_append_rep rfl paS pairE_ w1.heap.size (.tmp 62) (.tmp 67) rfl rfl (hacc2.alloc paS _) rfl (ys := [(g.mark, (⟨#[]⟩ : ByteArray))]) (SlRep.one_new paS (F := fun _ => False) ?hg (rfl : [Value.string g.mark, Value.string ((⟨#[]⟩ : ByteArray))] = _) ?hF1) ?F ?n (by decide) ?hbase ?_
            case hg => rfl
            case hF1 => exact fun _ h => h.elim
            case F =>
              intro bb hbb
              rcases hbb with hbb | hbb
              · exact hbb.elim
              · subst hbb
                exact ⟨by simp, fun he => by have := hacc.own_lt _ he; omega⟩
            case hbase => simp; omega
            case n => simp; omega
            intro v6 w6 hown6 hg6 hat6
            change World.grownBy _ w6 (Value.ownBlock (.slice A3 acc.length c3)) at hg6
            have hb6 := (hb5.alloc (by omega) _).grown hg6 (by simp; omega) (fun k hk => (hlta k hk).1)
            go_wp2
            go_roundw
            case rel => exact ⟨0 + 1, _, by omega, by go_num, hown6, by rw [List.length_append, List.length_singleton]; omega, HR2, hb6⟩
            case measure => simp [intOf]; omega
        · have hml := lt_of_at hm
          rw [hi] at HC2
          have HN2 := Lib.hid (show nowMark hs g.unit = y.mark by rw [HN.out]; simp only [markOf, hq])
          clear hi hq
          obtain ⟨b8, off8, hA8, hbB8, -, -, -, y3, -⟩ := Units.at_ hu5 hm
          subst hA8
          have hb8w : b8 < w.heap.size := by omega
          clear hm
          go_wp2_with fail
          refine (HC2.out _).mono ?_
          rintro e w3 ⟨rfl, hb4⟩
          have hs4 := hb4.size
          change (wr.alloc _).heap.size ≤ w3.heap.size at hs4
          simp only [World.size_alloc] at hs4
          have hb4' : Below (wr.heap.size + 1) (wr.alloc (.cells #[.string g.mark, .int .i64 g.unit, .int .i64 g.from_, .int .i64 g.until_] 38)) w3 := (below_drewN (Below.refl _ _) nq).trans (hb4.mono (by show _ ≤ (wr.alloc _).heap.size; simp))
          have z0 : w3.cell? ⟨wr.heap.size, 0, none⟩ = some (.string g.mark) := (hb4'.cell (p := ⟨wr.heap.size, 0, none⟩) (by simp)).trans (by simp)
          have z3 := ((hbw3.trans (hb4'.mono (by omega))).cell (p := ⟨b8, off8 + m * 5 + 3, none⟩) hb8w).trans y3
          have hb5 := hb3.trans (hb4'.mono (by omega))
          have hacc2 := hacc1.below paS (w' := w3) (by simpa using hb4')
          by_cases hnm : y.mark = g.mark
          · have HR2 := Lib.hid (show progTable hs = acc ++ tableG hs (prevAt (collectL hs) (0 + 1)) ((collectL hs).drop (0 + 1)) by rw [HR.out, HN2.out, if_pos hnm])
            have hy1 : (y.mark.toList == g.mark.toList) = true := by rw [str_eq]; simpa using hnm
            have hy2 : y.mark.toList = g.mark.toList := by simpa using hy1
            clear hnm
            go_wp2
            go_roundw
            case rel => exact ⟨0 + 1, acc, by omega, by go_num, hacc2, by omega, HR2, hb5⟩
            case measure => simp [intOf]; omega
          · have HR2 := Lib.hid (show progTable hs = (acc ++ [(g.mark, y.mark)]) ++ tableG hs (prevAt (collectL hs) (0 + 1)) ((collectL hs).drop (0 + 1)) by rw [HR.out, HN2.out, if_neg hnm]; simp)
            have hy1 : (y.mark.toList == g.mark.toList) = false := by rw [str_eq]; simpa using hnm
            have hy2 : ¬ y.mark.toList = g.mark.toList := by simpa using hy1
            go_wp2_with (at_builtin; refine stop_intro ?_)
            refine stop_elim ?_
            refine wpList_append_rep rfl paS pairE_ w1.heap.size (.tmp 62) (.tmp 67) rfl rfl (hacc2.alloc paS _) rfl (ys := [(g.mark, y.mark)]) (SlRep.one_new paS (F := fun _ => False) ?hg (rfl : [Value.string g.mark, Value.string (y.mark)] = _) ?hF1) ?F ?n (by decide) ?hbase ?_
            case hg => rfl
            case hF1 => exact fun _ h => h.elim
            case F =>
              intro bb hbb
              rcases hbb with hbb | hbb
              · exact hbb.elim
              · subst hbb
                exact ⟨by simp, fun he => by have := hacc.own_lt _ he; omega⟩
            case hbase => simp; omega
            case n => simp; omega
            intro v6 w6 hown6 hg6 hat6
            change World.grownBy _ w6 (Value.ownBlock (.slice A3 acc.length c3)) at hg6
            have hb6 := (hb5.alloc (by omega) _).grown hg6 (by simp; omega) (fun k hk => (hlta k hk).1)
            go_wp2
            go_roundw
            case rel => exact ⟨0 + 1, _, by omega, by go_num, hown6, by rw [List.length_append, List.length_singleton]; omega, HR2, hb6⟩
            case measure => simp [intOf]; omega
      · obtain ⟨p, hp⟩ := get_at (collectL hs) (show k - 1 < (collectL hs).length by omega)
        obtain ⟨b', off', hA, hbB', p0, -⟩ := Givens.at_ hslr hp
        injection hA with hA
        injection hA with hA1 hA2
        subst hA1 hA2
        have hk0 : 0 < k := by omega
        have hk2 : (1 : Int) ≤ k := by omega
        have hpv : prevAt (collectL hs) k = some p := by simp [prevAt, h0, hp]
        by_cases hpm : p.mark = g.mark
        · have HR := Lib.hid (show progTable hs = acc ++ tableG hs (prevAt (collectL hs) (k + 1)) ((collectL hs).drop (k + 1)) by rw [HS.out, HD.out, HY.out, hpv]; simp [tableG, hpm])
          have hz1 : (p.mark.toList == g.mark.toList) = true := by rw [str_eq]; simpa using hpm
          have hz2 : p.mark.toList = g.mark.toList := by simpa using hz1
          clear hp h0 hpv hpm
          go_wp2
          go_quiet (fail)
          go_wp2
          go_roundw
          case rel => exact ⟨k + 1, acc, by omega, by go_num, hacc1.keep (fun _ _ => rfl), by omega, HR, below_drewN hb3 _⟩
          case measure => simp [intOf]; omega
        · have HR := Lib.hid (show progTable hs = acc ++ (if nowMark hs g.unit = g.mark then tableG hs (prevAt (collectL hs) (k + 1)) ((collectL hs).drop (k + 1)) else (g.mark, nowMark hs g.unit) :: tableG hs (prevAt (collectL hs) (k + 1)) ((collectL hs).drop (k + 1))) by rw [HS.out, HD.out, HY.out, hpv]; simp [tableG, hpm])
          have hz1 : (p.mark.toList == g.mark.toList) = false := by rw [str_eq]; simpa using hpm
          have hz2 : ¬ p.mark.toList = g.mark.toList := by simpa using hz1
          clear hp h0 hpv
          have HC2 := Lib.hid (fun n : Nat => cfind_c g.unit sl.units _ ((wr.alloc (.cells #[.string g.mark, .int .i64 g.unit, .int .i64 g.from_, .int .i64 g.until_] 38)).drewN n) B (by show B ≤ (wr.alloc _).heap.size; simp; omega) (hu5.below stS ((below_drewN hbw3 n).mono hB)))
          go_wp2
          go_quiet (fail)
          rcases idxF_cases (fun x : Standing => x.unit == g.unit) sl.units with ⟨hi, hq⟩ | ⟨m, y, hi, hm, _, hq⟩
          · rw [hi] at HC2
            have HN2 := Lib.hid (show nowMark hs g.unit = ⟨#[]⟩ by rw [HN.out]; simp only [markOf, hq])
            clear hi hq
            go_wp2_with fail
            refine (HC2.out _).mono ?_
            rintro e w3 ⟨rfl, hb4⟩
            have hs4 := hb4.size
            change (wr.alloc _).heap.size ≤ w3.heap.size at hs4
            simp only [World.size_alloc] at hs4
            have hb4' : Below (wr.heap.size + 1) (wr.alloc (.cells #[.string g.mark, .int .i64 g.unit, .int .i64 g.from_, .int .i64 g.until_] 38)) w3 := (below_drewN (Below.refl _ _) nq).trans (hb4.mono (by show _ ≤ (wr.alloc _).heap.size; simp))
            have z0 : w3.cell? ⟨wr.heap.size, 0, none⟩ = some (.string g.mark) := (hb4'.cell (p := ⟨wr.heap.size, 0, none⟩) (by simp)).trans (by simp)
            have hb5 := hb3.trans (hb4'.mono (by omega))
            have hacc2 := hacc1.below paS (w' := w3) (by simpa using hb4')
            by_cases hnm : (⟨#[]⟩ : ByteArray) = g.mark
            · have HR2 := Lib.hid (show progTable hs = acc ++ tableG hs (prevAt (collectL hs) (k + 1)) ((collectL hs).drop (k + 1)) by rw [HR.out, HN2.out, if_pos hnm])
              have hy1 : g.mark.toList.isEmpty = true := by rw [str_empty, ← hnm]; rfl
              have hy2 : g.mark.toList = [] := by simpa using hy1
              have hy3 : (([] : List UInt8) == g.mark.toList) = true := by rw [hy2]; rfl
              clear hnm
              go_wp2
              go_roundw
              case rel => exact ⟨k + 1, acc, by omega, by go_num, hacc2, by omega, HR2, hb5⟩
              case measure => simp [intOf]; omega
            · have HR2 := Lib.hid (show progTable hs = (acc ++ [(g.mark, (⟨#[]⟩ : ByteArray))]) ++ tableG hs (prevAt (collectL hs) (k + 1)) ((collectL hs).drop (k + 1)) by rw [HR.out, HN2.out, if_neg hnm]; simp)
              have hy1 : g.mark.toList.isEmpty = false := by
                rw [str_empty, decide_eq_false_iff_not]
                intro hz
                exact hnm (WideShapes.bytes_inj (by rw [List.eq_nil_of_length_eq_zero (l := g.mark.data.toList) (by simpa using hz)]))
              have hy2 : ¬ g.mark.toList = [] := by simpa using hy1
              have hy3 : (([] : List UInt8) == g.mark.toList) = false := by
                cases hz : g.mark.toList with
                | nil => exact absurd hz hy2
                | cons a l => rfl
              go_wp2_with (at_builtin; refine stop_intro ?_)
              refine stop_elim ?_
              refine wpList_append_rep rfl paS pairE_ w1.heap.size (.tmp 62) (.tmp 67) rfl rfl (hacc2.alloc paS _) rfl (ys := [(g.mark, (⟨#[]⟩ : ByteArray))]) (SlRep.one_new paS (F := fun _ => False) ?hg (rfl : [Value.string g.mark, Value.string ((⟨#[]⟩ : ByteArray))] = _) ?hF1) ?F ?n (by decide) ?hbase ?_
              case hg => rfl
              case hF1 => exact fun _ h => h.elim
              case F =>
                intro bb hbb
                rcases hbb with hbb | hbb
                · exact hbb.elim
                · subst hbb
                  exact ⟨by simp, fun he => by have := hacc.own_lt _ he; omega⟩
              case hbase => simp; omega
              case n => simp; omega
              intro v6 w6 hown6 hg6 hat6
              change World.grownBy _ w6 (Value.ownBlock (.slice A3 acc.length c3)) at hg6
              have hb6 := (hb5.alloc (by omega) _).grown hg6 (by simp; omega) (fun k hk => (hlta k hk).1)
              go_wp2
              go_roundw
              case rel => exact ⟨k + 1, _, by omega, by go_num, hown6, by rw [List.length_append, List.length_singleton]; omega, HR2, hb6⟩
              case measure => simp [intOf]; omega
          · have hml := lt_of_at hm
            rw [hi] at HC2
            have HN2 := Lib.hid (show nowMark hs g.unit = y.mark by rw [HN.out]; simp only [markOf, hq])
            clear hi hq
            obtain ⟨b8, off8, hA8, hbB8, -, -, -, y3, -⟩ := Units.at_ hu5 hm
            subst hA8
            have hb8w : b8 < w.heap.size := by omega
            clear hm
            go_wp2_with fail
            refine (HC2.out _).mono ?_
            rintro e w3 ⟨rfl, hb4⟩
            have hs4 := hb4.size
            change (wr.alloc _).heap.size ≤ w3.heap.size at hs4
            simp only [World.size_alloc] at hs4
            have hb4' : Below (wr.heap.size + 1) (wr.alloc (.cells #[.string g.mark, .int .i64 g.unit, .int .i64 g.from_, .int .i64 g.until_] 38)) w3 := (below_drewN (Below.refl _ _) nq).trans (hb4.mono (by show _ ≤ (wr.alloc _).heap.size; simp))
            have z0 : w3.cell? ⟨wr.heap.size, 0, none⟩ = some (.string g.mark) := (hb4'.cell (p := ⟨wr.heap.size, 0, none⟩) (by simp)).trans (by simp)
            have z3 := ((hbw3.trans (hb4'.mono (by omega))).cell (p := ⟨b8, off8 + m * 5 + 3, none⟩) hb8w).trans y3
            have hb5 := hb3.trans (hb4'.mono (by omega))
            have hacc2 := hacc1.below paS (w' := w3) (by simpa using hb4')
            by_cases hnm : y.mark = g.mark
            · have HR2 := Lib.hid (show progTable hs = acc ++ tableG hs (prevAt (collectL hs) (k + 1)) ((collectL hs).drop (k + 1)) by rw [HR.out, HN2.out, if_pos hnm])
              have hy1 : (y.mark.toList == g.mark.toList) = true := by rw [str_eq]; simpa using hnm
              have hy2 : y.mark.toList = g.mark.toList := by simpa using hy1
              clear hnm
              go_wp2
              go_roundw
              case rel => exact ⟨k + 1, acc, by omega, by go_num, hacc2, by omega, HR2, hb5⟩
              case measure => simp [intOf]; omega
            · have HR2 := Lib.hid (show progTable hs = (acc ++ [(g.mark, y.mark)]) ++ tableG hs (prevAt (collectL hs) (k + 1)) ((collectL hs).drop (k + 1)) by rw [HR.out, HN2.out, if_neg hnm]; simp)
              have hy1 : (y.mark.toList == g.mark.toList) = false := by rw [str_eq]; simpa using hnm
              have hy2 : ¬ y.mark.toList = g.mark.toList := by simpa using hy1
              go_wp2_with (at_builtin; refine stop_intro ?_)
              refine stop_elim ?_
              refine wpList_append_rep rfl paS pairE_ w1.heap.size (.tmp 62) (.tmp 67) rfl rfl (hacc2.alloc paS _) rfl (ys := [(g.mark, y.mark)]) (SlRep.one_new paS (F := fun _ => False) ?hg (rfl : [Value.string g.mark, Value.string (y.mark)] = _) ?hF1) ?F ?n (by decide) ?hbase ?_
              case hg => rfl
              case hF1 => exact fun _ h => h.elim
              case F =>
                intro bb hbb
                rcases hbb with hbb | hbb
                · exact hbb.elim
                · subst hbb
                  exact ⟨by simp, fun he => by have := hacc.own_lt _ he; omega⟩
              case hbase => simp; omega
              case n => simp; omega
              intro v6 w6 hown6 hg6 hat6
              change World.grownBy _ w6 (Value.ownBlock (.slice A3 acc.length c3)) at hg6
              have hb6 := (hb5.alloc (by omega) _).grown hg6 (by simp; omega) (fun k hk => (hlta k hk).1)
              go_wp2
              go_roundw
              case rel => exact ⟨k + 1, _, by omega, by go_num, hown6, by rw [List.length_append, List.length_singleton]; omega, HR2, hb6⟩
              case measure => simp [intOf]; omega
    · go_wp2
      go_ret2
      refine ⟨_, rfl, ?_, hbw⟩
      rw [HS.out, List.drop_of_length_le (by omega)]
      simp only [tableG, List.append_nil]
      exact hacc.toSl paS
end Go.Proofs.Ytgnaknanpgfpnaa
