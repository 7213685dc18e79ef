/- The program's concordance: given. -/
import Derived.Test.YtgnaknanpgfpnaaGivenP
import Derived.Test.YtgnaknanpgfpnaaOwn
import Derived.Test.YtgnaknanpgfpnaaRange
import Derived.Test.YtgnaknanpgfpnaaCncA
import Derived.Test.YtgnaknanpgfpnaaCncB
namespace Go.Proofs.Ytgnaknanpgfpnaa
open Go.RowKit

set_option maxRecDepth 100000 in
set_option maxHeartbeats 8000000 in
theorem given_c (hs : List Shot) (v : Value) (w : World) (B : Nat) (hB : B ≤ w.heap.size) (h : Shots w B hs v) (hsm : hs.length ≤ 64) (hsu : ∀ s ∈ hs, s.units.length ≤ 256) :
    Calls Try.prog 39 #[v] w fun e w' => ∃ v', e = .returned v' ∧ OwnRep 4 (flat Given.enc) 38 w.heap.size w' (givenP hs) v' ∧ Below w.heap.size w w' := by
  obtain ⟨A, c, rfl, hc1, hc2, _⟩ := id h
  have HU := Lib.hid hsu
  clear hsu
  have HF := Lib.hid (show givenP hs = ((hs.drop 0).foldl givenS ([], fun _ => none)).1 from rfl)
  have hmm := @run_makeMap Try.prog
  go_enter Try.func39, Try.ntmps39
  go_wp2
  clear hmm
  go_loopw [3, 17] (fun o i wr => ∃ (k : Nat) (out : List Given) (now : Int → Option Int), k ≤ hs.length ∧ i = .int .i64 k ∧ OwnRep 4 (flat Given.enc) 38 (w.heap.size + 1) wr out o ∧ IntMap wr w.heap.size now ∧ Hid (GI out now) ∧ out.length ≤ 256 * k ∧ Hid (givenP hs = ((hs.drop k).foldl givenS (out, now)).1) ∧ Below w.heap.size w wr) (fun _ i _ => hs.length - (intOf i).toNat)
  case atStart => exact ⟨0, [], _, Nat.zero_le _, rfl, OwnRep.nil_, MapF.new w _ _ rfl, (show GI [] _ from fun u k hk => by cases hk), by simp, HF, (Below.refl _ _).alloc (Nat.le_refl _) _⟩
  case round =>
    obtain ⟨k, out, now, hk, rfl, hown, hm, HG, hol, HS, hb⟩ := hrel
    clear HF
    have hsz := hb.size
    have hml := hm.lt
    have hwr := h.below shS (hb.mono hB)
    by_cases hlt : k < hs.length
    · obtain ⟨x, hx⟩ := get_at hs hlt
      have HD := Lib.hid (drop_at hx)
      have hul := HU.out x (List.mem_of_getElem? hx)
      obtain ⟨b, off, v, rfl, hbB, g0, g1, hu⟩ := Shots.at_ hwr hx
      obtain ⟨A', c', rfl, hd1, hd2, _⟩ := id hu
      have hbr : b < wr.heap.size := by omega
      clear hx
      have HS1 := Lib.hid (show givenP hs = ((hs.drop (k + 1)).foldl givenS (givenS (out, now) x)).1 by rw [HS.out, HD.out]; rfl)
      clear HS HD
      have hbox : Below wr.heap.size wr (wr.alloc (.cells #[.int .i64 x.day, .slice A' x.units.length c'] 61)) := (Below.refl _ _).alloc (Nat.le_refl _) _
      obtain ⟨es, clock, hma, hget⟩ := hm
      obtain rfl : now = mget es := funext fun u => (hget u).symm
      clear hget
      have hltO := hown.own_lt
      go_wp2_with (with_reducible refine stop_range ?_)
      refine stop_elim ?_
      refine wpList_rng rfl (.tmp 21) rfl Try.underlying79 (hma.frame (hbox.block _ hml)) rfl (r := wr.heap.size + 1) (by simp) ?_
      intro w2 hm2 hi2 hw2
      have hb2 : Below w.heap.size w w2 := by rw [hw2]; exact (hb.trans (hbox.mono hsz)).alloc (by simp; omega) _
      have hz2 : w2.heap.size = wr.heap.size + 2 := by rw [hw2]; simp
      have hbw2 : Below wr.heap.size wr w2 := by rw [hw2]; exact hbox.alloc (by simp) _
      have c0 : w2.cell? ⟨wr.heap.size, 0, none⟩ = some (.int .i64 x.day) := by rw [hw2]; simp [World.cell?_alloc_lt]
      have c1 : w2.cell? ⟨wr.heap.size, 1, none⟩ = some (.slice A' x.units.length c') := by rw [hw2]; simp [World.cell?_alloc_lt]
      have hown2 := hown.below giS hbw2
      have HZ := Lib.hid hz2
      clear hw2 hz2
      obtain ⟨wo, rfl⟩ : ∃ wo : World, wo = wr := ⟨_, rfl⟩
      go_wp2
      go_frame
      go_loopg [7] es.length (fun gk _ wi => ∃ seen : List Nat, (es.filter fun e => !decide (e.2.2 ∈ seen)).length ≤ gk ∧ MapAt wi w.heap.size (fun n : Int => Value.int .i64 n) (fun n : Int => Value.int .i64 n) (esD es (keepB x out) seen) clock ∧ IterAt wi (wo.heap.size + 1) w.heap.size clock seen ∧ OwnRep 4 (flat Given.enc) 38 (w.heap.size + 1) wi (outD es (keepB x out) out x.day seen) u3 ∧ Below w.heap.size w wi ∧ wi.cell? ⟨wo.heap.size, 0, none⟩ = some (.int .i64 x.day) ∧ wi.cell? ⟨wo.heap.size, 1, none⟩ = some (.slice A' x.units.length c') ∧ wo.heap.size + 2 ≤ wi.heap.size)
      case atStart => exact ⟨[], List.length_filter_le _ _, by rw [esD_nil]; exact hm2, hi2, by rw [outD_nil]; exact hown2, hb2, c0, c1, Nat.le_of_eq HZ.out.symm⟩
      case round =>
        obtain ⟨seen, hgk, hmi, hii, howni, hbi, d0, d1, hzi⟩ := hrel
        clear c0 c1 hown2 hb2 hbw2 hi2 hm2 HZ
        go_wp2_with (with_reducible refine stop_next ?_)
        refine stop_elim ?_
        refine wpList_nxt rfl (.tmp 22) rfl hmi hii rfl ?_ ?_
        · intro hall
          have hmF : IntMap wr w.heap.size (closeNow x out (mget es)) := ⟨_, clock, hmi, fun u => by rw [esD_end hma.keys hall]; rfl⟩
          rw [outD_end hma.keys HG.out hall] at howni
          have HG2 := Lib.hid (HG.out.close x)
          have hol1 : (closeOut x out (mget es)).length ≤ 256 * k := by rw [closeOut_len]; exact hol
          have HS2 := Lib.hid (show givenP hs = ((hs.drop (k + 1)).foldl givenS (openU x.day x.units (closeOut x out (mget es)) (closeNow x out (mget es)))).1 from HS1.out)
          generalize closeOut x out (mget es) = out1 at *
          generalize closeNow x out (mget es) = now1 at *
          have HO := Lib.hid (show openU x.day x.units out1 now1 = openU x.day (x.units.drop 0) out1 now1 from rfl)
          have hob : u3.ownBlock ≠ some wo.heap.size := fun he => by have := (hltO _ he).2; omega
          clear HS1 hall hmi hii hgk
          obtain ⟨wp, rfl⟩ : ∃ wp : World, wp = wr := ⟨_, rfl⟩
          go_wp2
          go_loopw [3, 59] (fun o i wi => ∃ (n : Nat) (out' : List Given) (now' : Int → Option Int), n ≤ x.units.length ∧ i = .int .i64 n ∧ OwnRep 4 (flat Given.enc) 38 (w.heap.size + 1) wi out' o ∧ o.ownBlock ≠ some wo.heap.size ∧ IntMap wi w.heap.size now' ∧ Hid (GI out' now') ∧ out'.length ≤ 256 * k + n ∧ Hid (openU x.day x.units out1 now1 = openU x.day (x.units.drop n) out' now') ∧ Below w.heap.size w wi ∧ wi.cell? ⟨wo.heap.size, 0, none⟩ = some (.int .i64 x.day) ∧ wo.heap.size + 2 ≤ wi.heap.size) (fun _ i _ => x.units.length - (intOf i).toNat)
          case atStart => exact ⟨0, out1, now1, Nat.zero_le _, rfl, howni, hob, hmF, HG2, by omega, HO, hbi, d0, hzi⟩
          case round =>
            clear howni hob hmF HG2 HO hbi d0 d1 hzi hol1
            obtain ⟨n, out', now', hn, rfl, hown', hob, hm', HG', hol', HO, hbi, d0, hzi⟩ := hrel
            obtain ⟨A3, c3, ho3, hle3, hc3, -⟩ := id (hown'.toSl giS)
            subst ho3
            have hml' := hm'.lt
            by_cases hnl : n < x.units.length
            · obtain ⟨s, hy⟩ := get_at x.units hnl
              have HDs := Lib.hid (drop_at hy)
              obtain ⟨b2, off2, hA2, hbB2, y0, y1, y2, y3, y4⟩ := Units.at_ (hu.below stS (below_turn (hb.mono hB) (hbi.mono hB) (by omega))) hy
              subst hA2
              have hbw2 : b2 < wr.heap.size := by omega
              have hx1 : Below wr.heap.size wr (wr.alloc (.cells #[.int .i64 s.unit, .int .i64 s.parent, .int .i64 s.level, .string s.mark, .string s.title] 46)) := (Below.refl _ _).alloc (Nat.le_refl _) _
              have hm1 := hm'.below hx1 hml'
              have hb9 := hbi.trans (hx1.mono (by omega))
              have hown9 := hown'.below giS hx1
              have hbo : wo.heap.size < wr.heap.size := by omega
              clear hy
              cases hnw : now' s.unit with
              | some q =>
                have HR := Lib.hid (show openU x.day x.units out1 now1 = openU x.day (x.units.drop (n + 1)) out' now' by rw [HO.out, HDs.out, openU, if_neg (by simp [hnw])])
                go_wp2_with (at_lookup; refine stop_intro ?_)
                refine stop_elim ?_
                refine wpList_look rfl (.tmp 64) (.tmp 66) 79 true rfl intKind Try.underlying79 (zeroInt _) hm1 rfl s.unit rfl (.tuple #[.int .i64 q, .bool true]) (by rw [hnw]; rfl) ?_
                clear hnw
                go_wp2
                go_roundw
                case rel => exact ⟨n + 1, out', now', by omega, by go_num, hown9, hob, hm1, HG', by omega, HR, hb9, (hx1.cell (p := ⟨wo.heap.size, 0, none⟩) hbo).trans d0, by simp; omega⟩
                case measure => simp [intOf]; omega
              | none =>
                by_cases hmk : s.mark.size = 0
                · have hk1 : s.mark.toList.isEmpty = true := by rw [str_empty]; simpa using hmk
                  have hk2' : s.mark.toList = [] := by simpa using hk1
                  have HR := Lib.hid (show openU x.day x.units out1 now1 = openU x.day (x.units.drop (n + 1)) out' now' by rw [HO.out, HDs.out, openU, if_neg (fun h => h.2 hmk)])
                  clear hmk
                  go_wp2_with (at_lookup; refine stop_intro ?_)
                  refine stop_elim ?_
                  refine wpList_look rfl (.tmp 64) (.tmp 66) 79 true rfl intKind Try.underlying79 (zeroInt _) hm1 rfl s.unit rfl (.tuple #[.int .i64 0, .bool false]) (by rw [hnw]; rfl) ?_
                  clear hnw
                  go_wp2
                  go_roundw
                  case rel => exact ⟨n + 1, out', now', by omega, by go_num, hown9, hob, hm1, HG', by omega, HR, hb9, (hx1.cell (p := ⟨wo.heap.size, 0, none⟩) hbo).trans d0, by simp; omega⟩
                  case measure => simp [intOf]; omega
                · have hk1 : s.mark.toList.isEmpty = false := by rw [str_empty]; simpa using hmk
                  have hk2' : ¬ s.mark.toList = [] := by simpa using hk1
                  have HR := Lib.hid (show openU x.day x.units out1 now1 = openU x.day (x.units.drop (n + 1)) (out' ++ [⟨s.mark, s.unit, x.day, 1048576⟩]) (upd now' s.unit out'.length) by rw [HO.out, HDs.out, openU, if_pos ⟨hnw, hmk⟩])
                  have HGn := Lib.hid (HG'.out.push ⟨s.mark, s.unit, x.day, 1048576⟩)
                  go_wp2_with (at_lookup; refine stop_intro ?_)
                  refine stop_elim ?_
                  refine wpList_look rfl (.tmp 64) (.tmp 66) 79 true rfl intKind Try.underlying79 (zeroInt _) hm1 rfl s.unit rfl (.tuple #[.int .i64 0, .bool false]) (by rw [hnw]; rfl) ?_
                  clear hnw hmk
                  go_wp2_with (at_mapUpdate; refine stop_intro ?_)
                  refine stop_elim ?_
                  refine wpList_mapPut rfl (.tmp 77) (.tmp 79) (.tmp 81) 79 (.inl rfl) intKind Try.underlying79 hm1 rfl s.unit rfl (out'.length : Int) rfl ?_
                  intro w5 hm5 hg5
                  have hs5 := hg5.size
                  simp only [World.size_alloc] at hs5
                  have hblk5 : ∀ bb, bb < wr.heap.size + 1 → bb ≠ w.heap.size → w5.heap[bb]? = (wr.alloc (.cells #[.int .i64 s.unit, .int .i64 s.parent, .int .i64 s.level, .string s.mark, .string s.title] 46)).heap[bb]? := fun bb h1 h2 => hg5.block bb (by simpa using h1) (by simpa using h2)
                  have z0 : w5.cell? ⟨wr.heap.size, 0, none⟩ = some (.int .i64 s.unit) := (World.cell?_of_block (a := ⟨wr.heap.size, 0, none⟩) (hblk5 wr.heap.size (by omega) (by omega))).trans (by simp)
                  have z3 : w5.cell? ⟨wr.heap.size, 3, none⟩ = some (.string s.mark) := (World.cell?_of_block (a := ⟨wr.heap.size, 3, none⟩) (hblk5 wr.heap.size (by omega) (by omega))).trans (by simp)
                  have d5 : w5.cell? ⟨wo.heap.size, 0, none⟩ = some (.int .i64 x.day) := (World.cell?_of_block (a := ⟨wo.heap.size, 0, none⟩) (hblk5 wo.heap.size (by omega) (by omega))).trans ((hx1.cell (p := ⟨wo.heap.size, 0, none⟩) hbo).trans d0)
                  have hlt' := hown'.own_lt
                  have hown5 := hown9.keep (w' := w5) (fun bb hbb => hblk5 bb (by have := hlt' bb hbb; omega) (by have := hlt' bb hbb; omega))
                  have hb5 := hb9.grown hg5 (by simp; omega) (fun k hk => by injection hk; omega)
                  have hml5 := hm5.lt
                  go_wp2_with (at_builtin; refine stop_intro ?_)
                  refine stop_elim ?_
                  refine wpList_append_rep rfl giS givenE_ (w.heap.size + 1) (.tmp 82) (.tmp 90) rfl rfl (hown5.alloc giS _) rfl (ys := [⟨s.mark, s.unit, x.day, 1048576⟩]) (SlRep.one_new giS (F := fun _ => False) ?hg (rfl : [Value.string s.mark, .int .i64 s.unit, .int .i64 x.day, .int .i64 1048576] = _) ?hF1) ?F ?n (by decide) ?hbase ?_
                  case hg => rfl
                  case hF1 => exact fun _ h => h.elim
                  case F =>
                    intro bb hbb
                    rcases hbb with hbb | hbb
                    · exact hbb.elim
                    · subst hbb
                      exact ⟨by simp, fun he => by have := hown5.own_lt _ he; omega⟩
                  case hbase => simp; omega
                  case n => simp; omega
                  intro v6 w6 hown6 hg6 hat6
                  change World.grownBy _ w6 (Value.ownBlock (.slice A3 out'.length c3)) at hg6
                  change v6.ownBlock = Value.ownBlock (.slice A3 out'.length c3) ∨ v6.ownBlock = some _ at hat6
                  have hs6 := hg6.size
                  simp only [World.size_alloc] at hs6 hat6
                  have hb6 := (hb5.alloc (by omega) _).grown hg6 (by simp; omega) (fun k hk => by have := (hlt' k hk).1; omega)
                  have hm6 := (hm5.below ((Below.refl _ _).alloc (Nat.le_refl _) _) hml5).frame (w' := w6) (hg6.block _ (by simp; omega) (fun he => by have := (hlt' _ he.symm).1; omega))
                  have d6 : w6.cell? ⟨wo.heap.size, 0, none⟩ = some (.int .i64 x.day) := (World.cell?_of_block (a := ⟨wo.heap.size, 0, none⟩) (hg6.block _ (by show wo.heap.size < _; simp; omega) (fun he => hob he.symm))).trans ((World.cell?_alloc_lt _ _ _ (by show wo.heap.size < _; omega)).trans d5)
                  have hob6 : v6.ownBlock ≠ some wo.heap.size := by
                    rcases hat6 with h | h
                    · rw [h]; exact hob
                    · rw [h]; intro he; injection he; omega
                  go_wp2
                  go_roundw
                  case rel => exact ⟨n + 1, _, _, by omega, by go_num, hown6, hob6, hm6, HGn, by simp; omega, HR, hb6, d6, by omega⟩
                  case measure => simp [intOf]; omega
            · have HE := Lib.hid (show givenP hs = ((hs.drop (k + 1)).foldl givenS (out', now')).1 by rw [HS2.out, HO.out, List.drop_of_length_le (by omega)]; rfl)
              go_wp2
              go_roundw
              case rel => exact ⟨k + 1, out', now', by omega, by go_num, hown', hm', HG', by omega, HE, hbi⟩
              case measure => simp [intOf]; omega
        · rintro ⟨eu, ek, et⟩ he hes w3 hm3 hi3 hg3
          have heM : (eu, ek, et) ∈ es := (List.mem_filter.1 he).1
          obtain ⟨hek, g, hg, hgu⟩ := HG.out eu ek ((mget_mem hma.keys).2 ⟨et, heM⟩)
          obtain ⟨kn, rfl⟩ := Int.eq_ofNat_of_zero_le hek
          rw [Int.toNat_natCast] at hg
          have hkn : kn < out.length := lt_of_at hg
          have hs3 := hg3.size
          have hb3 : Below w.heap.size w w3 := hbi.grown hg3 (by omega) (fun k hk => by injection hk; omega)
          have f0 : w3.cell? ⟨wo.heap.size, 0, none⟩ = some (.int .i64 x.day) := (World.cell?_of_block (a := ⟨wo.heap.size, 0, none⟩) (hg3.block _ (by show wo.heap.size < _; omega) (by simp))).trans d0
          have f1 : w3.cell? ⟨wo.heap.size, 1, none⟩ = some (.slice A' x.units.length c') := (World.cell?_of_block (a := ⟨wo.heap.size, 1, none⟩) (hg3.block _ (by show wo.heap.size < _; omega) (by simp))).trans d1
          have hown3 := howni.keep (w' := w3) (fun b hb => hg3.block b (by have := hltO b hb; omega) (fun he => by injection he; have := hltO b hb; omega))
          have hu3 := hu.below stS (below_turn (hb.mono hB) (hb3.mono hB) (by omega))
          have HC := Lib.hid (cfind_c eu x.units _ w3 B (by omega) hu3)
          obtain ⟨gq, hgq⟩ := get_at (outD es (keepB x out) out x.day seen) (show kn < _ by rw [outD_len]; exact hkn)
          have hgqm : gq.mark = g.mark := by
            have h1 : (outD es (keepB x out) out x.day seen)[kn]? = some (if es.any (fun e => decide (e.2.2 ∈ seen) && !keepB x out e.1 e.2.1 && decide (e.2.1 = (kn : Int))) then endAt x.day g else g) := by simp [outD, hg]
            rw [h1] at hgq
            injection hgq with hgq
            rw [← hgq]
            split <;> rfl
          have HGQ := Lib.hid hgqm
          clear hgqm
          obtain ⟨gb, cap, hv3, hgb1, hgb2, hcap1, hcap2, _, hcells⟩ := hown3.open_ giS (by rw [outD_len]; omega)
          rw [outD_len] at hv3 hcap1
          subst hv3
          have q0 := (hcells kn gq 0 _ hgq rfl).1
          have q3 := hcells kn gq 3 _ hgq rfl
          have HCells := Lib.hid hcells
          clear hcells
          have hgbo := (hltO gb rfl).2
          go_wp2_with (with_reducible refine stop_entry ?_)
          refine stop_elim ?_
          refine wpList_ent rfl (.tmp 22) rfl hm3 he hi3 rfl ?_
          rcases idxF_cases (fun y : Standing => y.unit == eu) x.units with ⟨hf, hn⟩ | ⟨kk, y, hf, hkk, hy, hn⟩
          · have HK := Lib.hid (show keepB x out eu kn = false by simp only [keepB, hn])
            rw [hf] at HC
            clear hf hn
            go_wp2_with fail
            refine HC.out.mono ?_
            rintro e w4 ⟨rfl, hb4⟩
            have e0 := (hb4.cell (p := ⟨wo.heap.size, 0, none⟩) (by show wo.heap.size < _; omega)).trans f0
            have e1 := (hb4.cell (p := ⟨wo.heap.size, 1, none⟩) (by show wo.heap.size < _; omega)).trans f1
            have e2 := (hb4.cell (p := ⟨gb, kn * 4 + 3, none⟩) (by show gb < _; omega)).trans q3.1
            have e3 := (hb4.frozen (p := ⟨gb, kn * 4 + 3, none⟩) (by show gb < _; omega)).trans q3.2
            go_wp2
            go_quiet (fail)
            go_wp2_with (at_delete; refine stop_intro ?_)
            refine stop_elim ?_
            refine wpList_del rfl (.tmp 54) (.tmp 55) rfl intKind Try.underlying79 (w := (w4.drewN nq).setCell ⟨gb, kn * 4 + 3, none⟩ (.int .i64 x.day)) ((hm3.frame (hb4.block _ (by omega))).frame (Below.heap_setCell _ _ _ _ (by show w.heap.size ≠ gb; omega))) rfl eu rfl ?_
            intro w6 hm6 hg6
            have hs4 := hb4.size
            have hsz6 := hg6.size
            simp only [World.size_setCell] at hsz6
            change w4.heap.size ≤ w6.heap.size at hsz6
            have hb6 : Below w.heap.size w w6 := ((below_drewN (hb3.trans (hb4.mono (by omega))) nq).setCell (by show w.heap.size ≤ gb; omega) _).grown hg6 (by simp only [World.size_setCell]; show w.heap.size ≤ w4.heap.size; omega) (fun k hk => by injection hk; omega)
            have hblk : ∀ bb, bb < w4.heap.size → bb ≠ w.heap.size → bb ≠ gb → w6.heap[bb]? = w4.heap[bb]? := fun bb h1 h2 h3 => (hg6.block bb (by simp only [World.size_setCell]; exact h1) (by simpa using h2)).trans (Below.heap_setCell _ _ _ _ h3)
            have hown5 := ((hown3.below giS hb4).set_ giS (x' := endAt x.day gq) (j := 3) (u := .int .i64 x.day) hgq (by decide) rfl)
            have hown6 := hown5.keep (w' := w6) (fun bb hbb => by
              have hbb' : gb = bb := by injection hbb
              subst hbb'
              exact (hg6.block gb (by simp only [World.size_setCell]; show gb < w4.heap.size; omega) (by simp; omega)).trans rfl)
            have hod := outD_drop (es := es) (keep := keepB x out) (out := out) (day := x.day) hma.born heM HK.out (Int.natCast_nonneg kn) (g := gq) (by simpa using hgq)
            simp only [Int.toNat_natCast] at hod
            have hed := esD_drop (es := es) (keep := keepB x out) (seen := seen) hma.born hma.keys heM HK.out
            rw [hod] at hown6
            simp only at hed hm6
            rw [hed] at hm6
            have hun := unseen_less heM hes
            clear hod hed
            go_wp2
            go_roundg ((es.filter fun e => !decide (e.2.2 ∈ seen ++ [et])).length)
            case measure => exact Nat.lt_of_lt_of_le hun hgk
            case rel =>
              refine ⟨seen ++ [et], Nat.le_refl _, hm6, ?_, hown6, hb6, ?_, ?_, by omega⟩
              · exact (hi3.frame ((hblk _ (by omega) (by omega) (by omega)).trans (hb4.block _ (by omega))))
              · exact (World.cell?_of_block (a := ⟨wo.heap.size, 0, none⟩) (hblk wo.heap.size (by omega) (by omega) (by omega))).trans e0
              · exact (World.cell?_of_block (a := ⟨wo.heap.size, 1, none⟩) (hblk wo.heap.size (by omega) (by omega) (by omega))).trans e1
          · have hkl : kk < x.units.length := lt_of_at hkk
            obtain ⟨b9, off9, hA9, hbB9, -, -, -, y3, -⟩ := Units.at_ hu3 hkk
            subst hA9
            rw [hf] at HC
            clear hf
            by_cases hmk : y.mark = g.mark
            · have HK := Lib.hid (show keepB x out eu kn = true by simp only [keepB, hn, Int.toNat_natCast, hg]; simp [hmk])
              have hmt : y.mark.toList = gq.mark.toList := by rw [HGQ.out, hmk]
              have hmt2 : (y.mark.toList == gq.mark.toList) = true := by simp [hmt]
              have hk0 : decide ((kk : Int) < 0) = false := by simp
              clear hn hkk hmk
              go_wp2_with fail
              refine HC.out.mono ?_
              rintro e w4 ⟨rfl, hb4⟩
              have e0 := (hb4.cell (p := ⟨wo.heap.size, 0, none⟩) (by show wo.heap.size < _; omega)).trans f0
              have e1 := (hb4.cell (p := ⟨wo.heap.size, 1, none⟩) (by show wo.heap.size < _; omega)).trans f1
              have e4 := (hb4.cell (p := ⟨gb, kn * 4, none⟩) (by show gb < _; omega)).trans q0
              have e5 := (hb4.cell (p := ⟨b9, off9 + kk * 5 + 3, none⟩) (by show b9 < _; omega)).trans y3
              go_wp2
              go_quiet (fail)
              go_wp2
              have hs4 := hb4.size
              have hun := unseen_less heM hes
              go_roundg ((es.filter fun e => !decide (e.2.2 ∈ seen ++ [et])).length)
              case measure => exact Nat.lt_of_lt_of_le hun hgk
              case rel =>
                refine ⟨seen ++ [et], Nat.le_refl _, ?_, ?_, ?_, below_drewN (hb3.trans (hb4.mono (by omega))) nq, e0, e1, by show _ ≤ w4.heap.size; omega⟩
                · have hed := esD_keep (es := es) (keep := keepB x out) (seen := seen) hma.born heM HK.out
                  simp only at hed
                  rw [hed]
                  exact hm3.frame (hb4.block _ (by omega))
                · exact hi3.frame (hb4.block _ (by omega))
                · have hod := outD_keep (es := es) (keep := keepB x out) (out := out) (day := x.day) (seen := seen) hma.born heM HK.out
                  simp only at hod
                  rw [hod]
                  exact (hown3.below giS hb4).keep (fun _ _ => rfl)
            · have HK := Lib.hid (show keepB x out eu kn = false by simp only [keepB, hn, Int.toNat_natCast, hg]; simp [hmk])
              have hmt : ¬ y.mark.toList = gq.mark.toList := by rw [HGQ.out, str_iff]; exact hmk
              have hmt2 : (y.mark.toList == gq.mark.toList) = false := by simp [hmt]
              have hk0 : decide ((kk : Int) < 0) = false := by simp
              clear hn hkk
              go_wp2_with fail
              refine HC.out.mono ?_
              rintro e w4 ⟨rfl, hb4⟩
              have e0 := (hb4.cell (p := ⟨wo.heap.size, 0, none⟩) (by show wo.heap.size < _; omega)).trans f0
              have e1 := (hb4.cell (p := ⟨wo.heap.size, 1, none⟩) (by show wo.heap.size < _; omega)).trans f1
              have e2 := (hb4.cell (p := ⟨gb, kn * 4 + 3, none⟩) (by show gb < _; omega)).trans q3.1
              have e3 := (hb4.frozen (p := ⟨gb, kn * 4 + 3, none⟩) (by show gb < _; omega)).trans q3.2
              have e4 := (hb4.cell (p := ⟨gb, kn * 4, none⟩) (by show gb < _; omega)).trans q0
              have e5 := (hb4.cell (p := ⟨b9, off9 + kk * 5 + 3, none⟩) (by show b9 < _; omega)).trans y3
              go_wp2
              go_quiet (fail)
              go_wp2_with (at_delete; refine stop_intro ?_)
              refine stop_elim ?_
              refine wpList_del rfl (.tmp 54) (.tmp 55) rfl intKind Try.underlying79 (w := (w4.drewN nq).setCell ⟨gb, kn * 4 + 3, none⟩ (.int .i64 x.day)) ((hm3.frame (hb4.block _ (by omega))).frame (Below.heap_setCell _ _ _ _ (by show w.heap.size ≠ gb; omega))) rfl eu rfl ?_
              intro w6 hm6 hg6
              have hs4 := hb4.size
              have hsz6 := hg6.size
              simp only [World.size_setCell] at hsz6
              change w4.heap.size ≤ w6.heap.size at hsz6
              have hb6 : Below w.heap.size w w6 := ((below_drewN (hb3.trans (hb4.mono (by omega))) nq).setCell (by show w.heap.size ≤ gb; omega) _).grown hg6 (by simp only [World.size_setCell]; show w.heap.size ≤ w4.heap.size; omega) (fun k hk => by injection hk; omega)
              have hblk : ∀ bb, bb < w4.heap.size → bb ≠ w.heap.size → bb ≠ gb → w6.heap[bb]? = w4.heap[bb]? := fun bb h1 h2 h3 => (hg6.block bb (by simp only [World.size_setCell]; exact h1) (by simpa using h2)).trans (Below.heap_setCell _ _ _ _ h3)
              have hown5 := ((hown3.below giS hb4).set_ giS (x' := endAt x.day gq) (j := 3) (u := .int .i64 x.day) hgq (by decide) rfl)
              have hown6 := hown5.keep (w' := w6) (fun bb hbb => by
                have hbb' : gb = bb := by injection hbb
                subst hbb'
                exact (hg6.block gb (by simp only [World.size_setCell]; show gb < w4.heap.size; omega) (by simp; omega)).trans rfl)
              have hod := outD_drop (es := es) (keep := keepB x out) (out := out) (day := x.day) hma.born heM HK.out (Int.natCast_nonneg kn) (g := gq) (by simpa using hgq)
              simp only [Int.toNat_natCast] at hod
              have hed := esD_drop (es := es) (keep := keepB x out) (seen := seen) hma.born hma.keys heM HK.out
              rw [hod] at hown6
              simp only at hed hm6
              rw [hed] at hm6
              have hun := unseen_less heM hes
              clear hod hed
              go_wp2
              go_roundg ((es.filter fun e => !decide (e.2.2 ∈ seen ++ [et])).length)
              case measure => exact Nat.lt_of_lt_of_le hun hgk
              case rel =>
                refine ⟨seen ++ [et], Nat.le_refl _, hm6, ?_, hown6, hb6, ?_, ?_, by omega⟩
                · exact (hi3.frame ((hblk _ (by omega) (by omega) (by omega)).trans (hb4.block _ (by omega))))
                · exact (World.cell?_of_block (a := ⟨wo.heap.size, 0, none⟩) (hblk wo.heap.size (by omega) (by omega) (by omega))).trans e0
                · exact (World.cell?_of_block (a := ⟨wo.heap.size, 1, none⟩) (hblk wo.heap.size (by omega) (by omega) (by omega))).trans e1
    · go_wp2
      go_ret
      refine ⟨_, rfl, ?_, hb⟩
      rw [HS.out, List.drop_of_length_le (by omega)]
      exact hown.base_le (Nat.le_succ _)
end Go.Proofs.Ytgnaknanpgfpnaa
