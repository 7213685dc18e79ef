/- search of the house. -/
import Derived.Test.YthabpkigflldmaaSrB
namespace Go.Proofs.Ythabpkigflldmaa
open Go.RowKit

abbrev zReached : Obj := .cells #[.slice none 0 0, .slice none 0 0] 68
theorem set2_all (W : World) (g : Nat) (a b a' b' : Value) (h0 : W.cell? ⟨g, 0, none⟩ = some a') (h1 : W.cell? ⟨g, 1, none⟩ = some b') : ((W.setCell ⟨g, 0, none⟩ a).setCell ⟨g, 1, none⟩ b).cell? ⟨g, 0, none⟩ = some a ∧ ((W.setCell ⟨g, 0, none⟩ a).setCell ⟨g, 1, none⟩ b).cell? ⟨g, 1, none⟩ = some b := by
  have o : ∀ (W : World) (i j : Nat) (v : Value), i ≠ j → (W.setCell ⟨g, i, none⟩ v).cell? ⟨g, j, none⟩ = W.cell? ⟨g, j, none⟩ := fun W i j v hij => World.cell?_setCell_other W _ _ v (fun he => hij (by injection he))
  refine ⟨?_, World.cell?_setCell_same' _ _ _ (by rw [o _ 0 1 _ (by decide), h1]; rfl)⟩
  rw [o _ 1 0 _ (by decide)]
  exact World.cell?_setCell_same' _ _ _ (by rw [h0]; rfl)
set_option maxRecDepth 100000 in
set_option maxHeartbeats 8000000 in
theorem search_c (ls : List Shelf) (bs : List Box) (s0 : List Int) (vl vb va : Value) (w : World) (B : Nat) (hB : B ≤ w.heap.size) (hl : Shelves w B ls vl) (hbx : Boxes w B bs vb) (ha : Ints w B s0 va) (hst : startE ls bs = 0) (hg : Good ls bs s0) :
    Calls Try.prog 41 #[.agg #[vl, vb], va] w fun e w' => ∃ bm f, e = .returned (.map (some bm)) ∧ w.heap.size ≤ bm ∧ MInv ls (reachF ls bs s0) bm (fun b => b < w'.heap.size ∧ b ≠ bm) f w' ∧ Below w.heap.size w w' := by
  have HKY := Lib.hid (fun (x : List Int) (vx : Value) (W : World) (hW : Below w.heap.size w W) (hx : SlRep 1 (flat intEnc) W (fun b => b < W.heap.size) x vx) (hr : Right ls bs x) => key_c ls bs x vl vb vx W W.heap.size (Nat.le_refl _) ((hl.below shS (hW.mono hB)).mono shS (Nat.le_trans hB hW.size)) (by obtain ⟨A, c, rfl, _⟩ := id hbx; exact ⟨_, _, _, rfl⟩) hx hst hr)
  have HSP := Lib.hid (fun (x : List Int) (vx : Value) (W : World) (hW : Below w.heap.size w W) (hx : SlRep 1 (flat intEnc) W (fun b => b < W.heap.size) x vx) (hr : Right ls bs x) => steps_c ls bs x vl vb vx W W.heap.size (Nat.le_refl _) ((hl.below shS (hW.mono hB)).mono shS (Nat.le_trans hB hW.size)) ((hbx.below boS (hW.mono hB)).mono boS (Nat.le_trans hB hW.size)) hx hst hr)
  have HIX := Lib.hid (fun (u : Int) (W : World) (hW : Below w.heap.size w W) => hindex_c u bs vl vb W B (Nat.le_trans hB hW.size) (hbx.below boS (hW.mono hB)) (by obtain ⟨A, c, rfl, _⟩ := id hl; exact ⟨_, _, _, rfl⟩))
  have H0 := Lib.hid hst
  have HG0 := Lib.hid (KGood.start hg)
  have h128 := (boxes_ok (start_ok hst).2.1).1
  have HR0 := Lib.hid hg.1
  clear hst hg
  obtain ⟨A, c, rfl, hc1, hc2, _⟩ := id hl
  obtain ⟨A', c', rfl, hd1, hd2, _⟩ := id hbx
  obtain ⟨A2, c2, rfl, he1, he2, _⟩ := id ha
  generalize hVL : Value.slice A ls.length c = vl at *
  generalize hVB : Value.slice A' bs.length c' = vb at *
  have HVL := Lib.hid hVL
  have HVB := Lib.hid hVB
  clear hVL hVB
  have hmm := @run_makeMap Try.prog
  have b0 : Below w.heap.size w ((w.alloc (houseC vl vb)).alloc (.map #[] 0)) := ((Below.refl _ _).alloc (Nat.le_refl _) _).alloc (by simp) _
  have b00 : Below (w.heap.size + 1) (w.alloc (houseC vl vb)) ((w.alloc (houseC vl vb)).alloc (.map #[] 0)) := (Below.refl _ _).alloc (by simp) _
  go_enter Try.func41, Try.ntmps41
  go_wp2_with fail
  refine (HKY.out _ _ _ b0 ((ha.below inS (b0.mono hB)).mono inS (Nat.le_trans hB b0.size)) HR0.out).mono ?_
  rintro e w1 ⟨rfl, hb1⟩
  simp only [World.size_alloc] at hb1
  have hs1 := hb1.size
  simp only [World.size_alloc] at hs1
  have hm1 : MapF w1 (w.heap.size + 1) Value.string pairEnc (fun _ => none) := MapF.below (MapF.new (w.alloc (houseC vl vb)) Value.string pairEnc (by simp)) hb1 (by omega)
  have bX1 : Below (w.heap.size + 1) (w.alloc (houseC vl vb)) w1 := b00.trans (hb1.mono (by omega))
  go_wp2_with (with_reducible refine stop_insert ?_)
  refine stop_elim ?_
  refine wpList_mapPut rfl (.tmp 13) (.tmp 16) (.tmp 18) 70 (.inr rfl) strKind Try.underlying70 hm1 rfl (keyB ls s0) rfl (.slice A2 s0.length c2, .slice none 0 0) rfl ?_
  intro w2 hm2 hg2
  have bX2 : Below (w.heap.size + 1) (w.alloc (houseC vl vb)) w2 := bX1.grown hg2 (by omega) (fun k hk => by injection hk; omega)
  have hs2 := bX2.size
  simp only [World.size_alloc] at hs2
  have hml2 := hm2.lt
  have BW2 : Below w.heap.size w w2 := ((Below.refl _ _).alloc (Nat.le_refl _) _).trans (bX2.mono (by omega))
  have HS0 := Lib.hid (show SInv ls (w.heap.size + 1) 0 [(s0, [])] (w.heap.size + 1) (.slice (some ⟨w2.heap.size, 0, none⟩) 1 1) (w2.alloc (.cells #[.slice A2 s0.length c2] 26)) by
    have bq : Below w2.heap.size w2 (w2.alloc (.cells #[.slice A2 s0.length c2] 26)) := (Below.refl _ _).alloc (Nat.le_refl _) _
    have hr : SlRep 1 (flat intEnc) (w2.alloc (.cells #[.slice A2 s0.length c2] 26)) (Fr (w2.alloc (.cells #[.slice A2 s0.length c2] 26)) (w.heap.size + 1) (.slice (some ⟨w2.heap.size, 0, none⟩) 1 1)) s0 (.slice A2 s0.length c2) := by
      refine (ha.below inS ((BW2.trans (bq.mono (by omega))).mono hB)).monoF inS (fun b hb => ⟨?_, ?_, ?_⟩)
      · simp; omega
      · omega
      · intro e; injection e with e; (first | (simp only at e; omega) | (subst e; omega))
    refine ⟨⟨upd (fun _ => none) (keyB ls s0) (.slice A2 s0.length c2, .slice none 0 0), hm2.below bq hml2, ?_, ?_⟩, ⟨[.slice A2 s0.length c2], QRow.one_new _ rfl (by omega), by simp, ?_⟩, Nat.le_refl _, by simp; omega, ?_⟩
    · intro e he
      simp at he
      subst he
      exact ⟨_, by rw [upd, if_pos rfl], hr, SlRep.nil_⟩
    · intro κ p hk
      unfold upd at hk
      split at hk
      · rename_i he; exact ⟨(s0, []), by simp, he⟩
      · cases hk
    · intro i e v he hv
      have hi := lt_of_at hv
      simp at hi
      subst hi
      simp at he hv
      subst he hv
      exact hr
    · intro e; injection e with e; simp only at e; omega)
  clear hmm hm1 hm2 hg2 b0 b00 bX1 hb1
  have bX3 : Below (w.heap.size + 1) (w.alloc (houseC vl vb)) (w2.alloc (.cells #[.slice A2 s0.length c2] 26)) := bX2.alloc (by omega) _
  go_wp2
  go_loopg [6] fuelN (fun gk q wr => ∃ (k : Nat) (out : Rows) (vq : Value), vq = q ∧ SInv ls (w.heap.size + 1) k out (w.heap.size + 1) vq wr ∧ Hid (KGood ls bs s0 gk k out) ∧ Below (w.heap.size + 1) (w.alloc (houseC vl vb)) wr)
  case atStart => exact ⟨0, _, _, rfl, HS0.out, HG0, bX3⟩
  case round =>
    clear HS0 HG0 bX2 bX3 BW2 hs1 hs2
    obtain ⟨k, out, vq, rfl, HSI, HG, hb⟩ := hrel
    have hs := hb.size
    simp only [World.size_alloc] at hs
    have hwlt : w.heap.size < wr.heap.size := by omega
    have B1 : Below w.heap.size w wr := ((Below.refl _ _).alloc (Nat.le_refl _) _).trans (hb.mono (by omega))
    have z0 := (hb.cell (p := ⟨w.heap.size, 0, none⟩) (by simp)).trans (show _ = some vl by simp)
    have z1 := (hb.cell (p := ⟨w.heap.size, 1, none⟩) (by simp)).trans (show _ = some vb by simp)
    by_cases hlt : k < out.length
    · obtain ⟨⟨s, p⟩, hsp⟩ := get_at out hlt
      obtain ⟨g', rfl, hBG⟩ := HG.out.open_ H0.out hsp
      have HBG := Lib.hid hBG
      have HRS := Lib.hid (hBG.good _ (List.mem_of_getElem? hsp)).1
      obtain ⟨gq, oq, nq, capq, vh, rfl, hn0, hncap, hcapq, hgq1, hgq2, hq0, hrh⟩ := HSI.head hsp
      obtain ⟨f, hf⟩ := HSI.mp
      obtain ⟨⟨pa, pp⟩, hfs, hpa, hpp⟩ := hf.has _ (List.mem_of_getElem? hsp)
      simp only at hpa hpp hrh
      have HFS := Lib.hid hfs
      have hbml := HSI.bml
      have hnz : (0 : Int) < (nq : Int) := by omega
      clear hfs hBG hsp HG
      obtain ⟨Aa, ca, ea, -⟩ := id hpa
      obtain ⟨Ap, cp, ep, -⟩ := id hpp
      subst ea ep
      have HKX := Lib.hid (fun (W : World) (hW : Below wr.heap.size wr W) => HKY.out s vh W (B1.trans (hW.mono (by omega))) ((hrh.frame inS (fun b hb => hW.block b hb.1)).monoF inS (fun b hb => Nat.lt_of_lt_of_le hb.1 hW.size)) HRS.out)
      have HLK := Lib.hid (fun (W : World) (hW : Below wr.heap.size wr W) => (look_hit strKind Try.underlying70 (zeroReached W) (hf.mp.below hW hbml) HFS.out rfl : (Instr.lookup 70 (.map (some (w.heap.size + 1))) (.string (keyB ls s)) false).run Try.prog W = .ok (.agg #[.slice Aa s.length ca, .slice Ap p.length cp]) W))
      have KEEP := Lib.hid (fun (w' : World) (hW : Below wr.heap.size wr w') => (⟨(hW.cell (p := ⟨w.heap.size, 0, none⟩) hwlt).trans z0, (hW.cell (p := ⟨w.heap.size, 1, none⟩) hwlt).trans z1, (hW.cell (p := ⟨gq, oq, none⟩) hgq2).trans hq0⟩ : w'.cell? ⟨w.heap.size, 0, none⟩ = some vl ∧ w'.cell? ⟨w.heap.size, 1, none⟩ = some vb ∧ w'.cell? ⟨gq, oq, none⟩ = some vh))
      have ZK := Lib.hid (fun (W W' : World) (hW : Below (W.heap.size + 1) (W.alloc zReached) W') => (⟨(hW.cell (p := ⟨W.heap.size, 0, none⟩) (by simp)).trans (by simp), (hW.cell (p := ⟨W.heap.size, 1, none⟩) (by simp)).trans (by simp), (hW.frozen (p := ⟨W.heap.size, 0, none⟩) (by simp)).trans (by simp), (hW.frozen (p := ⟨W.heap.size, 1, none⟩) (by simp)).trans (by simp), by have := hW.size; simp at this; omega⟩ : W'.cell? ⟨W.heap.size, 0, none⟩ = some (.slice none 0 0) ∧ W'.cell? ⟨W.heap.size, 1, none⟩ = some (.slice none 0 0) ∧ W'.frozen? ⟨W.heap.size, 0, none⟩ = false ∧ W'.frozen? ⟨W.heap.size, 1, none⟩ = false ∧ W.heap.size < W'.heap.size))
      go_upto_region 5 with fail
      go_cut [7] (fun s7 wx => ∃ gx : Nat, s7 = .pointer (some ⟨gx, 0, none⟩) ∧ wr.heap.size ≤ gx ∧ gx < wx.heap.size ∧ wx.cell? ⟨gx, 0, none⟩ = some (.slice Aa s.length ca) ∧ wx.cell? ⟨gx, 1, none⟩ = some (.slice Ap p.length cp) ∧ Below wr.heap.size wr wx)
      case first =>
        have hbX : Below wr.heap.size wr wr.drew := (Below.refl _ _).drew
        have hbA : Below wr.heap.size wr (wr.alloc zReached).drew := ((Below.refl _ _).alloc (Nat.le_refl _) _).drew
        have hbA1 : Below (wr.heap.size + 1) (wr.alloc zReached) (wr.alloc zReached).drew := (Below.refl _ _).drew
        have hgX : wr.heap.size ≤ wr.heap.size := Nat.le_refl _
        go_region_held3 (fun w' => w'.cell? ⟨w.heap.size, 0, none⟩ = some vl ∧ w'.cell? ⟨w.heap.size, 1, none⟩ = some vb ∧ w'.cell? ⟨gq, oq, none⟩ = some vh) (first | with_reducible exact KEEP.out _ hbX | with_reducible exact KEEP.out _ hbA | with_reducible exact KEEP.out _ (hbX.alloc hbX.size _) | exact KEEP.out _ ((hbX.setCell hgX _).setCell hgX _)) (first
          | (go_at_call 42; (with_reducible refine (HKX.out _ hbX).mono ?_); rintro e wK ⟨rfl, hbK⟩; have hbX := hbX.trans (hbK.mono hbX.size); have hlk := HLK.out _ hbX; have hlk2 := HLK.out _ (hbX.alloc hbX.size zReached); have tokA : True := trivial)
          | (go_at_call 42; (with_reducible refine (HKX.out _ hbA).mono ?_); rintro e wK ⟨rfl, hbK⟩; obtain ⟨y0, y1, y2, y3, y4⟩ := ZK.out wr wK (hbA1.trans (hbK.mono (by simp))); have hbX := hbA.trans (hbK.mono hbA.size); have hlk := HLK.out _ hbX))
        all_goals (go_wp2_with fail; go_meet)
        · exact ⟨_, rfl, hbX.size, by simp, by simp, by simp, hbX.alloc hbX.size _⟩
        · exact ⟨_, rfl, hbX.size, by simp, by simp, by simp, hbX.alloc hbX.size _⟩
        · obtain ⟨q0, q1⟩ := set2_all wK wr.heap.size (.slice Aa s.length ca) (.slice Ap p.length cp) _ _ y0 y1
          exact ⟨_, rfl, hgX, by simp; omega, q0, q1, (hbX.setCell hgX _).setCell hgX _⟩
      case rest =>
        obtain ⟨gx, rfl, hgx1, hgx2, x0, x1, hbc⟩ := hcut
        have HS1 := HSI.below hbc
        have hb1 := hb.trans (hbc.mono (by omega))
        have hsc := hbc.size
        have B2 := B1.trans (hbc.mono (by omega))
        have hpa1 := hpa.moves inS (Moves.below hbc)
        have hpp1 := hpp.moves caS (Moves.below hbc)
        have hfr : Fr wc (w.heap.size + 1) (.slice (some ⟨gq, oq, none⟩) nq capq) gx := ⟨hgx2, by omega, fun e => by injection e with e; simp only at e; omega⟩
        have u0 := (hbc.cell (p := ⟨w.heap.size, 0, none⟩) hwlt).trans z0
        have u1 := (hbc.cell (p := ⟨w.heap.size, 1, none⟩) hwlt).trans z1
        have hwltc : w.heap.size < wc.heap.size := by omega
        have HSX := Lib.hid (HSP.out s _ wc B2 (hpa1.monoF inS (fun b hb => hb.1)) HRS.out)
        clear KEEP ZK HLK HKX z0 z1 hq0 hrh hf HFS hpa hpp hbml
        go_wp2_with fail
        refine HSX.out.mono ?_
        rintro e w5 ⟨v37, rfl, hown5, hb5⟩
        have hs5 := hb5.size
        have HS5 := HS1.below hb5
        have hR5 : RInv (w.heap.size + 1) (.slice (some ⟨gq, oq, none⟩) nq capq) gx (.slice Aa s.length ca) (.slice Ap p.length cp) v37 s p (stepsF ls bs s) w5 := by
          have hm := Moves.below (bm := w.heap.size + 1) (q := .slice (some ⟨gq, oq, none⟩) nq capq) hb5
          refine ⟨hm.fr _ hfr, (hb5.cell (p := ⟨gx, 0, none⟩) hgx2).trans x0, (hb5.cell (p := ⟨gx, 1, none⟩) hgx2).trans x1, hpa1.moves inS hm, hpp1.moves caS hm, ?_⟩
          exact (hown5.toFlat caS).monoF caS (fun b hb => by
            have h1 := hown5.own_lt b hb
            exact ⟨h1.2, by omega, fun e => by injection e with e; simp only at e; omega⟩)
        have hX5 := hb1.trans (hb5.mono (by omega))
        have HNL := Lib.hid (show (nbrF ls bs s).length = (stepsF ls bs s).length by simp [nbrF])
        have HNA := Lib.hid (fun (j : Nat) (c : Carry) (hj : (stepsF ls bs s)[j]? = some c) => (by unfold nbrF; rw [List.getElem?_map, hj]; rfl : (nbrF ls bs s)[j]? = some (c, movedF bs s c)))
        have HMB := Lib.hid (fun (c : Carry) (hc : c ∈ stepsF ls bs s) => (by
          obtain ⟨i, b, sh, h1, h2, _, _, rfl⟩ := mem_steps.1 hc
          have h4 := bxIx_at (asc_of H0.out).2 h1
          exact ⟨i, h4, by rw [HRS.out.1]; exact lt_of_at h1, moved_at h4⟩ : ∃ i : Nat, bxIx bs c.box = (i : Int) ∧ i < s.length ∧ movedF bs s c = s.set i c.to_))
        have hst4 : (stepsF ls bs s).length ≤ 4096 := by
          have h1 := stepsG_len ls bs s bs 0
          have h2 : ls.length * bs.length ≤ 32 * 128 := Nat.mul_le_mul (shelves_len (start_ok H0.out).1) h128
          unfold stepsF; omega
        have hsl : s.length ≤ 128 := by rw [HRS.out.1]; exact h128
        have hpl := HBG.out.len H0.out
        generalize stepsF ls bs s = st at *
        obtain ⟨A7, c7, e7, hA7, hA7', -⟩ := id (hR5.rt)
        subst e7
        clear hown5 hb5 hfr x0 x1 hpa1 hpp1 HS1 hbc hb1 B2 u0 u1 HSX HSI
        go_wp2
        go_loopw [6, 39] (fun q i wi => ∃ (j : Nat) (out2 : Rows) (vq : Value), vq = q ∧ j ≤ st.length ∧ i = .int .i64 j ∧ SInv ls (w.heap.size + 1) k out2 (w.heap.size + 1) vq wi ∧ RInv (w.heap.size + 1) vq gx (.slice Aa s.length ca) (.slice Ap p.length cp) (.slice A7 st.length c7) s p st wi ∧ Hid (BGood ls bs s0 g' k j s p out2) ∧ Below (w.heap.size + 1) (w.alloc (houseC vl vb)) wi) (fun _ i _ => st.length - (intOf i).toNat)
        case atStart => exact ⟨0, out, _, rfl, Nat.zero_le _, rfl, HS5, hR5, HBG, hX5⟩
        case round =>
          clear HS5 hR5 HBG hX5
          obtain ⟨j, out2, vq, rfl, hj, rfl, HS, HR, HB, hbi⟩ := hrel
          have hsi := hbi.size
          simp only [World.size_alloc] at hsi
          have hwli : w.heap.size < wr.heap.size := by omega
          have Bi : Below w.heap.size w wr := ((Below.refl _ _).alloc (Nat.le_refl _) _).trans (hbi.mono (by omega))
          have z0 := (hbi.cell (p := ⟨w.heap.size, 0, none⟩) (by simp)).trans (show _ = some vl by simp)
          have z1 := (hbi.cell (p := ⟨w.heap.size, 1, none⟩) (by simp)).trans (show _ = some vb by simp)
          by_cases hlt2 : j < st.length
          · obtain ⟨cx, hcx⟩ := get_at st hlt2
            obtain ⟨ix, hix, hixl, hmv⟩ := HMB.out cx (List.mem_of_getElem? hcx)
            have HNJ := Lib.hid (HNA.out j cx hcx)
            rw [hmv] at HNJ
            obtain ⟨b7, off7, rfl, hF7, t0, t1, t2⟩ := Carries.at_ HR.rt hcx
            have hb7 := hF7.1
            have hgxl := HR.fr.1
            have hgx0 := HR.c0
            have hgx1' := HR.c1
            have bq : Below wr.heap.size wr (wr.alloc (carryC cx)) := (Below.refl _ _).alloc (Nat.le_refl _) _
            have HIXc := Lib.hid (fun (W : World) (hW : Below wr.heap.size wr W) => HIX.out cx.box W (Bi.trans (hW.mono (by omega))))
            rw [hix] at HIXc
            have HCA := Lib.hid (fun (W : World) (hW : Below wr.heap.size wr W) => carried_c s (.slice Aa s.length ca) ix cx.to_ W W.heap.size (Nat.le_refl _) ((HR.rs.moves inS (Moves.below hW)).monoF inS (fun b hb => hb.1)) hixl (by omega))
            have HRX := Lib.hid (nbr_good H0.out (HB.out.good (s, p) (List.mem_of_getElem? HB.out.inv.cur)) (List.mem_of_getElem? HNJ.out)).1
            have KEEP := Lib.hid (fun (w' : World) (hW : Below (wr.heap.size + 1) (wr.alloc (carryC cx)) w') => (⟨((bq.trans (hW.mono (by omega))).cell (p := ⟨gx, 0, none⟩) hgxl).trans hgx0, ((bq.trans (hW.mono (by omega))).cell (p := ⟨w.heap.size, 0, none⟩) hwli).trans z0, ((bq.trans (hW.mono (by omega))).cell (p := ⟨w.heap.size, 1, none⟩) hwli).trans z1, (hW.cell (p := ⟨wr.heap.size, 0, none⟩) (by simp)).trans (by simp), (hW.cell (p := ⟨wr.heap.size, 2, none⟩) (by simp)).trans (by simp)⟩ : w'.cell? ⟨gx, 0, none⟩ = some (.slice Aa s.length ca) ∧ w'.cell? ⟨w.heap.size, 0, none⟩ = some vl ∧ w'.cell? ⟨w.heap.size, 1, none⟩ = some vb ∧ w'.cell? ⟨wr.heap.size, 0, none⟩ = some (.int .i64 cx.box) ∧ w'.cell? ⟨wr.heap.size, 2, none⟩ = some (.int .i64 cx.to_)))
            have hbX : Below (wr.heap.size + 1) (wr.alloc (carryC cx)) (wr.alloc (carryC cx)).drew := (Below.refl _ _).drew
            have HSET := Lib.hid hmv
            clear hcx hix hmv hF7
            go_wp2
            go_region_held3 (fun w' => w'.cell? ⟨gx, 0, none⟩ = some (.slice Aa s.length ca) ∧ w'.cell? ⟨w.heap.size, 0, none⟩ = some vl ∧ w'.cell? ⟨w.heap.size, 1, none⟩ = some vb ∧ w'.cell? ⟨wr.heap.size, 0, none⟩ = some (.int .i64 cx.box) ∧ w'.cell? ⟨wr.heap.size, 2, none⟩ = some (.int .i64 cx.to_)) (with_reducible exact KEEP.out _ hbX) (first
              | (go_at_call 58; (with_reducible refine (HIXc.out _ (bq.trans (hbX.mono (by omega)))).mono ?_); rintro e wI ⟨rfl, hb'⟩; have hbX := hbX.trans (hb'.mono (by have := hbX.size; simp only [World.size_alloc] at this; omega)))
              | (go_at_call 57; (with_reducible refine (HCA.out _ (bq.trans (hbX.mono (by omega)))).mono ?_); rintro e wC ⟨vC, rfl, hownC, hb'⟩; have kB : wr.heap.size + 1 ≤ wI.heap.size := (by have := hbX.size; simp only [World.size_alloc] at this; omega); have hbX := hbX.trans (hb'.mono (by have := hbX.size; simp only [World.size_alloc] at this; omega))))
            have hsX := hbX.size
            simp only [World.size_alloc] at hsX
            have b9 := bq.trans (hbX.mono (by omega))
            have HS9 := HS.below b9
            have HR9 := HR.moves (Moves.below b9)
            have hX9 := hbi.trans (b9.mono (by omega))
            have B9 := Bi.trans (b9.mono (by omega))
            have y0 := (hbX.cell (p := ⟨wr.heap.size, 0, none⟩) (by simp)).trans (show _ = some (.int .i64 cx.box) by simp)
            have y1 := (hbX.cell (p := ⟨wr.heap.size, 1, none⟩) (by simp)).trans (show _ = some (.int .i64 cx.from_) by simp)
            have y2 := (hbX.cell (p := ⟨wr.heap.size, 2, none⟩) (by simp)).trans (show _ = some (.int .i64 cx.to_) by simp)
            obtain ⟨-, u0, u1, -, -⟩ := KEEP.out _ hbX
            generalize hxx : s.set ix cx.to_ = x at *
            have hrx : SlRep 1 (flat intEnc) wC (fun b => wr.heap.size < b ∧ b < wC.heap.size) x vC := (hownC.toFlat inS).monoF inS (fun b hb => by have := hownC.own_lt b hb; exact ⟨by omega, this.2⟩)
            have HXX := Lib.hid hxx
            have hq9 := HS9.qlt
            have hbm9 := HS9.bml
            have hqlo := HS.qlt
            have hbmo := HS.bml
            have hwlc : w.heap.size < wC.heap.size := by omega
            have hwgc : wr.heap.size < wC.heap.size := by omega
            clear hxx hownC hb' KEEP HIXc HCA z0 z1 t0 t1 t2 HS HR hgx0 hgx1'
            obtain ⟨Ax, cxp, ex, -⟩ := id hrx
            subst ex
            go_wp2_with fail
            refine (HKY.out x _ wC B9 (hrx.monoF inS (fun b hb => hb.2)) HRX.out).mono ?_
            rintro e wY ⟨rfl, hbY⟩
            have hsY := hbY.size
            have HSY := HS9.below hbY
            obtain ⟨f, hf⟩ := HSY.mp
            have hbAY : Below wY.heap.size wY (wY.alloc zReached) := (Below.refl _ _).alloc (Nat.le_refl _) _
            by_cases hmem : x ∈ out2.map Prod.fst
            · obtain ⟨⟨x1, p1⟩, he1, hxe⟩ := List.mem_map.1 hmem
              obtain ⟨⟨qa, qp⟩, hfx, hqa, hqp⟩ := hf.has _ he1
              simp only at hxe hfx hqa hqp
              rw [hxe] at hfx
              have HFX := Lib.hid hfx
              have HB2 := Lib.hid (HB.out.old H0.out HNJ.out hmem)
              obtain ⟨Aq, cq, ea, -⟩ := id hqa
              obtain ⟨Ar, cr, er, -⟩ := id hqp
              subst ea er
              have hMP := hf.mp
              have bY2 : Below wC.heap.size wC (wY.alloc (.cells #[.slice Aq x1.length cq, .slice Ar p1.length cr] 68)) := hbY.alloc hsY _
              have bYY : Below wY.heap.size wY (wY.alloc (.cells #[.slice Aq x1.length cq, .slice Ar p1.length cr] 68)) := (Below.refl _ _).alloc (Nat.le_refl _) _
              have HSF := HSY.below bYY
              have HRF := HR9.moves (Moves.below bY2)
              have hXF := hX9.trans (bY2.mono (by omega))
              clear hmem he1 hxe hfx hqa hqp hf
              go_wp2_with (at_lookup; refine stop_intro ?_)
              refine stop_elim ?_
              refine wpList_look rfl (.tmp 53) (.tmp 56) 70 true rfl strKind Try.underlying70 (zeroReached _) hMP rfl (keyB ls x) rfl (.tuple #[.agg #[.slice Aq x1.length cq, .slice Ar p1.length cr], .bool true]) (by rw [HFX.out]; rfl) ?_
              go_wp2
              go_roundw
              case rel => exact ⟨j + 1, out2, _, rfl, by omega, by go_num, HSF, HRF, HB2, hXF⟩
              case measure => simp [intOf]; omega
            · have HNM := Lib.hid hmem
              have HFX := Lib.hid (show f (keyB ls x) = none by
                cases hfx : f (keyB ls x) with
                | none => rfl
                | some pr =>
                  obtain ⟨e, he, hk⟩ := hf.only _ _ hfx
                  exact absurd (List.mem_map.2 ⟨e, he, (keyB_inj H0.out HRX.out (HB.out.good e he).1 hk).symm⟩) hmem)
              have hMP := hf.mp
              clear hmem
              go_wp2_with (at_lookup; refine stop_intro ?_)
              refine stop_elim ?_
              refine wpList_look rfl (.tmp 53) (.tmp 56) 70 true rfl strKind Try.underlying70 (zeroReached _) hMP rfl (keyB ls x) rfl (.tuple #[.agg #[.slice none 0 0, .slice none 0 0], .bool false]) (by rw [HFX.out]; rfl) ?_
              go_upto_region 12 with fail
              have bZ : Below wC.heap.size wC (wY.alloc zReached) := hbY.alloc hsY _
              have HSZ := HSY.below hbAY
              have HRZ := HR9.moves (Moves.below bZ)
              have hfZ := hf.moves (Moves.below hbAY) (hbAY.block _ HSY.bml)
              have hXZ := hX9.trans (bZ.mono (by omega))
              have BZ := B9.trans (bZ.mono (by omega))
              have hrxZ := (hrx.frame inS (fun b hb => bZ.block b hb.2)).monoF inS (F' := fun b => wr.heap.size < b ∧ b < (wY.alloc zReached).heap.size) (fun b hb => ⟨hb.1, Nat.lt_of_lt_of_le hb.2 bZ.size⟩)
              have v0 := (bZ.cell (p := ⟨w.heap.size, 0, none⟩) hwlc).trans u0
              have v1 := (bZ.cell (p := ⟨w.heap.size, 1, none⟩) hwlc).trans u1
              have w0 := (bZ.cell (p := ⟨wr.heap.size, 0, none⟩) hwgc).trans y0
              have w1 := (bZ.cell (p := ⟨wr.heap.size, 1, none⟩) hwgc).trans y1
              have w2 := (bZ.cell (p := ⟨wr.heap.size, 2, none⟩) hwgc).trans y2
              have hsZ := bZ.size
              clear hf hMP HSY hbAY HS9 HR9 hX9 B9 hrx bZ HFX u0 u1 y0 y1 y2 hbY
              generalize wY.alloc zReached = wZ at *
              have xp := HRZ.c1
              have hbmZ := HSZ.bml
              have hgxZ := HRZ.fr.1
              have hgxm := HRZ.fr.2.1
              have hwlZ : w.heap.size < wZ.heap.size := by omega
              have hgcZ : wr.heap.size < wZ.heap.size := by omega
              have HKX := Lib.hid (fun (W : World) (hW : Below wZ.heap.size wZ W) => HKY.out x (.slice Ax x.length cxp) W (BZ.trans (hW.mono (by omega))) ((hrxZ.frame inS (fun b hb => hW.block b hb.2)).monoF inS (fun b hb => Nat.lt_of_lt_of_le hb.2 hW.size)) HRX.out)
              have HCL := Lib.hid (fun (W : World) (hW : Below wZ.heap.size wZ W) => cloneC_c p (.slice Ap p.length cp) W W.heap.size (Nat.le_refl _) ((HRZ.rp.moves caS (Moves.below hW)).monoF caS (fun b hb => hb.1)) (by omega))
              have HMU := Lib.hid (fun (v : Value) (W : World) (hW : Below wZ.heap.size wZ W) => show ∃ w', (Instr.mapUpdate 70 (.map (some (w.heap.size + 1))) (.string (keyB ls x)) (.agg #[.slice Ax x.length cxp, v])).run Try.prog W = .ok () w' ∧ MapF w' (w.heap.size + 1) Value.string pairEnc (upd f (keyB ls x) (.slice Ax x.length cxp, v)) ∧ W.grownBy w' (some (w.heap.size + 1)) from run_mapUpdate_at strKind Try.underlying70 (hfZ.mp.below hW hbmZ) (keyB ls x) (.slice Ax x.length cxp, v))
              have HONE := Lib.hid (fun (W : World) => SlRep.one_new caS (t := 57) (x := cx) (F := fun _ => False) (w := W) (cs := Carry.enc cx) rfl rfl (fun b h => h.elim))
              have KEEP := Lib.hid (fun (w' : World) (hW : Below wZ.heap.size wZ w') => (⟨(hW.cell (p := ⟨w.heap.size, 0, none⟩) hwlZ).trans v0, (hW.cell (p := ⟨w.heap.size, 1, none⟩) hwlZ).trans v1, (hW.cell (p := ⟨gx, 1, none⟩) hgxZ).trans xp, (hW.cell (p := ⟨wr.heap.size, 0, none⟩) hgcZ).trans w0, (hW.cell (p := ⟨wr.heap.size, 1, none⟩) hgcZ).trans w1, (hW.cell (p := ⟨wr.heap.size, 2, none⟩) hgcZ).trans w2⟩ : w'.cell? ⟨w.heap.size, 0, none⟩ = some vl ∧ w'.cell? ⟨w.heap.size, 1, none⟩ = some vb ∧ w'.cell? ⟨gx, 1, none⟩ = some (.slice Ap p.length cp) ∧ w'.cell? ⟨wr.heap.size, 0, none⟩ = some (.int .i64 cx.box) ∧ w'.cell? ⟨wr.heap.size, 1, none⟩ = some (.int .i64 cx.from_) ∧ w'.cell? ⟨wr.heap.size, 2, none⟩ = some (.int .i64 cx.to_)))
              have KEEPM := Lib.hid (fun (W w' : World) (hW : Below wZ.heap.size wZ W) (hg : W.grownBy w' (some (w.heap.size + 1))) => (by
                obtain ⟨k0, k1, k2, k3, k4, k5⟩ := KEEP.out W hW
                have hsW := hW.size
                exact ⟨(cell_grown hg (by show w.heap.size < _; omega) (by simp)).trans k0, (cell_grown hg (by show w.heap.size < _; omega) (by simp)).trans k1, (cell_grown hg (by show gx < _; omega) (by simpa using hgxm)).trans k2, (cell_grown hg (by show wr.heap.size < _; omega) (by simp; omega)).trans k3, (cell_grown hg (by show wr.heap.size < _; omega) (by simp; omega)).trans k4, (cell_grown hg (by show wr.heap.size < _; omega) (by simp; omega)).trans k5⟩ : w'.cell? ⟨w.heap.size, 0, none⟩ = some vl ∧ w'.cell? ⟨w.heap.size, 1, none⟩ = some vb ∧ w'.cell? ⟨gx, 1, none⟩ = some (.slice Ap p.length cp) ∧ w'.cell? ⟨wr.heap.size, 0, none⟩ = some (.int .i64 cx.box) ∧ w'.cell? ⟨wr.heap.size, 1, none⟩ = some (.int .i64 cx.from_) ∧ w'.cell? ⟨wr.heap.size, 2, none⟩ = some (.int .i64 cx.to_)))
              obtain ⟨pc, hpc⟩ : ∃ pc, p ++ [cx] = pc := ⟨_, rfl⟩
              have HPC := Lib.hid hpc
              clear hpc
              go_cut [10] (fun s10 wx => s10 = .slice Ax x.length cxp ∧ ∃ v6, MapF wx (w.heap.size + 1) Value.string pairEnc (upd f (keyB ls x) (.slice Ax x.length cxp, v6)) ∧ OwnRep 3 (flat Carry.enc) 57 wZ.heap.size wx pc v6 ∧ wZ.grownBy wx (some (w.heap.size + 1)))
              case first =>
                have hbX : Below wZ.heap.size wZ wZ.drew := (Below.refl _ _).drew
                have kO : OwnRep 3 (flat Carry.enc) 57 wZ.heap.size wZ.drew ([] : List Carry) (.slice none 0 0) := OwnRep.nil_
                have kQ := kO
                have kS : SlRep 3 (flat Carry.enc) wZ.drew (fun _ => False) ([] : List Carry) (.slice none 0 0) := SlRep.nil_
                have kF : ∀ b, (fun _ : Nat => False) b → b < wZ.drew.heap.size ∧ (Value.slice none 0 0).ownBlock ≠ some b := fun b hb => hb.elim
                have kN : p.length + [cx].length ≤ 4294967296 := by simp; omega
                have hbA : Below wZ.heap.size wZ (wZ.alloc (carryC cx)).drew := ((Below.refl _ _).alloc (Nat.le_refl _) _).drew
                have hgM : wZ.grownBy wZ (some (w.heap.size + 1)) := World.grownBy.refl _ _
                obtain ⟨A6, c6, -⟩ : ∃ (A6 : Option Addr) (c6 : Nat), True := ⟨none, 0, trivial⟩
                go_region_held3 (fun w' => w'.cell? ⟨w.heap.size, 0, none⟩ = some vl ∧ w'.cell? ⟨w.heap.size, 1, none⟩ = some vb ∧ w'.cell? ⟨gx, 1, none⟩ = some (.slice Ap p.length cp) ∧ w'.cell? ⟨wr.heap.size, 0, none⟩ = some (.int .i64 cx.box) ∧ w'.cell? ⟨wr.heap.size, 1, none⟩ = some (.int .i64 cx.from_) ∧ w'.cell? ⟨wr.heap.size, 2, none⟩ = some (.int .i64 cx.to_)) (first | with_reducible exact KEEP.out _ hbX | with_reducible exact KEEP.out _ hbA | with_reducible exact KEEP.out _ (hbX.alloc hbX.size _) | with_reducible exact KEEPM.out _ _ hbX hgM) (first
                  | (go_at_call 42; (with_reducible refine (HKX.out _ hbX).mono ?_); rintro e wK ⟨rfl, hbK⟩; have kO := kO.below caS hbK; have kS := kS.frame caS (fun b hb => hbK.block b (kF b hb).1); have kF := apart_le kF hbK.size; have kQ := kQ.below caS hbK; have hbX := hbX.trans (hbK.mono hbX.size); obtain ⟨wM, hmr, hmM, hgM⟩ := HMU.out (.slice A6 pc.length c6) _ hbX)
                  | (go_at_call 42; (with_reducible refine (HKX.out _ (hbX.alloc hbX.size _)).mono ?_); rintro e wK ⟨rfl, hbK⟩; have kS := (HONE.out _).frame caS (fun b hb => hbK.block b (one_lt b hb)); have kF := apart_le (one_apart kO) hbK.size; have kO := (kO.alloc caS _).below caS hbK; have kQ := (kQ.alloc caS _).below caS hbK; have hbX := (hbX.alloc hbX.size _).trans (hbK.mono (hbX.alloc hbX.size _).size))
                  | (go_at_call 33; (with_reducible refine (HCL.out _ hbX).mono ?_); rintro e wL ⟨vL, rfl, hownL, hbL⟩; have kS := kS.frame caS (fun b hb => hbL.block b (kF b hb).1); have kF := clone_apart hownL (fun b hb => (kF b hb).1) (Nat.le_refl _) hbL.size; have kQ := kQ.below caS hbL; have kO := hownL.base_le hbX.size; have hbX := hbX.trans (hbL.mono hbX.size))
                  | (go_at_call 33; (with_reducible refine (HCL.out _ (hbX.alloc hbX.size _)).mono ?_); rintro e wL ⟨vL, rfl, hownL, hbL⟩; have kS := (HONE.out _).frame caS (fun b hb => hbL.block b (one_lt b hb)); have kF := clone_apart hownL (fun b hb => one_lt b hb) (Nat.le_refl _) hbL.size; have kQ := (kQ.alloc caS _).below caS hbL; have kO := hownL.base_le (hbX.alloc hbX.size _).size; have hbX := (hbX.alloc hbX.size _).trans (hbL.mono (hbX.alloc hbX.size _).size))
                  | (go_at_call 42; (with_reducible refine (HKX.out _ hbA).mono ?_); rintro e wK ⟨rfl, hbK⟩; have kS := (HONE.out wZ).frame caS (fun b hb => hbK.block b (one_lt (o := carryC cx) b hb)); have kF : ∀ b, (False ∨ b = wZ.heap.size) → b < wK.heap.size ∧ (Value.slice none 0 0).ownBlock ≠ some b := (fun b hb => ⟨Nat.lt_of_lt_of_le (one_lt (o := carryC cx) b hb) hbK.size, (by simp [Value.ownBlock])⟩); have kO : OwnRep 3 (flat Carry.enc) 57 wZ.heap.size wK ([] : List Carry) (.slice none 0 0) := OwnRep.nil_; have kQ := kO; have hbX := hbA.trans (hbK.mono hbA.size))
                  | (go_at_call 33; (with_reducible refine (HCL.out _ hbA).mono ?_); rintro e wL ⟨vL, rfl, hownL, hbL⟩; have kS := (HONE.out wZ).frame caS (fun b hb => hbL.block b (one_lt (o := carryC cx) b hb)); have kF := clone_apart hownL (fun b hb => one_lt (W := wZ) (o := carryC cx) b hb) (Nat.le_refl _) hbL.size; have kQ : OwnRep 3 (flat Carry.enc) 57 wZ.heap.size wL ([] : List Carry) (.slice none 0 0) := OwnRep.nil_; have kO := hownL.base_le hbA.size; have hbX := hbA.trans (hbL.mono hbA.size))
                  | (refine step_append_rep rfl caS carryE_ _ (.tmp 68) (.tmp 70) rfl rfl kO rfl (ys := [cx]) kS kF kN (by decide) hbX.size ?_; intro v6 w6 hown6 hg6 hat6; rw [HPC.out] at hown6; obtain ⟨A6, c6, rfl, -⟩ := id (hown6.toSl caS); have hbX := hbX.grown hg6 hbX.size (fun k hk => (kO.own_lt k hk).1); have kQ := hown6; have kO := hown6; have kS : SlRep 3 (flat Carry.enc) w6 (fun _ => False) ([] : List Carry) (.slice none 0 0) := SlRep.nil_; have kF : ∀ b, (fun _ : Nat => False) b → b < w6.heap.size ∧ (Value.slice A6 pc.length c6).ownBlock ≠ some b := (fun b hb => hb.elim); obtain ⟨wM, hmr, hmM, hgM⟩ := HMU.out (.slice A6 pc.length c6) _ hbX)
                  | (refine step_append_rep rfl caS carryE_ _ (.tmp 68) (.tmp 70) rfl rfl (kO.alloc caS _) rfl (ys := [cx]) (HONE.out _) (one_apart kO) kN (by decide) (hbX.alloc hbX.size _).size ?_; intro v6 w6 hown6 hg6 hat6; rw [HPC.out] at hown6; obtain ⟨A6, c6, rfl, -⟩ := id (hown6.toSl caS); have hbX := (hbX.alloc hbX.size _).grown hg6 (hbX.alloc hbX.size _).size (fun k hk => (kO.own_lt k hk).1); have kQ := hown6; have kO := hown6; have kS : SlRep 3 (flat Carry.enc) w6 (fun _ => False) ([] : List Carry) (.slice none 0 0) := SlRep.nil_; have kF : ∀ b, (fun _ : Nat => False) b → b < w6.heap.size ∧ (Value.slice A6 pc.length c6).ownBlock ≠ some b := (fun b hb => hb.elim); obtain ⟨wM, hmr, hmM, hgM⟩ := HMU.out (.slice A6 pc.length c6) _ hbX))
                all_goals (go_wp2_with fail; go_meet)
                all_goals exact ⟨rfl, _, hmM, kQ.keep (fun b hb => hgM.block b (kQ.own_lt b hb).2 (fun e => by injection e with e; have := (kQ.own_lt b hb).1; omega)), grown_of hbX rfl hgM⟩
              case rest =>
                obtain ⟨rfl, v6, hmM, hown6, hgM⟩ := hcut
                have hgs := hgM.size
                obtain ⟨vs, hq1, hq2, -⟩ := HSZ.qu
                have hqlt := hq1.lt
                have hqc : QRow wc (w.heap.size + 1) 26 vq vs := hq1.frame (fun b hb => hgM.block b (hqlt b hb).2 (fun e => HSZ.ne (by rw [hb]; exact e)))
                have hqa : QRow (wc.alloc (.cells #[.slice Ax x.length cxp] 26)) (w.heap.size + 1) 26 vq vs := hqc.frame (fun b hb => Below.heap_alloc _ _ _ (by have := (hqlt b hb).2; omega))
                have hfew := HB.out.few H0.out
                have hxc : SlRep 1 (flat intEnc) wc (Fr wc (w.heap.size + 1) vq) x (.slice Ax x.length cxp) := (hrxZ.monoF inS (F' := Fr wZ (w.heap.size + 1) vq) (fun b hb => ⟨hb.2, by have := hb.1; omega, fun e => by have := (hqlo b e).2; have := hb.1; omega⟩)).moves inS (Moves.map hgM)
                have hpc : SlRep 3 (flat Carry.enc) wc (Fr wc (w.heap.size + 1) vq) pc v6 := (hown6.toFlat caS).monoF caS (fun b hb => by
                  have h1 := hown6.own_lt b hb
                  exact ⟨h1.2, by omega, fun e => by have := (hqlt b e).2; omega⟩)
                have HINJ := Lib.hid (fun (e : List Int × List Carry) (he : e ∈ out2) => fun (hk : keyB ls e.1 = keyB ls x) => HNM.out (List.mem_map.2 ⟨e, he, keyB_inj H0.out (HB.out.good e he).1 HRX.out hk⟩))
                have HB2 := HB.out.new H0.out HNJ.out HNM.out
                rw [HPC.out] at HB2
                have HB3 := Lib.hid HB2
                have hXc := hXZ.grown hgM (by omega) (fun k hk => by injection hk with hk; omega)
                clear HB2 hrxZ hown6 HKX HCL HMU HONE KEEP KEEPM v0 v1 w0 w1 w2 xp
                go_wp2_with (at_builtin; refine stop_intro ?_)
                refine stop_elim ?_
                refine wpList_append_q rfl stateE_ (w.heap.size + 1) (.tmp 73) (.tmp 75) rfl rfl hqa rfl (u := .slice Ax x.length cxp) ?hu rfl ?n (by decide) ?hbase ?_
                case hu => rw [Addr.add_lit]; simp
                case n => omega
                case hbase => simp; omega
                intro v7 w7 hq7 hg7 hat7
                have hmv : Moves (w.heap.size + 1) vq wZ v7 w7 := (Moves.map hgM).trans ((Moves.below ((Below.refl _ _).alloc (Nat.le_refl _) _)).trans (Moves.que hg7 hat7))
                have HS7 := HSZ.add hfZ HINJ.out hmM hgM hxc hpc (fun vs' h' => by rw [h'.inj hq1]; exact hq7) (World.grownBy.trans (World.grownBy_alloc _ _ _) hg7) (by
                  rcases hat7 with h | h
                  · exact .inl h
                  · exact .inr ⟨_, h, by simp⟩)
                have HR7 := HRZ.moves hmv
                have hX7 := (hXc.alloc (by omega) _).grown hg7 (by simp; omega) (fun k hk => (hqlt k hk).1)
                clear HSZ hfZ HRZ hXZ hmM hgM hqc hqa hq1 hq7 hg7 hat7 hxc hpc hXc hmv
                go_wp2
                go_roundw
                case rel => exact ⟨j + 1, _, _, rfl, by omega, by go_num, HS7, HR7, HB3, hX7⟩
                case measure => simp [intOf]; omega
          · have HK2 := Lib.hid (HB.out.close (by rw [HNL.out]; omega))
            have hcur := HB.out.inv.cur
            obtain ⟨gq2, oq2, nq2, cq2, vh2, rfl, hn2, hnc2, hcq2, -, -, -, -⟩ := HS.head hcur
            have HT := HS.tail (lt_of_at hcur)
            have hi1 : (1 : Int) ≤ (nq2 : Int) := by omega
            have hi2 : (nq2 : Int) ≤ (cq2 : Int) := by omega
            clear hcur HS
            by_cases hc1 : cq2 = 1
            · subst hc1
              obtain rfl : nq2 = 1 := by omega
              simp only [if_true] at HT
              go_wp2
              go_roundg g'
              case measure => omega
              case rel => exact ⟨k + 1, out2, _, rfl, HT, HK2, hbi⟩
            · have hc2' : (cq2 : Int) ≠ 1 := by omega
              have hc3 : ¬ cq2 ≤ 1 := by omega
              rw [if_neg hc1] at HT
              clear hc1
              go_wp2
              go_roundg g'
              case measure => omega
              case rel => exact ⟨k + 1, out2, _, rfl, HT, HK2, hbi⟩
    · obtain ⟨heq, hfound⟩ := HG.out.done (by omega)
      obtain ⟨gq, oq, capq, rfl, hcq⟩ := HSI.empty (by omega)
      obtain ⟨f, hf⟩ := HSI.mp
      have HM : MInv ls (reachF ls bs s0) (w.heap.size + 1) (fun b => b < wr.heap.size ∧ b ≠ w.heap.size + 1) f wr := by
        rw [heq]
        exact ⟨hf.mp, fun e he => by
          obtain ⟨p, h1, h2, h3⟩ := hf.has e he
          exact ⟨p, h1, h2.monoF inS (fun b hb => ⟨hb.1, hb.2.1⟩), h3.monoF caS (fun b hb => ⟨hb.1, hb.2.1⟩)⟩, hf.only⟩
      have HM2 := Lib.hid HM
      clear HM heq hfound hf HSI HG
      go_wp2
      go_ret
      exact ⟨_, f, rfl, by omega, HM2.out, B1⟩
end Go.Proofs.Ythabpkigflldmaa
