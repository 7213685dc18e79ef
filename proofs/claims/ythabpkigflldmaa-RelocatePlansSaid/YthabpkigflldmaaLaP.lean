/- RelocatePlans returns true. -/
import Derived.Test.YthabpkigflldmaaFld
import Derived.Test.YthabpkigflldmaaLaS
namespace Go.Proofs.Ythabpkigflldmaa
open Go.RowKit

def planL (ls : List Shelf) (bs : List Box) (s t : List Int) : List Carry := if plE ls bs s t = 0 then (planF ls bs s t).getD [] else []
def PlanPost (ls : List Shelf) (bs : List Box) (s t : List Int) (w : World) (e : Ending) (w' : World) : Prop := ∃ v', e = .returned (.tuple #[v', .int .i64 (plE ls bs s t)]) ∧ Carries w' w'.heap.size (planL ls bs s t) v' ∧ Below w.heap.size w w'
theorem Plan_full (ls : List Shelf) (bs : List Box) (s t : List Int) (vl vb vs vt : Value) (w : World) (B : Nat) (hB : B ≤ w.heap.size) (hl : Shelves w B ls vl) (hbx : Boxes w B bs vb) (ha : Ints w B s vs) (hat : Ints w B t vt) :
    Calls Try.prog 13 #[vl, vb, vs, vt] w (PlanPost ls bs s t w) := by
  unfold PlanPost planL
  by_cases h1 : possE ls bs s = 0
  · by_cases h2 : possE ls bs t = 0
    · cases h3 : planF ls bs s t with
      | none =>
        have hE : plE ls bs s t = 24 := by simp [plE, h1, h2, h3]
        rw [hE]
        exact (Plan_none ls bs s t vl vb vs vt w B hB hl hbx ha hat h1 h2 h3).mono fun e w' ⟨he, hb⟩ => ⟨_, he, SlRep.nil_, hb⟩
      | some p =>
        have hE : plE ls bs s t = 0 := by simp [plE, h1, h2, h3]
        rw [hE]
        exact (Plan_some ls bs s t vl vb vs vt w B hB hl hbx ha hat h1 h2 p h3).mono fun e w' ⟨v', he, hc, hb⟩ => ⟨v', he, hc, hb⟩
    · have hE : plE ls bs s t = possE ls bs t := by simp [plE, h1, h2]
      rw [hE, if_neg h2]
      exact (Plan_bad2 ls bs s t vl vb vs vt w B hB hl hbx ha hat h1 h2).mono fun e w' ⟨he, hb⟩ => ⟨_, he, SlRep.nil_, hb⟩
  · have hE : plE ls bs s t = possE ls bs s := by simp [plE, h1]
    rw [hE, if_neg h1]
    exact (Plan_bad1 ls bs s vl vb vs vt w B hB hl hbx ha h1).mono fun e w' ⟨he, hb⟩ => ⟨_, he, SlRep.nil_, hb⟩
theorem reach_order {ls : List Shelf} {bs : List Box} {t : List Int} (hst : startE ls bs = 0) (ht : Good ls bs t) {i k : Nat} {a b : List Int × List Carry} (hi : (reachF ls bs t)[i]? = some a) (hk : (reachF ls bs t)[k]? = some b) (h : b.2.length < a.2.length) : k < i := by
  rcases Nat.lt_or_ge k i with h1 | h1
  · exact h1
  · exfalso
    have hs := (reach_found hst ht).1.sorted
    obtain ⟨hi1, hi2⟩ := List.getElem?_eq_some_iff.1 hi
    obtain ⟨hk1, hk2⟩ := List.getElem?_eq_some_iff.1 hk
    rcases Nat.eq_or_lt_of_le h1 with e | h2
    · subst e
      rw [hi] at hk
      injection hk with hk
      rw [hk] at h
      omega
    · have := slt_len (List.pairwise_iff_getElem.1 hs i k hi1 hk1 h2)
      rw [hi2, hk2] at this
      omega
theorem cell3_keep {W W' : World} {g : Nat} {a b c : Value} (h : W.cell? ⟨g, 0, none⟩ = some a ∧ W.cell? ⟨g, 1, none⟩ = some b ∧ W.cell? ⟨g, 2, none⟩ = some c) (hg : g < W.heap.size) (hb : Below W.heap.size W W') :
    W'.cell? ⟨g, 0, none⟩ = some a ∧ W'.cell? ⟨g, 1, none⟩ = some b ∧ W'.cell? ⟨g, 2, none⟩ = some c :=
  ⟨(hb.cell (p := ⟨g, 0, none⟩) hg).trans h.1, (hb.cell (p := ⟨g, 1, none⟩) hg).trans h.2.1, (hb.cell (p := ⟨g, 2, none⟩) hg).trans h.2.2⟩
set_option maxRecDepth 100000 in
set_option maxHeartbeats 8000000 in
theorem rPlan_c (ls : List Shelf) (bs : List Box) (s t : List Int) (vl vb vs vt : Value) (w : World) (B : Nat) (hB : B ≤ w.heap.size) (hl : Shelves w B ls vl) (hbx : Boxes w B bs vb) (ha : Ints w B s vs) (hat : Ints w B t vt) :
    Calls Try.prog 15 #[vl, vb, vs, vt] w (PlanPost ls bs s t w) := by
  have HO := Lib.hid (rpossible_c ls bs s vl vb vs w B hB hl hbx ha)
  have HO2 := Lib.hid (fun (W : World) (hW : Below w.heap.size w W) => rpossible_c ls bs t vl vb vt W B (Nat.le_trans hB hW.size) (hl.below shS (hW.mono hB)) (hbx.below boS (hW.mono hB)) (hat.below inS (hW.mono hB)))
  by_cases hp : possE ls bs s = 0
  · rw [hp] at HO
    obtain ⟨hst, hr1, hh1⟩ := poss_zero hp
    have HS := Lib.hid hst
    have HGS : Hid (Good ls bs s) := Lib.hid ⟨hr1, hh1⟩
    by_cases hq : possE ls bs t = 0
    · rw [hq] at HO2
      obtain ⟨-, hr2, hh2⟩ := poss_zero hq
      have HGT : Hid (Good ls bs t) := Lib.hid ⟨hr2, hh2⟩
      have HFL := Lib.hid (fun (W : World) (hW : Below w.heap.size w W) => flood_c ls bs t vl vb vt W B (Nat.le_trans hB hW.size) (hl.below shS (hW.mono hB)) (hbx.below boS (hW.mono hB)) (hat.below inS (hW.mono hB)) hst ⟨hr2, hh2⟩)
      have HE24 := Lib.hid (fun (h : planF ls bs s t = none) => (by simp [plE, hp, hq, h] : plE ls bs s t = 24))
      have HE0 := Lib.hid (fun (p : List Carry) (h : planF ls bs s t = some p) => (by simp [plE, hp, hq, h] : plE ls bs s t = 0))
      obtain ⟨A, c, rfl, hc1, hc2, _⟩ := id hl
      obtain ⟨A', c', rfl, hd1, hd2, _⟩ := id hbx
      obtain ⟨As, cs, rfl, he1, he2, _⟩ := id ha
      have hslen : s.length ≤ 128 := by rw [hr1.1]; exact (boxes_ok (start_ok hst).2.1).1
      clear hp hq hst hr1 hh1 hr2 hh2
      go_enter Try.func15, Try.ntmps15
      go_wp2_with fail
      refine HO.out.mono ?_
      rintro e w1 ⟨rfl, hb1⟩
      go_wp2_with fail
      refine (HO2.out _ hb1).mono ?_
      rintro e w2 ⟨rfl, hb2⟩
      have B2 := hb1.trans (hb2.mono hb1.size)
      go_wp2_with fail
      refine (HFL.out _ B2).mono ?_
      rintro e w3 ⟨v3, u3, rfl, hT, hb3⟩
      have B3 := B2.trans (hb3.mono B2.size)
      have hs3 := B3.size
      have hlen4 := (reach_found HS.out HGT.out).2.2
      have hpos : 0 < (reachF ls bs t).length := by
        obtain ⟨q, hq, _⟩ := (reach_found HS.out HGT.out).1.least [] t rfl
        exact List.length_pos_of_mem hq
      obtain ⟨go, co, rfl, -, hgo, hco1, hco2⟩ := own_ptr hT.fst (n := (reachF ls bs t).length) (by simp) hpos
      obtain ⟨gf, cf, rfl, -, hgf, hcf1, hcf2⟩ := own_ptr hT.snd (n := (reachF ls bs t).length) (by simp) hpos
      have HI := Lib.hid (rindex_c s ((reachF ls bs t).map Prod.fst) (.slice (some ⟨go, 0, none⟩) (reachF ls bs t).length co) (.slice As s.length cs) w3 w3.heap.size (Nat.le_refl _) (hT.sl saS) ((ha.below inS (B3.mono hB)).mono inS (by omega)))
      have HPI := Lib.hid (plan_iff HS.out HGS.out HGT.out)
      have HIX := Lib.hid (ix_reach HS.out HGT.out)
      have HPD := Lib.hid (fun (p : List Carry) (h : planF ls bs s t = some p) => plan_down HS.out HGS.out HGT.out h)
      have HDF := Lib.hid (fun (x : List Int) (hx : Good ls bs x) (p : List Carry) (h : (x, p) ∈ reachF ls bs t) (hd : 0 < distF ls bs t x) => dist_find HS.out HGT.out hx h hd)
      have HDS := Lib.hid (fun (x y : List Int) (c : Carry) (hx : Good ls bs x) (hc : (c, y) ∈ nbrF ls bs x) (p : List Carry) (h : (x, p) ∈ reachF ls bs t) => dist_step HS.out HGT.out hx hc h)
      have HDA := Lib.hid (fun (x : List Int) (p : List Carry) (h : (x, p) ∈ reachF ls bs t) => dist_at HS.out HGT.out h)
      have HRO := Lib.hid (fun (i k : Nat) (a b : List Int × List Carry) (hi : (reachF ls bs t)[i]? = some a) (hk : (reachF ls bs t)[k]? = some b) (h : b.2.length < a.2.length) => reach_order HS.out HGT.out hi hk h)
      clear HO HO2 HFL hb1 hb2 hb3 B2
      generalize reachF ls bs t = rt at *
      rcases HIX.out s with ⟨hno, e2⟩ | ⟨k0, p0, hk0, e2, hd0⟩
      · have hpn := HPI.out.2 hno
        have HE := Lib.hid (HE24.out hpn)
        rw [e2] at HI
        clear e2 hno hpn
        go_wp2_with fail
        refine HI.out.mono ?_
        rintro e w4 ⟨rfl, hb4⟩
        go_wp2
        go_ret2
        refine ⟨.slice none 0 0, by rw [HE.out]; rfl, ?_, B3.trans (hb4.mono hs3)⟩
        unfold planL
        rw [HE.out]
        exact SlRep.nil_
      · obtain ⟨pl, hpl⟩ : ∃ pl, planF ls bs s t = some pl := by
          cases h : planF ls bs s t with
          | none => exact absurd (List.mem_of_getElem? hk0) (HPI.out.1 h p0)
          | some pl => exact ⟨pl, rfl⟩
        have HE := Lib.hid (HE0.out pl hpl)
        have HPL := Lib.hid (show planL ls bs s t = pl by unfold planL; rw [HE.out, hpl]; rfl)
        have HDN := Lib.hid (HPD.out pl hpl)
        have HK0 := Lib.hid hk0
        have HD0 := Lib.hid hd0
        have hm0 : (k0 : Int) < (rt.length : Int) := by have := lt_of_at hk0; omega
        rw [e2] at HI
        clear e2 hpl hk0 hd0 HE0 HE24 HPD HPI
        go_wp2_with fail
        refine HI.out.mono ?_
        rintro e w4 ⟨rfl, hb4⟩
        have B4 := B3.trans (hb4.mono hs3)
        have hs4 := B4.size
        have hT4 := hT.call saS inS hb4
        have hs34 := hb4.size
        clear HI hT
        have HP0 := Lib.hid (show pl = [] ++ down (nbrF ls bs) (distF ls bs t) p0.length s by rw [List.nil_append, ← HD0.out]; exact HDN.out)
        clear hs34
        go_wp2
        go_loopw [14, 15, 16] (fun v14 v15 v16 wr => ∃ (i : Nat) (x : List Int) (p pre : List Carry), v14 = .int .i64 i ∧ Hid (rt[i]? = some (x, p)) ∧ Hid (Good ls bs x) ∧ Hid (pl = pre ++ down (nbrF ls bs) (distF ls bs t) p.length x) ∧ pre.length + i ≤ k0 ∧ OwnRep 3 (flat Carry.enc) 57 w4.heap.size wr pre v15 ∧ SlRep 1 (flat intEnc) wr (fun b => b < wr.heap.size ∧ v15.ownBlock ≠ some b) x v16 ∧ Below w4.heap.size w4 wr) (fun v14 _ _ _ => (intOf v14).toNat)
        case atStart => exact ⟨k0, s, p0, [], rfl, HK0, HGS, HP0, by simp, OwnRep.nil_, (ha.below inS (B4.mono hB)).monoF inS (fun b hb => ⟨by have : b < B := hb; omega, fun e => by cases e⟩), Below.refl _ _⟩
        case round =>
          clear HP0 HK0 HD0 HDN
          obtain ⟨i, x, p, pre, rfl, HI, HG, HP, hix, hout, hx, hbr⟩ := hrel
          have hsr := hbr.size
          have Br := B4.trans (hbr.mono hs4)
          have hTr := hT4.call saS inS hbr
          have hil := lt_of_at HI.out
          have hii0 : (0 : Int) ≤ (i : Int) := by omega
          have hii1 : (i : Int) < (rt.length : Int) := by omega
          have f0 : wr.cell? ⟨gf, i, none⟩ = some (.int .i64 p.length) := own_int_at hTr.snd (by rw [List.getElem?_map, HI.out]; rfl)
          obtain ⟨Ax, cx, rfl, -⟩ := id hx
          obtain ⟨Ao, c15, rfl, -⟩ := id (hout.toSl caS)
          by_cases hpz : p.length = 0
          · obtain rfl : p = [] := List.eq_nil_of_length_eq_zero hpz
            have HPE := Lib.hid (show pl = pre by rw [HP.out]; simp [down])
            clear hpz
            simp only [List.length_nil] at f0
            go_wp2
            go_ret2
            exact ⟨_, by rw [HE.out]; rfl, by rw [HPL.out, HPE.out]; exact hout.toSl caS, Br⟩
          · have hgt : (0 : Int) < (p.length : Int) := by omega
            have HRX := Lib.hid HG.out.1
            have hxl : x.length ≤ 128 := by rw [HRX.out.1]; exact (boxes_ok (start_ok HS.out).2.1).1
            have HSX := Lib.hid (rsteps_c ls bs x _ _ _ wr wr.heap.size (Nat.le_refl _) ((hl.below shS (Br.mono hB)).mono shS (by omega)) ((hbx.below boS (Br.mono hB)).mono boS (by omega)) (hx.monoF inS (fun b hb => hb.1)) HS.out HRX.out)
            obtain ⟨e0, he0⟩ := HDF.out x HG.out p (List.mem_of_getElem? HI.out) (by rw [HDA.out x p (List.mem_of_getElem? HI.out)]; omega)
            rw [HDA.out x p (List.mem_of_getElem? HI.out)] at he0
            have HF0 := Lib.hid (show ((stepsF ls bs x).drop 0 |>.map fun c => (c, movedF bs x c)).find? (fun e => decide (distF ls bs t e.2 < p.length)) = some e0 from he0)
            have HNX := Lib.hid (show nbrF ls bs x = (stepsF ls bs x).map (fun c => (c, movedF bs x c)) from rfl)
            have HFD := Lib.hid (show (nbrF ls bs x).find? (fun e => decide (distF ls bs t e.2 < distF ls bs t x)) = some e0 by rw [HDA.out x p (List.mem_of_getElem? HI.out)]; exact he0)
            clear he0
            go_wp2_with fail
            refine HSX.out.mono ?_
            rintro e w8 ⟨v8, rfl, hown8, hb8⟩
            have b8 := hbr.trans (hb8.mono hsr)
            have hst8 := hown8.toFlat caS
            have hlt8 := hown8.own_lt
            have HMB := Lib.hid (fun (cc : Carry) (hc : cc ∈ stepsF ls bs x) => (by
              obtain ⟨i, b, sh, h1, h2, _, _, rfl⟩ := mem_steps.1 hc
              have h4 := bxIx_at (asc_of HS.out).2 h1
              exact ⟨i, h4, by rw [HRX.out.1]; exact lt_of_at h1⟩ : ∃ i : Nat, bxIx bs cc.box = (i : Int) ∧ i < x.length))
            have hst4 : (stepsF ls bs x).length ≤ 4096 := by
              have h1 := stepsG_len ls bs x bs 0
              have h2 : ls.length * bs.length ≤ 32 * 128 := Nat.mul_le_mul (shelves_len (start_ok HS.out).1) (boxes_ok (start_ok HS.out).2.1).1
              unfold stepsF; omega
            generalize stepsF ls bs x = st at *
            obtain ⟨A8, c8, rfl, hA8, hA8', -⟩ := id hst8
            have hx8 := hx.frame inS (fun b hb => hb8.block b hb.1)
            have hout8 := hout.below caS hb8
            have hs8 := hb8.size
            have hs48 := b8.size
            clear HSX hown8 f0 hx hout hTr Br hbr hsr
            obtain ⟨wo, rfl⟩ : ∃ wo : World, wo = wr := ⟨_, rfl⟩
            go_wp2
            go_loopw [14, 15, 16, 57] (fun v14' v15' v16' v57 wi => ∃ j : Nat, v57 = .int .i64 j ∧ v14' = .int .i64 i ∧ v15' = .slice Ao pre.length c15 ∧ v16' = .slice Ax x.length cx ∧ j ≤ st.length ∧ Hid (((st.drop j).map fun c => (c, movedF bs x c)).find? (fun e => decide (distF ls bs t e.2 < p.length)) = some e0) ∧ Below w8.heap.size w8 wi) (fun _ _ _ v57 _ => st.length - (intOf v57).toNat)
            case atStart => exact ⟨0, rfl, rfl, rfl, rfl, Nat.zero_le _, HF0, Below.refl _ _⟩
            case round =>
              clear HF0
              obtain ⟨j, rfl, rfl, rfl, rfl, hj, HF, hbi⟩ := hrel
              have hsi := hbi.size
              have bi := b8.trans (hbi.mono hs48)
              have Bi := B4.trans (bi.mono hs4)
              by_cases hlt2 : j < st.length
              · obtain ⟨cc, hcc⟩ := get_at st hlt2
                obtain ⟨ix, hixx, hixl⟩ := HMB.out cc (List.mem_of_getElem? hcc)
                have HDJ := Lib.hid (drop_at hcc)
                have HNM := Lib.hid (show (cc, movedF bs x cc) ∈ nbrF ls bs x by rw [HNX.out]; exact List.mem_map.2 ⟨cc, List.mem_of_getElem? hcc, rfl⟩)
                obtain ⟨q, hq, hqd, hqs⟩ := HDS.out x _ cc HG.out HNM.out p (List.mem_of_getElem? HI.out)
                rw [HDA.out x p (List.mem_of_getElem? HI.out)] at hqs
                rcases HIX.out (movedF bs x cc) with ⟨hno, -⟩ | ⟨k1, p1, hk1, e1, hd1⟩
                · exact absurd hq (hno q)
                have HK1 := Lib.hid hk1
                have hk1l : k1 < rt.length := lt_of_at hk1
                have HQS := Lib.hid (show p.length ≤ p1.length + 1 by omega)
                have HD1 := Lib.hid hd1
                obtain ⟨b9, off9, hA9e, hF9, t0, t1, t2⟩ := Carries.at_ (hst8.frame caS (fun b hb => hbi.block b (hlt8 b hb).2)) hcc
                have hb9l : b9 < wr.heap.size := by have := (hlt8 b9 hF9).2; omega
                subst hA9e
                have bq : Below wr.heap.size wr (wr.alloc (carryC cc)) := (Below.refl _ _).alloc (Nat.le_refl _) _
                have hxi := hx8.frame inS (fun b hb => hbi.block b (by have := hb.1; omega))
                have houti := hout8.below caS hbi
                have HMV := Lib.hid (fun (W : World) (hW : Below w4.heap.size w4 W) (hxW : Ints W W.heap.size x (.slice Ax x.length cx)) => moved_c bs x cc (.slice A' bs.length c') (.slice Ax x.length cx) ix W W.heap.size (Nat.le_refl _) ((hbx.below boS ((B4.trans (hW.mono hs4)).mono hB)).mono boS (by have := hW.size; omega)) hxW hixx hixl (by omega))
                have HMX := Lib.hid (HMV.out _ (bnd_alloc bi (Nat.le_refl _) (carryC cc)) ((hxi.frame inS (fun b hb => Below.heap_alloc _ _ _ (by have := hb.1; omega))).monoF inS (fun b hb => by have := hb.1; simp; omega)))
                have hK := Lib.hid (fun (W : World) (hW : Below (wr.heap.size + 1) (wr.alloc (carryC cc)) W) => (⟨(hW.cell (p := ⟨wr.heap.size, 0, none⟩) (by simp)).trans (by simp), (hW.cell (p := ⟨wr.heap.size, 1, none⟩) (by simp)).trans (by simp), (hW.cell (p := ⟨wr.heap.size, 2, none⟩) (by simp)).trans (by simp)⟩ : W.cell? ⟨wr.heap.size, 0, none⟩ = some (.int .i64 cc.box) ∧ W.cell? ⟨wr.heap.size, 1, none⟩ = some (.int .i64 cc.from_) ∧ W.cell? ⟨wr.heap.size, 2, none⟩ = some (.int .i64 cc.to_)))
                clear hcc hixx hF9 hk1 hq hqd hqs hd1
                go_wp2_with fail
                refine HMX.out.mono ?_
                rintro e w10 ⟨v10, rfl, hown10, hb10⟩
                have b10 := bq.trans (hb10.mono (by simp))
                have hA10 : Below (wr.heap.size + 1) (wr.alloc (carryC cc)) w10 := hb10.mono (by simp)
                have h10 := hown10.toSl inS
                obtain ⟨A10, c10, rfl, -⟩ := id h10
                have bi10 := bi.trans (b10.mono (by have := bi.size; omega))
                have HI1 := Lib.hid (rindex_c (movedF bs x cc) (rt.map Prod.fst) (.slice (some ⟨go, 0, none⟩) rt.length co) _ w10 w10.heap.size (Nat.le_refl _) ((hT4.call saS inS bi10).sl saS) h10)
                rw [e1] at HI1
                clear hown10 HMX e1 t0 t1 t2
                go_wp2_with fail
                refine HI1.out.mono ?_
                rintro e w11 ⟨rfl, hb11⟩
                have b11 := b10.trans (hb11.mono b10.size)
                have hA11 := bnd_call hA10 (by simp) hb11
                have bi11 := bi10.trans (hb11.mono bi10.size)
                have hT11 := (hT4.call saS inS bi11).call saS inS (Below.refl w11.heap.size w11).drew
                have f1 : w11.drew.cell? ⟨gf, k1, none⟩ = some (.int .i64 p1.length) := own_int_at hT11.snd (by rw [List.getElem?_map, HK1.out]; rfl)
                have f2 : w11.drew.cell? ⟨gf, i, none⟩ = some (.int .i64 p.length) := own_int_at hT11.snd (by rw [List.getElem?_map, HI.out]; rfl)
                have hk10 : (0 : Int) ≤ (k1 : Int) := by omega
                have hk11 : (k1 : Int) < (rt.length : Int) := by omega
                clear HI1 h10 hT11
                by_cases hlt3 : p1.length < p.length
                · have hd3 : decide (p1.length < p.length) = true := by simpa using hlt3
                  have HPN := Lib.hid (show pl = (pre ++ [cc]) ++ down (nbrF ls bs) (distF ls bs t) p1.length (movedF bs x cc) by
                    have h1 : p.length = p1.length + 1 := by have := HQS.out; omega
                    have h2 := HF.out
                    rw [HDJ.out, List.map_cons, List.find?_cons, HD1.out, hd3] at h2
                    injection h2 with h2
                    have h3 := HFD.out
                    rw [← h2] at h3
                    rw [HP.out, h1, down, h3]
                    simp)
                  have hki : k1 < i := HRO.out i k1 _ _ HI.out HK1.out hlt3
                  have HGY := Lib.hid (nbr_good HS.out HG.out HNM.out)
                  clear hlt3
                  go_wp2
                  go_region_held3 (fun W => W.cell? ⟨gf, k1, none⟩ = some (.int .i64 p1.length) ∧ W.cell? ⟨gf, i, none⟩ = some (.int .i64 p.length)) (with_reducible exact ⟨f1, f2⟩) (fail)
                  have hAd := hA11.drew
                  have bd := bi11.drew
                  have hod := houti.below caS b11.drew
                  have HOL := Lib.hid houti.own_lt
                  have hxd := hxi.frame inS (fun b hb => b11.drew.block b (by have := hb.1; omega))
                  have hsd := hAd.size
                  simp only [World.size_alloc] at hsd
                  clear b11 hA11 bi11 hb11 f1 f2 hA10 bi10 b10 hb10
                  generalize w11.drew = wd at *
                  have bC : Below wd.heap.size wd (wd.alloc (carryC cc)).drew := ((Below.refl _ _).alloc (Nat.le_refl _) _).drew
                  have tO := hod.below caS bC
                  have sO : SlRep 3 (flat Carry.enc) (wd.alloc (carryC cc)).drew (fun b => False ∨ b = wd.heap.size) [cc] (.slice (some ⟨wd.heap.size, 0, none⟩) 1 1) := (SlRep.one_new caS (w := wd) (F := fun _ => False) (x := cc) (cs := Carry.enc cc) (t := 57) rfl rfl (fun b hb => hb.elim)).frame caS (fun _ _ => rfl)
                  have sF : ∀ b, (False ∨ b = wd.heap.size) → b < (wd.alloc (carryC cc)).drew.heap.size ∧ (Value.slice Ao pre.length c15).ownBlock ≠ some b := fun b hb => by
                    rcases hb with hb | rfl
                    · exact hb.elim
                    · exact ⟨by simp, fun e => by have := (hod.own_lt _ e).2; omega⟩
                  have kN : pre.length + [cc].length ≤ 4294967296 := by simp; omega
                  have kB : w4.heap.size ≤ (wd.alloc (carryC cc)).drew.heap.size := by have := bd.size; simp; omega
                  have hAD0 := hAd.drew
                  have hAD1 : Below (wr.heap.size + 1) (wr.alloc (carryC cc)) (wd.alloc (carryC cc)).drew := (bnd_alloc hAd (by simp) _).drew
                  have kG : ∀ (v6 : Value) (w6 : World), (wd.alloc (carryC cc)).drew.grownBy w6 (Value.slice Ao pre.length c15).ownBlock →
                      (w6.cell? ⟨wr.heap.size, 0, none⟩ = some (.int .i64 cc.box) ∧ w6.cell? ⟨wr.heap.size, 1, none⟩ = some (.int .i64 cc.from_) ∧ w6.cell? ⟨wr.heap.size, 2, none⟩ = some (.int .i64 cc.to_)) ∧ Below w4.heap.size w4 w6 ∧ Ints w6 w6.heap.size x (.slice Ax x.length cx) ∧ wr.heap.size < w6.heap.size := by
                    intro v6 w6 hg
                    obtain ⟨k0, k1, k2⟩ := hK.out _ hAD1
                    have hsz := hg.size
                    simp only [World.size_alloc, World.size_drew] at hsz
                    have hne : some wr.heap.size ≠ (Value.slice Ao pre.length c15).ownBlock := fun e => by have := (HOL.out _ e.symm).2; omega
                    refine ⟨⟨(cell_grown hg (by simp; omega) hne).trans k0, (cell_grown hg (by simp; omega) hne).trans k1, (cell_grown hg (by simp; omega) hne).trans k2⟩, (bnd_alloc bd (Nat.le_refl _) _).drew.grown hg kB (fun k hk => (HOL.out k hk).1), ?_, by omega⟩
                    exact ((hxd.frame inS (fun b hb => bC.block b (by have := hb.1; omega))).frame inS (fun b hb => hg.block b (by have := hb.1; simp; omega) (fun e => hb.2 e.symm))).monoF inS (fun b hb => by have := hb.1; show b < w6.heap.size; omega)
                  have z0 := hK.out _ hAD0
                  have z1 := hK.out _ hAD1
                  clear hK hAd hod hxd houti hxi hAD0 hAD1
                  go_wp2
                  go_region_held3 (fun W => W.cell? ⟨wr.heap.size, 0, none⟩ = some (.int .i64 cc.box) ∧ W.cell? ⟨wr.heap.size, 1, none⟩ = some (.int .i64 cc.from_) ∧ W.cell? ⟨wr.heap.size, 2, none⟩ = some (.int .i64 cc.to_)) (first | with_reducible exact hk9 | with_reducible exact hk6.1 | with_reducible exact z0 | with_reducible exact z1) (first
                    | (refine step_append_rep rfl caS carryE_ _ (.tmp 76) (.tmp 78) rfl rfl tO rfl (ys := [cc]) sO sF kN (by decide) kB ?_; intro v6 w6 hown6 hg6 hat6; have hk6 := kG v6 w6 hg6)
                    | (go_at_call 46; (with_reducible refine (HMV.out _ hk6.2.1 hk6.2.2.1).mono ?_); rintro e w9 ⟨v9, rfl, hown9, hb9⟩; have hk9 := cell3_keep hk6.1 hk6.2.2.2 hb9))
                  go_wp2
                  go_roundw
                  case rel => exact ⟨k1, movedF bs x cc, p1, pre ++ [cc], rfl, HK1, HGY, HPN, by simp; omega, hown6.below caS hb9, (hown9.toFlat inS).monoF inS (fun b hb => ⟨(hown9.own_lt b hb).2, fun e => by have h1 := (hown9.own_lt b hb).1; have h2 := (hown6.own_lt b e).2; omega⟩), hk6.2.1.trans (hb9.mono hk6.2.1.size)⟩
                  case measure => simp [intOf]; omega
                · have hd3 : decide (p1.length < p.length) = false := by simpa using hlt3
                  have HFN := Lib.hid (show ((st.drop (j + 1)).map fun c => (c, movedF bs x c)).find? (fun e => decide (distF ls bs t e.2 < p.length)) = some e0 by
                    have h2 := HF.out
                    rw [HDJ.out, List.map_cons, List.find?_cons, HD1.out, hd3] at h2
                    exact h2)
                  clear hlt3
                  go_wp2
                  go_region_held3 (fun W => W.cell? ⟨gf, k1, none⟩ = some (.int .i64 p1.length) ∧ W.cell? ⟨gf, i, none⟩ = some (.int .i64 p.length)) (with_reducible exact ⟨f1, f2⟩) (fail)
                  go_wp2
                  go_roundw
                  case rel => exact ⟨j + 1, by go_num, rfl, rfl, rfl, by omega, HFN, (hbi.trans (b11.mono hsi)).drew⟩
                  case measure => simp [intOf]; omega
              · have HX := HF.out
                rw [List.drop_of_length_le (by omega)] at HX
                cases HX
    · have HE := Lib.hid (show plE ls bs s t = possE ls bs t by simp [plE, hp, hq])
      have HL := Lib.hid (show planL ls bs s t = [] by unfold planL; rw [HE.out, if_neg hq])
      obtain ⟨n1, n2⟩ := ne_bool hq
      clear hp hq hst hr1 hh1
      go_enter Try.func15, Try.ntmps15
      go_wp2_with fail
      refine HO.out.mono ?_
      rintro e w1 ⟨rfl, hb1⟩
      go_wp2_with fail
      refine (HO2.out _ hb1).mono ?_
      rintro e w2 ⟨rfl, hb2⟩
      go_wp2
      go_ret2
      exact ⟨.slice none 0 0, by rw [HE.out]; rfl, by rw [HL.out]; exact SlRep.nil_, hb1.trans (hb2.mono hb1.size)⟩
  · have HE := Lib.hid (show plE ls bs s t = possE ls bs s by simp [plE, hp])
    have HL := Lib.hid (show planL ls bs s t = [] by unfold planL; rw [HE.out, if_neg hp])
    obtain ⟨n1, n2⟩ := ne_bool hp
    clear hp
    go_enter Try.func15, Try.ntmps15
    go_wp2_with fail
    refine HO.out.mono ?_
    rintro e w1 ⟨rfl, hb1⟩
    go_wp2
    go_ret2
    exact ⟨.slice none 0 0, by rw [HE.out]; rfl, by rw [HL.out]; exact SlRep.nil_, hb1⟩
open Go.RowKit

/-- x put into a list behind its first k elements -/
def insAt (pre : List (List Int)) (x : List Int) (rest : List (List Int)) (k : Nat) : List (List Int) := pre.take k ++ x :: (pre.drop k ++ rest)
section
variable {pre rest : List (List Int)} {x y : List Int} {k : Nat}
theorem insAt_at (hk : k ≤ pre.length) : (insAt pre x rest k)[k]? = some x := by
  unfold insAt
  rw [List.getElem?_append_right (by simp; omega)]
  simp [Nat.min_eq_left hk]
theorem insAt_prev (hy : pre[k]? = some y) : (insAt pre x rest (k + 1))[k]? = some y := by
  have hlt := lt_of_at hy
  unfold insAt
  rw [List.getElem?_append_left (by simp; omega), List.getElem?_take, if_pos (by omega)]
  exact hy
theorem insAt_len : (insAt pre x rest k).length = pre.length + 1 + rest.length := by
  unfold insAt
  simp
  omega
theorem insAt_swap (hy : pre[k]? = some y) : ((insAt pre x rest (k + 1)).set (k + 1) y).set k x = insAt pre x rest k := by
  have hlt := lt_of_at hy
  apply List.ext_getElem?
  intro i
  rw [List.getElem?_set, List.getElem?_set]
  simp only [List.length_set, insAt_len]
  by_cases h1 : k = i
  · subst h1
    rw [if_pos rfl, if_pos (by omega), insAt_at (by omega)]
  · rw [if_neg h1]
    by_cases h2 : k + 1 = i
    · subst h2
      rw [if_pos rfl, if_pos (by omega)]
      unfold insAt
      rw [List.getElem?_append_right (by simp; omega)]
      simp [Nat.min_eq_left (Nat.le_of_lt hlt), List.getElem?_append, hlt]
      rw [if_pos (by omega), ← List.getElem?_eq_getElem hlt]
      exact hy.symm
    · rw [if_neg h2]
      unfold insAt
      by_cases h3 : i < k
      · rw [List.getElem?_append_left (by simp; omega), List.getElem?_append_left (by simp; omega), List.getElem?_take, List.getElem?_take, if_pos (by omega), if_pos h3]
      · have h4 : k + 2 ≤ i := by omega
        obtain ⟨j, rfl⟩ : ∃ j, i = k + 2 + j := ⟨i - (k + 2), by omega⟩
        rw [List.getElem?_append_right (by simp; omega), List.getElem?_append_right (by simp; omega)]
        simp only [List.length_take, Nat.min_eq_left (show k + 1 ≤ pre.length by omega), Nat.min_eq_left (show k ≤ pre.length by omega)]
        rw [show k + 2 + j - (k + 1) = j + 1 by omega, show k + 2 + j - k = (j + 1) + 1 by omega, List.getElem?_cons_succ, List.getElem?_cons_succ, drop_at hy, List.cons_append, List.getElem?_cons_succ]
theorem insAt_perm : (insAt pre x rest k).Perm (pre ++ x :: rest) := by
  unfold insAt
  have h1 : (pre.take k ++ x :: (pre.drop k ++ rest)).Perm (x :: (pre.take k ++ (pre.drop k ++ rest))) := List.perm_middle
  have h2 : (pre ++ x :: rest).Perm (x :: (pre ++ rest)) := List.perm_middle
  rw [← List.append_assoc, List.take_append_drop] at h1
  exact h1.trans h2.symm
theorem insAt_end (hk : pre.length = k) : insAt pre x rest k = pre ++ x :: rest := by
  subst hk
  unfold insAt
  simp
theorem insAt_take (hk : k ≤ pre.length) : (insAt pre x rest k).take (pre.length + 1) = pre.take k ++ x :: pre.drop k := by
  unfold insAt
  rw [show pre.take k ++ x :: (pre.drop k ++ rest) = (pre.take k ++ x :: pre.drop k) ++ rest by simp, List.take_append_of_le_length (by simp; omega)]
  exact List.take_of_length_le (by simp; omega)
/-- the element stands where it belongs -/
theorem insAt_asc (hk : k ≤ pre.length) (hp : ascW pre) (hb : ∀ y ∈ pre.drop k, cmpL x y < 0) (ha : ∀ y, pre[k - 1]? = some y → 0 < k → ¬ cmpL x y < 0) : ascW (pre.take k ++ x :: pre.drop k) := by
  have hp' : ascW (pre.take k ++ pre.drop k) := by rw [List.take_append_drop]; exact hp
  obtain ⟨p1, p2, p3⟩ := List.pairwise_append.1 hp'
  refine List.pairwise_append.2 ⟨p1, List.pairwise_cons.2 ⟨fun y hy h => cmpL_irrefl x (cmpL_trans _ _ _ (hb y hy) h), p2⟩, fun a ha' b hb' => ?_⟩
  rcases List.mem_cons.1 hb' with rfl | hb'
  · have hk0 : 0 < k := by
      rcases Nat.eq_zero_or_pos k with e | e
      · subst e; simp at ha'
      · exact e
    obtain ⟨z, hz⟩ := get_at pre (show k - 1 < pre.length by omega)
    have hz2 := ha z hz hk0
    -- a is at most z, z at most the new element
    have haz : ¬ cmpL z a < 0 := by
      obtain ⟨i, hi⟩ := List.getElem?_of_mem ha'
      have hil := lt_of_at hi
      rw [List.length_take] at hil
      rw [List.getElem?_take, if_pos (by omega)] at hi
      rcases Nat.lt_or_ge i (k - 1) with h | h
      · obtain ⟨i1, i2⟩ := List.getElem?_eq_some_iff.1 hi
        obtain ⟨z1, z2⟩ := List.getElem?_eq_some_iff.1 hz
        have := List.pairwise_iff_getElem.1 hp i (k - 1) i1 z1 h
        rw [i2, z2] at this
        exact this
      · obtain rfl : i = k - 1 := by omega
        rw [hi] at hz
        injection hz with hz
        rw [hz]
        exact cmpL_irrefl z
    intro h
    rcases cmpL_tri z a with e | e | e
    · exact haz e
    · subst e; exact hz2 h
    · exact hz2 (cmpL_trans _ _ _ h e)
  · exact p3 a ha' b hb'
end
theorem OwnRep.noOff {α : Type} {k base : Nat} {R : CRep α} {e : TypeId} {w : World} {xs : List α} {v u : Value} (hR : Shape k R) (h : OwnRep k (offR R u) e base w xs v) : OwnRep k R e base w xs v := by
  obtain ⟨css, hl, hr, hrow⟩ := h
  exact ⟨css, hl, fun i x cs hx hcs => hR.mono (fun b hb => hb.1) (hr i x cs hx hcs), hrow⟩
/-- two elements of a row of one-cell elements change places -/
theorem OwnRep.swap {α : Type} {R : CRep α} (hR : Shape 1 R) {e : TypeId} {base g n cap i j : Nat} {w : World} {xs : List α} {x y : α} (h : OwnRep 1 R e base w xs (.slice (some ⟨g, 0, none⟩) n cap)) (hx : xs[i]? = some x) (hy : xs[j]? = some y) :
    ∃ ux uy, w.cell? ⟨g, i, none⟩ = some ux ∧ w.cell? ⟨g, j, none⟩ = some uy ∧ w.frozen? ⟨g, i, none⟩ = false ∧ w.frozen? ⟨g, j, none⟩ = false ∧ R w (fun b => b < w.heap.size ∧ b ≠ g) x [ux] ∧ R w (fun b => b < w.heap.size ∧ b ≠ g) y [uy] ∧
      OwnRep 1 R e base ((w.setCell ⟨g, i, none⟩ uy).setCell ⟨g, j, none⟩ ux) ((xs.set i y).set j x) (.slice (some ⟨g, 0, none⟩) n cap) := by
  obtain ⟨css, hl, hr, hrow⟩ := h
  have hil := lt_of_at hx
  have hjl := lt_of_at hy
  have hcells := hrow.cells (g := g) rfl
  rcases hrow.2 with ⟨h0, _⟩ | ⟨g', cap', cur, hv, hbg, hg, hcap, hm, hs, ht⟩
  · cases h0
  injection hv with hv1 hv2 hv3
  injection hv1 with hv1
  injection hv1 with hv1
  subst hv1 hv2 hv3
  obtain ⟨cx, hcx⟩ := get_at css (show i < css.length by omega)
  obtain ⟨cy, hcy⟩ := get_at css (show j < css.length by omega)
  have rx := hr i x cx hx hcx
  have ry := hr j y cy hy hcy
  obtain ⟨ux, rfl⟩ : ∃ ux, cx = [ux] := List.length_eq_one_iff.1 (hR.len rx)
  obtain ⟨uy, rfl⟩ : ∃ uy, cy = [uy] := List.length_eq_one_iff.1 (hR.len ry)
  have hne : ∀ b, (Value.slice (some ⟨g, 0, none⟩) xs.length cap).ownBlock ≠ some b → b ≠ g := fun b hb e => hb (by rw [e]; rfl)
  have hfl : ∀ (i : Nat) c, css[i]? = some [c] → css.flatten[i]? = some c := fun i c hc => by
    obtain ⟨z, hz⟩ := get_at xs (show i < xs.length by have := lt_of_at hc; omega)
    simpa using flatten_at hR hl hr i z [c] 0 c hz hc rfl
  have fx := hfl i ux hcx
  have fy := hfl j uy hcy
  have c1 := hcells i ux fx
  have c2 := hcells j uy fy
  have hadd : ∀ i, (⟨g, 0, none⟩ : Addr).add i = ⟨g, i, none⟩ := fun i => by unfold Addr.add; split <;> simp_all
  rw [hadd] at c1 c2
  refine ⟨ux, uy, c1, c2, by simp [World.frozen?, hg], by simp [World.frozen?, hg], hR.mono (fun b hb => ⟨hb.1, hne b hb.2⟩) rx, hR.mono (fun b hb => ⟨hb.1, hne b hb.2⟩) ry, ?_⟩
  have hkeep : ∀ b, b ≠ g → ((w.setCell ⟨g, i, none⟩ uy).setCell ⟨g, j, none⟩ ux).heap[b]? = w.heap[b]? := fun b hb => by
    rw [Below.heap_setCell _ _ _ _ hb, Below.heap_setCell _ _ _ _ hb]
  refine ⟨(css.set i [uy]).set j [ux], by simp [hl], fun m z cs hz hcs => ?_, ?_⟩
  · have conv : ∀ {z : α} {cs : List Value}, R w (fun b => b < w.heap.size ∧ (Value.slice (some ⟨g, 0, none⟩) xs.length cap).ownBlock ≠ some b) z cs → R ((w.setCell ⟨g, i, none⟩ uy).setCell ⟨g, j, none⟩ ux) (fun b => b < ((w.setCell ⟨g, i, none⟩ uy).setCell ⟨g, j, none⟩ ux).heap.size ∧ (Value.slice (some ⟨g, 0, none⟩) xs.length cap).ownBlock ≠ some b) z cs :=
      fun h => hR.mono (fun b hb => ⟨by simpa [World.setCell] using hb.1, hb.2⟩) (hR.frame (fun b hb => hkeep b (hne b hb.2)) h)
    rw [List.getElem?_set, List.getElem?_set] at hz hcs
    simp only [List.length_set] at hz hcs
    by_cases h1 : j = m
    · rw [if_pos h1, if_pos hjl] at hz
      rw [if_pos h1, if_pos (by omega)] at hcs
      injection hz with hz
      injection hcs with hcs
      subst hz hcs
      exact conv rx
    · rw [if_neg h1] at hz hcs
      by_cases h2 : i = m
      · rw [if_pos h2, if_pos hil] at hz
        rw [if_pos h2, if_pos (by omega)] at hcs
        injection hz with hz
        injection hcs with hcs
        subst hz hcs
        exact conv ry
      · rw [if_neg h2] at hz hcs
        exact conv (hr m z cs hz hcs)
  · have one : ∀ (css : List (List Value)) (i : Nat) (c u : Value), (∀ c ∈ css, c.length = 1) → css[i]? = some [c] → (css.set i [u]).flatten = css.flatten.set i u := fun css i c u hc hi => by
      simpa using flatten_set (k := 1) css i 0 [c] u hc hi (by omega)
    have hlen : ∀ c ∈ css, c.length = 1 := fun c hc => by
      obtain ⟨m, hm⟩ := List.getElem?_of_mem hc
      obtain ⟨z, hz⟩ := get_at xs (show m < xs.length by have := lt_of_at hm; omega)
      exact hR.len (hr m z c hz hm)
    have hlen2 : ∀ c ∈ css.set i [uy], c.length = 1 := fun c hc => by
      rcases List.mem_or_eq_of_mem_set hc with h | h
      · exact hlen c h
      · rw [h]; rfl
    have hcy2 : ∃ c, (css.set i [uy])[j]? = some [c] := by
      rw [List.getElem?_set]
      by_cases h : i = j
      · rw [if_pos h, if_pos (by omega)]; exact ⟨_, rfl⟩
      · rw [if_neg h]; exact ⟨_, hcy⟩
    obtain ⟨c', hc'⟩ := hcy2
    have hf : ((css.set i [uy]).set j [ux]).flatten = (css.flatten.set i uy).set j ux := by rw [one _ _ _ _ hlen2 hc', one _ _ _ _ hlen hcx]
    refine ⟨by rw [hf, List.length_set, List.length_set, List.length_set, List.length_set]; exact hrow.1, .inr ⟨g, cap, (cur.setIfInBounds i uy).setIfInBounds j ux, by simp, hbg, ?_, by simpa using hcap, hm, by simpa using hs, ?_⟩⟩
    · simp [World.setCell, Array.getElem?_modify, hg]
    · rw [hf]
      simp only [List.length_set, Array.toList_setIfInBounds, List.take_set, ht]
def ReachPost (ls : List Shelf) (bs : List Box) (s : List Int) (w : World) (e : Ending) (w' : World) : Prop := ∃ (ys : List (List Int)) (v' : Value), e = .returned (.tuple #[v', .int .i64 (possE ls bs s)]) ∧ States w' w'.heap.size ys v' ∧ (possE ls bs s = 0 → ys.Perm ((reachF ls bs s).map Prod.fst) ∧ ascW ys) ∧ (possE ls bs s ≠ 0 → ys = []) ∧ Below w.heap.size w w'
theorem Reached_full (ls : List Shelf) (bs : List Box) (s : List Int) (vl vb vs : Value) (w : World) (B : Nat) (hB : B ≤ w.heap.size) (hl : Shelves w B ls vl) (hbx : Boxes w B bs vb) (ha : Ints w B s vs) :
    Calls Try.prog 16 #[vl, vb, vs] w (ReachPost ls bs s w) := by
  by_cases h1 : possE ls bs s = 0
  · refine (Reached_ok ls bs s vl vb vs w B hB hl hbx ha h1).mono ?_
    rintro e w' ⟨v', ys, rfl, hp, hasc, hown, hb⟩
    exact ⟨ys, v', by rw [h1], hown.toSl saS, fun _ => ⟨hp, hasc⟩, fun h => absurd h1 h, hb⟩
  · refine (Reached_bad ls bs s vl vb vs w B hB hl hbx ha h1).mono ?_
    rintro e w' ⟨rfl, hb⟩
    exact ⟨[], _, rfl, SlRep.nil_, fun h => absurd h h1, fun _ => rfl, hb⟩
set_option maxRecDepth 100000 in
set_option maxHeartbeats 8000000 in
theorem rReached_c (ls : List Shelf) (bs : List Box) (s : List Int) (vl vb vs : Value) (w : World) (B : Nat) (hB : B ≤ w.heap.size) (hl : Shelves w B ls vl) (hbx : Boxes w B bs vb) (ha : Ints w B s vs) :
    Calls Try.prog 17 #[vl, vb, vs] w (ReachPost ls bs s w) := by
  have HO := Lib.hid (rpossible_c ls bs s vl vb vs w B hB hl hbx ha)
  by_cases hp : possE ls bs s = 0
  · have HPS := Lib.hid hp
    rw [hp] at HO
    obtain ⟨hst, hr1, hh1⟩ := poss_zero hp
    have HFL := Lib.hid (fun (W : World) (hW : Below w.heap.size w W) => flood_c ls bs s vl vb vs W B (Nat.le_trans hB hW.size) (hl.below shS (hW.mono hB)) (hbx.below boS (hW.mono hB)) (ha.below inS (hW.mono hB)) hst ⟨hr1, hh1⟩)
    have hlen4 := (reach_found hst ⟨hr1, hh1⟩).2.2
    have hpos : 0 < (reachF ls bs s).length := by
      obtain ⟨q, hq, _⟩ := (reach_found hst ⟨hr1, hh1⟩).1.least [] s rfl
      exact List.length_pos_of_mem hq
    clear hp hst hr1 hh1
    go_enter Try.func17, Try.ntmps17
    go_wp2_with fail
    refine HO.out.mono ?_
    rintro e w1 ⟨rfl, hb1⟩
    go_wp2_with fail
    refine (HFL.out _ hb1).mono ?_
    rintro e w3 ⟨v3, u3, rfl, hT, hb3⟩
    have B3 := hb1.trans (hb3.mono hb1.size)
    have hs3 := B3.size
    have hown := (hT.fst.noOff saS).base_leS hb1.size
    obtain ⟨g, cap, rfl, hgb, hgl, hgc1, hgc2⟩ := own_ptr hown (n := (reachF ls bs s).length) (by simp) hpos
    obtain ⟨n, hn⟩ : ∃ n, (reachF ls bs s).length = n := ⟨_, rfl⟩
    rw [hn] at hlen4 hpos hgc1 hown ⊢
    obtain ⟨zs0, hz0⟩ : ∃ zs, (reachF ls bs s).map Prod.fst = zs := ⟨_, rfl⟩
    have hz1 : zs0.length = n := by rw [← hz0]; simpa using hn
    have HZ0 := Lib.hid hz0
    have HZN := Lib.hid hz1
    have HPR := Lib.hid (show zs0.Perm zs0 ∧ ascW (zs0.take 0) from ⟨List.Perm.refl _, by simp [ascW]⟩)
    rw [hz0] at hown
    clear hz0 hz1 hn hT HO HFL hb1 hb3
    go_wp2
    go_loopw [29] (fun v29 wr => ∃ (i : Nat) (zs : List (List Int)), v29 = .int .i64 i ∧ i ≤ n ∧ Hid (zs.Perm zs0 ∧ ascW (zs.take i)) ∧ OwnRep 1 stateR 26 w.heap.size wr zs (.slice (some ⟨g, 0, none⟩) n cap) ∧ Below w.heap.size w wr) (fun v29 _ => n - (intOf v29).toNat)
    case atStart => exact ⟨0, zs0, rfl, Nat.zero_le _, HPR, hown, B3⟩
    case round =>
      clear HPR hown B3 hs3 hgl
      obtain ⟨i, zs, rfl, hi, HPR, hown, Br⟩ := hrel
      have hsr := Br.size
      by_cases hlt : i < n
      · have hzl : zs.length = n := by rw [HPR.out.1.length_eq]; exact HZN.out
        obtain ⟨x, hx⟩ := get_at zs (show i < zs.length by omega)
        obtain ⟨pre, hpre⟩ : ∃ pre, pre = zs.take i := ⟨_, rfl⟩
        obtain ⟨rest, hrest⟩ : ∃ rest, rest = zs.drop (i + 1) := ⟨_, rfl⟩
        have hpl : pre.length = i := by rw [hpre, List.length_take]; omega
        have HPL := Lib.hid hpl
        have hzs : zs = pre ++ x :: rest := by rw [hpre, hrest, ← drop_at hx, List.take_append_drop]
        have HPE := Lib.hid (show (pre ++ x :: rest).Perm zs0 by rw [← hzs]; exact HPR.out.1)
        have HPA := Lib.hid (show ascW pre by rw [hpre]; exact HPR.out.2)
        rw [hzs, ← insAt_end hpl] at hown
        have HA0 := Lib.hid (fun y (hy : y ∈ pre.drop i) => (show cmpL x y < 0 by rw [List.drop_of_length_le (by omega)] at hy; exact absurd hy (by simp)))
        have HN := Lib.hid (show ∀ k, k ≤ i → (insAt pre x rest k).length = n from fun k _ => by rw [insAt_len, hpl, hrest, List.length_drop]; omega)
        have HEND := Lib.hid (show ∀ k, k ≤ i → (∀ y ∈ pre.drop k, cmpL x y < 0) → (∀ y, pre[k - 1]? = some y → 0 < k → ¬ cmpL x y < 0) → (insAt pre x rest k).Perm zs0 ∧ ascW ((insAt pre x rest k).take (i + 1)) from fun k hk h1 h2 => ⟨insAt_perm.trans HPE.out, by rw [← hpl, insAt_take (by omega)]; exact insAt_asc (by omega) HPA.out h1 h2⟩)
        clear hzl hx hpre hrest hzs hpl HPR HZN
        obtain ⟨wo, rfl⟩ : ∃ wo : World, wo = wr := ⟨_, rfl⟩
        go_wp2
        go_loopw [12] (fun v12 wr => ∃ k : Nat, v12 = .int .i64 k ∧ k ≤ i ∧ Hid (∀ y ∈ pre.drop k, cmpL x y < 0) ∧ OwnRep 1 stateR 26 w.heap.size wr (insAt pre x rest k) (.slice (some ⟨g, 0, none⟩) n cap) ∧ Below w.heap.size w wr) (fun v12 _ => (intOf v12).toNat)
        case atStart => exact ⟨i, rfl, Nat.le_refl _, HA0, hown, Br⟩
        case round =>
          clear HA0 hown Br hsr
          obtain ⟨k, rfl, hk, HA, hown, Br⟩ := hrel
          have hsr := Br.size
          rcases Nat.eq_zero_or_pos k with hk0 | hk0
          · subst hk0
            have HE := Lib.hid (HEND.out 0 (Nat.zero_le _) HA.out (fun y _ h => absurd h (by omega)))
            go_wp2
            go_quiet (fail)
            go_wp2
            exact ⟨⟨i + 1, _, by go_num, by omega, HE, hown.below saS (below_drewN (Below.refl _ _) _), below_drewN Br _⟩, by simp [intOf]; omega⟩
          · obtain ⟨k', rfl⟩ : ∃ k', k = k' + 1 := ⟨k - 1, by omega⟩
            obtain ⟨y, hy⟩ := get_at pre (show k' < pre.length by have := HPL.out; omega)
            have HY := Lib.hid hy
            have hkl : k' + 1 ≤ pre.length := by have := HPL.out; omega
            obtain ⟨ux, uy, c1, c2, -, -, rx, ry, -⟩ := hown.swap saS (insAt_at hkl) (insAt_prev hy)
            obtain ⟨ux', hux, rx'⟩ := rx
            obtain ⟨uy', huy, ry'⟩ := ry
            injection hux with hux
            injection huy with huy
            subst hux huy
            obtain ⟨Ax, cx, rfl, -⟩ := id rx'
            obtain ⟨Ay, cy, rfl, -⟩ := id ry'
            have hki0 : (0 : Int) < (k' : Int) + 1 := by omega
            have hki1 : (k' : Int) + 1 < (n : Int) := by omega
            have hki2 : (0 : Int) ≤ (k' : Int) := by omega
            have hki3 : (k' : Int) < (n : Int) := by omega
            have hgw : g < wr.heap.size := (hown.own_lt g rfl).2
            have KEEP := Lib.hid (fun (W : World) (hW : Below wr.heap.size wr W) => (⟨(hW.cell (p := ⟨g, k' + 1, none⟩) hgw).trans c1, (hW.cell (p := ⟨g, k', none⟩) hgw).trans c2⟩ : W.cell? ⟨g, k' + 1, none⟩ = some (.slice Ax x.length cx) ∧ W.cell? ⟨g, k', none⟩ = some (.slice Ay y.length cy)))
            have HL := Lib.hid (fun (W : World) (hW : Below wr.heap.size wr W) => Calls.below_of (less_c x y _ _ W (fun b => b < wr.heap.size) (fun b hb => Nat.lt_of_lt_of_le hb hW.size) ((rx'.monoF inS (fun b hb => hb.1)).below inS hW) ((ry'.monoF inS (fun b hb => hb.1)).below inS hW)))
            have hbX : Below wr.heap.size wr wr.drew := (Below.refl _ _).drew
            have hki4 : (0 : Int) ≤ (k' : Int) + 1 := by omega
            have hkt : ((k' : Int) + 1).toNat = k' + 1 := by omega
            have hw0 : IntKind.i64.wrap ((k' : Int) + 1 - 1) = (k' : Int) := by rw [Int.add_sub_cancel]; exact IntWalk.i64_in _ (by omega)
            have hw1 : IntKind.i64.wrap (k' : Int) = (k' : Int) := IntWalk.i64_in _ (by omega)
            clear hy rx' ry' c1 c2 hk0
            cases hlt2 : ltL x y
            · have HE := Lib.hid (HEND.out (k' + 1) hk HA.out (fun z hz _ => by
                rw [Nat.add_sub_cancel, HY.out] at hz
                injection hz with hz
                subst hz
                simpa [ltL] using hlt2))
              rw [hlt2] at HL
              clear hlt2
              go_wp2
              go_region_held3 (fun W => W.cell? ⟨g, k' + 1, none⟩ = some (.slice Ax x.length cx) ∧ W.cell? ⟨g, k', none⟩ = some (.slice Ay y.length cy)) (with_reducible exact KEEP.out _ hbX) (first
                | (go_at_call 50; (with_reducible refine (HL.out _ hbX).mono ?_); rintro e wL ⟨rfl, hb'⟩; have hbX := bnd_call hbX (Nat.le_refl _) hb'))
              go_wp2
              go_roundw
              case rel => exact ⟨i + 1, _, by go_num, by omega, HE, hown.below saS hbX, Br.trans (hbX.mono hsr)⟩
              case measure => simp [intOf]; omega
            · have HAN := Lib.hid (show ∀ z ∈ pre.drop k', cmpL x z < 0 from fun z hz => by
                rw [drop_at HY.out] at hz
                rcases List.mem_cons.1 hz with rfl | hz
                · simpa [ltL] using hlt2
                · exact HA.out z hz)
              rw [hlt2] at HL
              clear hlt2
              go_wp2
              go_region_held3 (fun W => W.cell? ⟨g, k' + 1, none⟩ = some (.slice Ax x.length cx) ∧ W.cell? ⟨g, k', none⟩ = some (.slice Ay y.length cy)) (with_reducible exact KEEP.out _ hbX) (first
                | (go_at_call 50; (with_reducible refine (HL.out _ hbX).mono ?_); rintro e wL ⟨rfl, hb'⟩; have hbX := bnd_call hbX (Nat.le_refl _) hb'))
              have hownL := (hown.below saS hbX)
              have BrL := Br.trans (hbX.mono hsr)
              obtain ⟨q1, q2⟩ := KEEP.out _ hbX
              obtain ⟨vx, vy, d1, d2, d3, d4, -, -, hsw⟩ := hownL.swap saS (insAt_at hkl) (insAt_prev HY.out)
              rw [q1] at d1
              rw [q2] at d2
              injection d1 with d1
              injection d2 with d2
              subst d1 d2
              rw [insAt_swap HY.out] at hsw
              clear hbX KEEP HL hown hownL
              go_wp2
              go_region
              go_wp2
              go_roundw
              case rel => exact ⟨k', by go_num, by omega, HAN, hsw.below saS (Below.refl _ _).drew, ((BrL.setCell (p := ⟨g, k' + 1, none⟩) hgb _).setCell (p := ⟨g, k', none⟩) hgb _).drew⟩
              case measure => simp [intOf]
      · have HE := Lib.hid (show zs.Perm ((reachF ls bs s).map Prod.fst) ∧ ascW zs by
          refine ⟨by rw [HZ0.out]; exact HPR.out.1, ?_⟩
          have := HPR.out.2
          rwa [List.take_of_length_le (by rw [HPR.out.1.length_eq, HZN.out]; omega)] at this)
        go_wp2
        go_ret2
        exact ⟨zs, _, by rw [HPS.out]; rfl, hown.toSl saS, fun _ => HE.out, fun h => absurd HPS.out h, Br⟩
  · have HE := Lib.hid hp
    obtain ⟨n1, n2⟩ := ne_bool hp
    clear hp
    go_enter Try.func17, Try.ntmps17
    go_wp2_with fail
    refine HO.out.mono ?_
    rintro e w1 ⟨rfl, hb1⟩
    go_wp2
    go_ret2
    exact ⟨[], .slice none 0 0, rfl, SlRep.nil_, fun h => absurd h HE.out, fun _ => rfl, hb1⟩
open Go.RowKit

theorem eqIs_self (xs : List (List Int)) : eqL eqIs xs xs = true := (eqL_iff eqIs_iff xs xs).2 rfl
/-- what both list of reached states -/
theorem reach_same {ls : List Shelf} {bs : List Box} {s : List Int} {ys zs : List (List Int)} (hy : possE ls bs s = 0 → ys.Perm ((reachF ls bs s).map Prod.fst) ∧ ascW ys) (hy0 : possE ls bs s ≠ 0 → ys = []) (hz : possE ls bs s = 0 → zs.Perm ((reachF ls bs s).map Prod.fst) ∧ ascW zs) (hz0 : possE ls bs s ≠ 0 → zs = []) : ys = zs := by
  by_cases h : possE ls bs s = 0
  · exact asc_one ys zs ((hy h).1.trans (hz h).1.symm) (hy h).2 (hz h).2
  · rw [hy0 h, hz0 h]
set_option maxRecDepth 100000 in
set_option maxHeartbeats 8000000 in
theorem plans_law (ls : List Shelf) (bs : List Box) (x0 x1 : List Int) (vl vb v0 v1 : Value) (w : World) (B : Nat) (hB : B ≤ w.heap.size) (hl : Shelves w B ls vl) (hbx : Boxes w B bs vb) (h0 : Ints w B x0 v0) (h1 : Ints w B x1 v1) :
    Calls Try.prog 3 #[.agg #[vl, vb], v0, v1] w fun e w' => e = .returned (.bool true) ∧ Below w.heap.size w w' := by
  have b0 : Below w.heap.size w (w.alloc (roomsC vl vb)) := (Below.refl _ _).alloc (Nat.le_refl _) _
  have ZK := Lib.hid (fun (W : World) (hW : Below (w.heap.size + 1) (w.alloc (roomsC vl vb)) W) => (⟨(hW.cell (p := ⟨w.heap.size, 0, none⟩) (by simp)).trans (by simp), (hW.cell (p := ⟨w.heap.size, 1, none⟩) (by simp)).trans (by simp), by have := hW.size; simp at this; omega⟩ : W.cell? ⟨w.heap.size, 0, none⟩ = some vl ∧ W.cell? ⟨w.heap.size, 1, none⟩ = some vb ∧ w.heap.size < W.heap.size))
  have HFW := Lib.hid (fun (W : World) (hW : Below w.heap.size w W) => few_c ls bs vl vb W B (Nat.le_trans hB hW.size) (hl.below shS (hW.mono hB)) (hbx.below boS (hW.mono hB)))
  obtain ⟨A, c, rfl, hc1, hc2, _⟩ := id hl
  obtain ⟨A', c', rfl, hd1, hd2, _⟩ := id hbx
  obtain ⟨A2, c2, rfl, he1, he2, _⟩ := id h0
  obtain ⟨A3, c3, rfl, hg1, hg2, _⟩ := id h1
  go_enter Try.func3, Try.ntmps3
  go_wp2_with fail
  refine (awake_c _).mono ?_
  rintro e w1 ⟨rfl, hb1⟩
  simp only [World.size_alloc] at hb1
  have B1 := b0.trans (hb1.mono (by omega))
  obtain ⟨z0, z1, zl⟩ := ZK.out w1 hb1
  cases hfew : fewB ls bs
  · rw [hfew] at HFW
    clear hfew
    go_wp2_with fail
    refine (HFW.out _ B1).mono ?_
    rintro e w2 ⟨rfl, hb2⟩
    go_wp2
    go_ret
    exact ⟨rfl, B1.trans (hb2.mono B1.size)⟩
  · obtain ⟨f1, f2, f3⟩ := few_ok hfew
    rw [hfew] at HFW
    have HF3 := Lib.hid f3
    clear hfew f3
    by_cases h30 : x0.length ≤ 30
    · have hi : decide ((30 : Int) < (x0.length : Int)) = false := by simp; omega
      by_cases h31 : x1.length ≤ 30
      · have hj : decide ((30 : Int) < (x1.length : Int)) = false := by simp; omega
        go_wp2_with fail
        refine (HFW.out _ B1).mono ?_
        rintro e w2 ⟨rfl, hb2⟩
        have b12 := hb1.trans (hb2.mono (by have := hb1.size; simp at this; omega))
        have B2 := b0.trans (b12.mono (by omega))
        clear z0 z1 zl
        obtain ⟨z0, z1, zl⟩ := ZK.out w2 b12
        go_wp2_with fail
        refine (all_c ls bs _ _ w2 B (Nat.le_trans hB B2.size) (hl.below shS (B2.mono hB)) (hbx.below boS (B2.mono hB)) (by omega) (by omega) (fun b hb => by have := HF3.out b hb; omega)).mono ?_
        rintro e w3 ⟨ul, ub, rfl, h3l, h3b, hb3⟩
        have b13 := b12.trans (hb3.mono (by omega))
        have B3 := b0.trans (b13.mono (by omega))
        have hs3 := B3.size
        have LB3 : LB w3 ls bs ul ub := ⟨h3l, h3b⟩
        obtain ⟨Al, cl, rfl, -⟩ := id h3l
        obtain ⟨Ab, cb, rfl, -⟩ := id h3b
        clear z0 z1 zl h3l h3b
        have HZ := Lib.hid (fun (W : World) (hW : Below w3.heap.size w3 W) => ZK.out W (b13.trans (hW.mono (by have := b13.size; simp at this; omega))))
        have HC0 := Lib.hid (fun (W : World) (hW : Below w3.heap.size w3 W) => cloneI_c x0 (.slice A2 x0.length c2) W B (by have := hW.size; omega) (h0.below inS ((B3.trans (hW.mono hs3)).mono hB)) (by omega))
        have HC1 := Lib.hid (fun (W : World) (hW : Below w3.heap.size w3 W) => cloneI_c x1 (.slice A3 x1.length c3) W B (by have := hW.size; omega) (h1.below inS ((B3.trans (hW.mono hs3)).mono hB)) (by omega))
        have HPL := Lib.hid (fun (u0 u1 : Value) (W : World) (hW : Below w3.heap.size w3 W) (k0 : Ints W W.heap.size x0 u0) (k1 : Ints W W.heap.size x1 u1) => Plan_full ls bs x0 x1 _ _ u0 u1 W W.heap.size (Nat.le_refl _) (LB3.below hW).l (LB3.below hW).b k0 k1)
        have HRE := Lib.hid (fun (u0 : Value) (W : World) (hW : Below w3.heap.size w3 W) (k0 : Ints W W.heap.size x0 u0) => Reached_full ls bs x0 _ _ u0 W W.heap.size (Nat.le_refl _) (LB3.below hW).l (LB3.below hW).b k0)
        have HRP := Lib.hid (fun (W : World) (hW : Below w3.heap.size w3 W) => rPlan_c ls bs x0 x1 _ _ _ _ W B (by have := hW.size; omega) (hl.below shS ((B3.trans (hW.mono hs3)).mono hB)) (hbx.below boS ((B3.trans (hW.mono hs3)).mono hB)) (h0.below inS ((B3.trans (hW.mono hs3)).mono hB)) (h1.below inS ((B3.trans (hW.mono hs3)).mono hB)))
        have HRR := Lib.hid (fun (W : World) (hW : Below w3.heap.size w3 W) => rReached_c ls bs x0 _ _ _ W B (by have := hW.size; omega) (hl.below shS ((B3.trans (hW.mono hs3)).mono hB)) (hbx.below boS ((B3.trans (hW.mono hs3)).mono hB)) (h0.below inS ((B3.trans (hW.mono hs3)).mono hB)))
        clear HFW ZK HF3 b13 b12 hb3 hb2 hb1 B2 B1 LB3
        go_wp2_with fail
        refine (HC0.out _ (Below.refl _ _)).mono ?_
        rintro e w4 ⟨v4, rfl, hown4, hb4⟩
        have k0 := hown4.toSl inS
        obtain ⟨A4, c4, rfl, -⟩ := id k0
        go_wp2_with fail
        refine (HC1.out _ hb4).mono ?_
        rintro e w5 ⟨v5, rfl, hown5, hb5⟩
        have k1 := hown5.toSl inS
        obtain ⟨A5, c5, rfl, -⟩ := id k1
        have b5 := bnd_call hb4 (Nat.le_refl _) hb5
        clear hown4 hown5
        go_wp2_with fail
        refine (HPL.out _ _ _ b5 ((k0.below inS hb5).mono inS hb5.size) k1).mono ?_
        rintro e w6 ⟨v6, rfl, h6, hb6⟩
        have b6 := bnd_call b5 (Nat.le_refl _) hb6
        clear k0 k1
        obtain ⟨A6, c6, rfl, -⟩ := id h6
        obtain ⟨z0, z1, -⟩ := HZ.out _ b6
        go_wp2_with fail
        refine (HRP.out _ b6).mono ?_
        rintro e w7 ⟨v7, rfl, h7, hb7⟩
        have b7 := bnd_call b6 (Nat.le_refl _) hb7
        have q6 := (h6.below caS hb7).mono caS hb7.size
        obtain ⟨A7, c7, rfl, -⟩ := id h7
        clear z0 z1 h6
        go_wp2_with fail
        refine (HC0.out _ b7).mono ?_
        rintro e w8 ⟨v8, rfl, hown8, hb8⟩
        have k0 := hown8.toSl inS
        obtain ⟨A8, c8, rfl, -⟩ := id k0
        have b8 := bnd_call b7 (Nat.le_refl _) hb8
        clear hown8
        go_wp2_with fail
        refine (HRE.out _ _ b8 k0).mono ?_
        rintro e w9 ⟨ys, v9, rfl, h9, hy, hy0, hb9⟩
        have b9 := bnd_call b8 (Nat.le_refl _) hb9
        clear k0
        obtain ⟨A9, c9, rfl, -⟩ := id h9
        obtain ⟨z0, z1, -⟩ := HZ.out _ b9
        go_wp2_with fail
        refine (HRR.out _ b9).mono ?_
        rintro e w10 ⟨zs, v10, rfl, h10, hz, hz0, hb10⟩
        have b10 := bnd_call b9 (Nat.le_refl _) hb10
        obtain rfl := reach_same hy hy0 hz hz0
        clear hy hy0 hz hz0 z0 z1
        obtain ⟨A10, c10, rfl, -⟩ := id h10
        have b79 := bnd_call (bnd_call (bnd_call (Below.refl w7.heap.size w7) (Nat.le_refl _) hb8) (Nat.le_refl _) hb9) (Nat.le_refl _) hb10
        have HSM := Lib.hid (fun (W : World) (hW : Below w10.heap.size w10 W) => Calls.below_of (same_c (planL ls bs x0 x1) (planL ls bs x0 x1) _ _ W w10.heap.size hW.size (((q6.below caS b79).mono caS b79.size).below caS hW) (((h7.below caS b79).mono caS b79.size).below caS hW)))
        rw [eqLC_self] at HSM
        have HST := Lib.hid (fun (W : World) (hW : Below w10.heap.size w10 W) => Calls.below_of (sameStates_c ys ys _ _ W w10.heap.size hW.size (((h9.below saS hb10).mono saS hb10.size).below saS hW) (h10.below saS hW)))
        rw [eqIs_self] at HST
        have hE1 : (plE ls bs x0 x1 == plE ls bs x0 x1) = true := by simp
        have hE2 : (possE ls bs x0 == possE ls bs x0) = true := by simp
        go_wp2_with fail
        refine (HSM.out _ (Below.refl _ _)).mono ?_
        rintro e w11 ⟨rfl, hb11⟩
        go_wp2_with fail
        refine (HST.out _ hb11).mono ?_
        rintro e w12 ⟨rfl, hb12⟩
        go_wp2
        go_ret
        exact ⟨rfl, B3.trans ((bnd_call (bnd_call b10 (Nat.le_refl _) hb11) (Nat.le_refl _) hb12).mono hs3)⟩
      · have hj : decide ((30 : Int) < (x1.length : Int)) = true := by simp; omega
        go_wp2_with fail
        refine (HFW.out _ B1).mono ?_
        rintro e w2 ⟨rfl, hb2⟩
        go_wp2
        go_ret
        exact ⟨rfl, B1.trans (hb2.mono B1.size)⟩
    · have hi : decide ((30 : Int) < (x0.length : Int)) = true := by simp; omega
      go_wp2_with fail
      refine (HFW.out _ B1).mono ?_
      rintro e w2 ⟨rfl, hb2⟩
      go_wp2
      go_ret
      exact ⟨rfl, B1.trans (hb2.mono B1.size)⟩
end Go.Proofs.Ythabpkigflldmaa
