/- RelocateSafe returns true. -/
import Derived.Test.YthabpkigflldmaaLaA
import Derived.Test.YthabpkigflldmaaPlD
namespace Go.Proofs.Ythabpkigflldmaa
open Go.RowKit

theorem Plan_fail (ls : List Shelf) (bs : List Box) (s t : List Int) (vl vb vs vt : Value) (w : World) (B : Nat) (hB : B ≤ w.heap.size) (hl : Shelves w B ls vl) (hbx : Boxes w B bs vb) (ha : Ints w B s vs) (hat : Ints w B t vt) (h : ¬ (possE ls bs s = 0 ∧ possE ls bs t = 0 ∧ ∃ p, planF ls bs s t = some p)) :
    Calls Try.prog 13 #[vl, vb, vs, vt] w fun e w' => ∃ E : Int, E ≠ 0 ∧ e = .returned (.tuple #[.slice none 0 0, .int .i64 E]) ∧ Below w.heap.size w w' := by
  by_cases h1 : possE ls bs s = 0
  · by_cases h2 : possE ls bs t = 0
    · cases h3 : planF ls bs s t with
      | none => exact (Plan_none ls bs s t vl vb vs vt w B hB hl hbx ha hat h1 h2 h3).mono fun e w' ⟨he, hb⟩ => ⟨24, by decide, he, hb⟩
      | some p => exact absurd ⟨h1, h2, p, h3⟩ h
    · exact (Plan_bad2 ls bs s t vl vb vs vt w B hB hl hbx ha hat h1 h2).mono fun e w' ⟨he, hb⟩ => ⟨_, h2, he, hb⟩
  · exact (Plan_bad1 ls bs s vl vb vs vt w B hB hl hbx ha h1).mono fun e w' ⟨he, hb⟩ => ⟨_, h1, he, hb⟩
theorem found_short {σ γ : Type} {lt : γ → γ → Prop} {nbr : σ → List (γ × σ)} {s0 : σ} {out : List (σ × List γ)} [DecidableEq σ] (h : Found lt nbr s0 out) : ∀ (n j : Nat) (y : σ) (q : List γ), j ≤ n → out[j]? = some (y, q) → q.length ≤ j := by
  intro n
  induction n with
  | zero =>
    intro j y q hj hq
    obtain rfl : j = 0 := by omega
    obtain ⟨r, hr, hle⟩ := h.least [] s0 rfl
    have hr0 : r = [] := by
      rcases hle with rfl | hle
      · rfl
      · have := slt_len hle
        exact List.length_eq_zero_iff.1 (by simpa using this)
    subst hr0
    obtain ⟨i, hi⟩ := List.mem_iff_getElem?.1 hr
    rcases Nat.eq_zero_or_pos i with rfl | hi0
    · rw [hq] at hi; injection hi with hi; injection hi with _ e; subst e; simp
    · obtain ⟨h1, e1⟩ := List.getElem?_eq_some_iff.1 hq
      obtain ⟨h2, e2⟩ := List.getElem?_eq_some_iff.1 hi
      have := slt_len (List.pairwise_iff_getElem.1 h.sorted 0 i h1 h2 hi0)
      rw [e1, e2] at this
      simpa using this
  | succ n ih =>
    intro j y q hj hq
    rcases List.eq_nil_or_concat q with rfl | ⟨q', c, rfl⟩
    · simp
    · simp only [List.concat_eq_append] at hq ⊢
      have hmem := List.mem_of_getElem? hq
      obtain ⟨y', hy', hc⟩ := (leads_snoc nbr q' c s0 y).1 (h.leads _ hmem)
      obtain ⟨p', hp', hle⟩ := h.least q' y' hy'
      have hl1 : p'.length ≤ q'.length := by
        rcases hle with rfl | hle
        · exact Nat.le_refl _
        · exact slt_len hle
      obtain ⟨r, hr, hle2⟩ := h.least (p' ++ [c]) y ((leads_snoc nbr p' c s0 y).2 ⟨y', h.leads _ hp', hc⟩)
      have := h.uniq hr hmem
      subst this
      have hl2 : (q' ++ [c]).length ≤ (p' ++ [c]).length := by
        rcases hle2 with e | hle2
        · rw [e]; exact Nat.le_refl _
        · exact slt_len hle2
      simp only [List.length_append, List.length_cons, List.length_nil] at hl2 ⊢
      obtain ⟨i, hi⟩ := List.mem_iff_getElem?.1 hp'
      obtain ⟨h1, e1⟩ := List.getElem?_eq_some_iff.1 hq
      obtain ⟨h2, e2⟩ := List.getElem?_eq_some_iff.1 hi
      rcases Nat.lt_trichotomy i j with hij | hij | hij
      · have := ih i y' p' (by omega) hi
        omega
      · subst hij
        rw [hq] at hi
        injection hi with hi
        injection hi with _ e
        have := congrArg List.length e
        simp at this
        omega
      · have := slt_len (List.pairwise_iff_getElem.1 h.sorted j i h1 h2 hij)
        rw [e1, e2] at this
        simp at this
        omega
theorem plan_len {ls : List Shelf} {bs : List Box} (hst : startE ls bs = 0) {s t : List Int} {p : List Carry} (hg : Good ls bs s) (h : planF ls bs s t = some p) : p.length ≤ 4096 := by
  obtain ⟨hF, _, hn⟩ := reach_found hst hg
  obtain ⟨i, hi⟩ := List.mem_iff_getElem?.1 (planF_some h)
  have h1 := found_short hF i i t p (Nat.le_refl _) hi
  have h2 := lt_of_at hi
  omega
theorem Apply_one (ls : List Shelf) (bs : List Box) (at_ y : List Int) (x : Carry) (vl vb va vp : Value) (w : World) (B : Nat) (hB : B ≤ w.heap.size) (hl : Shelves w B ls vl) (hbx : Boxes w B bs vb) (ha : Ints w B at_ va) (hpl : Carries w B [x] vp) (hst : startE ls bs = 0) (hg : Good ls bs at_) (hx : (x, y) ∈ nbrF ls bs at_) :
    Calls Try.prog 32 #[vl, vb, va, vp] w fun e w' => ∃ A c, e = .returned (.tuple #[.slice A y.length c, .int .i64 (-1), .int .i64 0]) ∧ Ints w' w'.heap.size y (.slice A y.length c) ∧ Below w.heap.size w w' := by
  have hp := poss_of hst hg.1 hg.2
  obtain ⟨h1, h2⟩ := fail_of_leads hst [x] at_ y 0 ⟨y, hx, rfl⟩
  have e1 : apL ls bs at_ [x] = y := by rw [apL, if_pos ⟨hp, by rw [h1]⟩, h2]
  have e2 : apI ls bs at_ [x] = -1 := by rw [apI, if_neg (by rw [h1]; simp)]
  have e3 : apE ls bs at_ [x] = 0 := by rw [apE, if_pos hp, h1]
  have := Apply_any ls bs at_ [x] vl vb va vp w B hB hl hbx ha hpl
  unfold ApplyAny at this
  rwa [e1, e2, e3] at this
theorem Apply_way (ls : List Shelf) (bs : List Box) (at_ y : List Int) (p : List Carry) (vl vb va vp : Value) (w : World) (B : Nat) (hB : B ≤ w.heap.size) (hl : Shelves w B ls vl) (hbx : Boxes w B bs vb) (ha : Ints w B at_ va) (hpl : Carries w B p vp) (hp : possE ls bs at_ = 0) (hx : Leads (nbrF ls bs) at_ p y) :
    Calls Try.prog 32 #[vl, vb, va, vp] w fun e w' => ∃ A c, e = .returned (.tuple #[.slice A y.length c, .int .i64 (-1), .int .i64 0]) ∧ Ints w' w'.heap.size y (.slice A y.length c) ∧ Below w.heap.size w w' := by
  obtain ⟨h1, h2⟩ := fail_of_leads (poss_zero hp).1 p at_ y 0 hx
  have e1 : apL ls bs at_ p = y := by rw [apL, if_pos ⟨hp, by rw [h1]⟩, h2]
  have e2 : apI ls bs at_ p = -1 := by rw [apI, if_neg (by rw [h1]; simp)]
  have e3 : apE ls bs at_ p = 0 := by rw [apE, if_pos hp, h1]
  have := Apply_any ls bs at_ p vl vb va vp w B hB hl hbx ha hpl
  unfold ApplyAny at this
  rwa [e1, e2, e3] at this
set_option maxRecDepth 100000 in
set_option maxHeartbeats 8000000 in
theorem safe_law (ls : List Shelf) (bs : List Box) (at_ plan : List Int) (vl vb va vp : Value) (w : World) (B : Nat) (hB : B ≤ w.heap.size) (hl : Shelves w B ls vl) (hbx : Boxes w B bs vb) (ha : Ints w B at_ va) (hpl : Ints w B plan vp) :
    Calls Try.prog 8 #[.agg #[vl, vb], va, vp] w fun e w' => e = .returned (.bool true) ∧ Below w.heap.size w w' := by
  have b0 : Below w.heap.size w (w.alloc (roomsC vl vb)) := (Below.refl _ _).alloc (Nat.le_refl _) _
  have ZK := Lib.hid (fun (W : World) (hW : Below (w.heap.size + 1) (w.alloc (roomsC vl vb)) W) => (⟨(hW.cell (p := ⟨w.heap.size, 0, none⟩) (by simp)).trans (by simp), (hW.cell (p := ⟨w.heap.size, 1, none⟩) (by simp)).trans (by simp), by have := hW.size; simp at this; omega⟩ : W.cell? ⟨w.heap.size, 0, none⟩ = some vl ∧ W.cell? ⟨w.heap.size, 1, none⟩ = some vb ∧ w.heap.size < W.heap.size))
  have HFW := Lib.hid (fun (W : World) (hW : Below w.heap.size w W) => few_c ls bs vl vb W B (Nat.le_trans hB hW.size) (hl.below shS (hW.mono hB)) (hbx.below boS (hW.mono hB)))
  obtain ⟨A, c, rfl, hc1, hc2, _⟩ := id hl
  obtain ⟨A', c', rfl, hd1, hd2, _⟩ := id hbx
  obtain ⟨A2, c2, rfl, he1, he2, _⟩ := id ha
  obtain ⟨A3, c3, rfl, hf1, hf2, _⟩ := id hpl
  go_enter Try.func8, Try.ntmps8
  go_wp2_with fail
  refine (awake_c _).mono ?_
  rintro e w1 ⟨rfl, hb1⟩
  simp only [World.size_alloc] at hb1
  have B1 := b0.trans (hb1.mono (by omega))
  obtain ⟨z0, z1, zl⟩ := ZK.out w1 hb1
  cases hfew : fewB ls bs
  · rw [hfew] at HFW
    clear hfew
    go_wp2_with fail
    refine (HFW.out _ B1).mono ?_
    rintro e w2 ⟨rfl, hb2⟩
    go_wp2
    go_ret
    exact ⟨rfl, B1.trans (hb2.mono B1.size)⟩
  · obtain ⟨f1, f2, f3⟩ := few_ok hfew
    rw [hfew] at HFW
    have HF3 := Lib.hid f3
    clear hfew f3
    by_cases h30 : at_.length ≤ 30
    · have hi : decide ((30 : Int) < (at_.length : Int)) = false := by simp; omega
      by_cases h31 : plan.length ≤ 30
      · have hj : decide ((30 : Int) < (plan.length : Int)) = false := by simp; omega
        go_wp2_with fail
        refine (HFW.out _ B1).mono ?_
        rintro e w2 ⟨rfl, hb2⟩
        have b12 := hb1.trans (hb2.mono (by have := hb1.size; simp at this; omega))
        have B2 := b0.trans (b12.mono (by omega))
        clear z0 z1 zl
        obtain ⟨z0, z1, zl⟩ := ZK.out w2 b12
        go_wp2_with fail
        refine (all_c ls bs _ _ w2 B (Nat.le_trans hB B2.size) (hl.below shS (B2.mono hB)) (hbx.below boS (B2.mono hB)) (by omega) (by omega) (fun b hb => by have := HF3.out b hb; omega)).mono ?_
        rintro e w3 ⟨ul, ub, rfl, h3l, h3b, hb3⟩
        have b13 := b12.trans (hb3.mono (by omega))
        have B3 := b0.trans (b13.mono (by omega))
        have hs3 := B3.size
        have LB3 : LB w3 ls bs ul ub := ⟨h3l, h3b⟩
        obtain ⟨Al, cl, rfl, -⟩ := id h3l
        obtain ⟨Ab, cb, rfl, -⟩ := id h3b
        clear z0 z1 zl h3l h3b
        go_wp2_with fail
        refine (cloneI_c at_ _ w3 B (Nat.le_trans hB hs3) (ha.below inS (B3.mono hB)) (by omega)).mono ?_
        rintro e w4 ⟨v4, rfl, hown4, hb4⟩
        have b14 := b13.trans (hb4.mono (by have := b13.size; simp at this; omega))
        have B4 := b0.trans (b14.mono (by omega))
        have LB4 := LB3.below hb4
        have h4 := hown4.toSl inS
        clear hown4 LB3
        obtain ⟨A4, c4, rfl, -⟩ := id h4
        go_wp2_with fail
        refine (cloneI_c plan _ w4 B (Nat.le_trans hB B4.size) (hpl.below inS (B4.mono hB)) (by omega)).mono ?_
        rintro e w5 ⟨v5, rfl, hown5, hb5⟩
        have b15 := b14.trans (hb5.mono (by have := b14.size; simp at this; omega))
        have B5 := b0.trans (b15.mono (by omega))
        have LB5 := LB4.below hb5
        have h5 := hown5.toSl inS
        have h45 := (h4.below inS hb5).mono inS hb5.size
        clear hown5 LB4 h4
        obtain ⟨A5, c5, rfl, -⟩ := id h5
        go_wp2_with fail
        by_cases hok : possE ls bs at_ = 0 ∧ possE ls bs plan = 0 ∧ ∃ p, planF ls bs at_ plan = some p
        · obtain ⟨hp0, hp1, p, hpp⟩ := hok
          obtain ⟨hst, hr0, hh0⟩ := poss_zero hp0
          have hg0 : Good ls bs at_ := ⟨hr0, hh0⟩
          have hld := plan_leads hst hg0 hpp
          have hb5s := boxes_ok (start_ok hst).2.1
          have HG0 := Lib.hid hg0
          have H0 := Lib.hid hst
          have HLD := Lib.hid hld
          have HBK := Lib.hid (leads_back hst p at_ plan hg0 hld)
          have hplen : p.length ≤ 4096 := by
            have h1 := (reach_found hst hg0).1
            exact plan_len hst hg0 hpp
          have hbl : bs.length ≤ 128 := hb5s.1
          refine (Plan_some ls bs at_ plan _ _ _ _ w5 w5.heap.size (Nat.le_refl _) LB5.l LB5.b h45 h5 hp0 hp1 p hpp).mono ?_
          rintro e w6 ⟨v6, rfl, h6, hb6⟩
          obtain ⟨A6, c6, rfl, hq1, hq2, -⟩ := id h6
          have b16 := b15.trans (hb6.mono (by have := b15.size; simp at this; omega))
          have B6 := b0.trans (b16.mono (by omega))
          have LB6 := LB5.below hb6
          have hs6 := B6.size
          have HP1 := Lib.hid hp1
          clear LB5 h45 h5 ZK HFW hp0 hp1 hpp hst hr0 hh0 hg0 hld hb5s
          go_wp2_with fail
          refine (cloneI_c at_ _ w6 B (by omega) (ha.below inS (B6.mono hB)) (by omega)).mono ?_
          rintro e w7 ⟨v7, rfl, hown7, hb7⟩
          have hs7 := hb7.size
          have hb67 := hb7
          have k7 := hown7.toSl inS
          obtain ⟨A7, c7, rfl, -⟩ := id k7
          clear hown7
          go_wp2
          go_loopw [11, 59] (fun o i wr => ∃ (k : Nat) (at1 : List Int) (Ao : Option Addr) (co : Nat), k ≤ p.length ∧ i = .int .i64 k ∧ o = .slice Ao at1.length co ∧ Ints wr wr.heap.size at1 (.slice Ao at1.length co) ∧ Hid (Good ls bs at1) ∧ Hid (Leads (nbrF ls bs) at1 (p.drop k) plan) ∧ Below w6.heap.size w6 wr) (fun _ i _ => p.length - (intOf i).toNat)
          case atStart => exact ⟨0, at_, A7, c7, Nat.zero_le _, rfl, rfl, k7, HG0, by rw [List.drop_zero]; exact HLD, hb67⟩
          case round =>
            clear hb67 k7 hb7 hs7
            obtain ⟨k, at1, Ao, co, hk, rfl, rfl, h1, HG, HL, hbr⟩ := hrel
            have hsr := hbr.size
            have hal1 : at1.length ≤ 128 := by rw [HG.out.1.1]; exact hbl
            by_cases hlt : k < p.length
            · obtain ⟨x, hx⟩ := get_at p hlt
              have hL := HL.out
              rw [drop_at hx] at hL
              obtain ⟨y, hy, hL2⟩ := hL
              have HL2 := Lib.hid hL2
              have HGY := Lib.hid (nbr_good H0.out HG.out hy)
              obtain ⟨b, off, rfl, hbB, g0, g1, g2⟩ := Carries.at_ (h6.below caS hbr) hx
              have hbw : b < wr.heap.size := by omega
              have hyl : y.length ≤ 128 := by rw [HGY.out.1.1]; exact hbl
              have HAP := Lib.hid (fun (va vp : Value) (W : World) (hW : Below w6.heap.size w6 W) (k1 : Ints W W.heap.size at1 va) (k2 : Carries W W.heap.size [x] vp) => Apply_one ls bs at1 y x _ _ va vp W W.heap.size (Nat.le_refl _) (LB6.below hW).l (LB6.below hW).b k1 k2 H0.out HG.out hy)
              have HPO := Lib.hid (fun (va : Value) (W : World) (hW : Below w6.heap.size w6 W) (k1 : Ints W W.heap.size y va) => possible_c ls bs y _ _ va W W.heap.size (Nat.le_refl _) (LB6.below hW).l (LB6.below hW).b k1)
              rw [poss_of H0.out HGY.out.1 HGY.out.2] at HPO
              have bq : Below wr.heap.size wr (wr.alloc (carryC x)) := (Below.refl _ _).alloc (Nat.le_refl _) _
              have z0 : (wr.alloc (carryC x)).cell? ⟨wr.heap.size, 0, none⟩ = some (.int .i64 x.box) := by simp
              have z1 : (wr.alloc (carryC x)).cell? ⟨wr.heap.size, 1, none⟩ = some (.int .i64 x.from_) := by simp
              have z2 : (wr.alloc (carryC x)).cell? ⟨wr.heap.size, 2, none⟩ = some (.int .i64 x.to_) := by simp
              have hqs : wr.heap.size < (wr.alloc (carryC x)).heap.size := by simp
              clear hx hy hL2
              go_upto_region 13 with fail
              generalize wr.alloc (carryC x) = wq at *
              have Bq := hbr.trans (bq.mono hsr)
              have hsq := bq.size
              have HCL := Lib.hid (fun (W : World) (hW : Below wq.heap.size wq W) => cloneI_c at1 (.slice Ao at1.length co) W wr.heap.size (by have := hW.size; omega) ((h1.below inS bq).below inS (hW.mono hsq)) (by omega))
              have KEEP := Lib.hid (fun (W : World) (hW : Below wq.heap.size wq W) => (⟨(hW.cell (p := ⟨wr.heap.size, 0, none⟩) hqs).trans z0, (hW.cell (p := ⟨wr.heap.size, 1, none⟩) hqs).trans z1, (hW.cell (p := ⟨wr.heap.size, 2, none⟩) hqs).trans z2⟩ : W.cell? ⟨wr.heap.size, 0, none⟩ = some (.int .i64 x.box) ∧ W.cell? ⟨wr.heap.size, 1, none⟩ = some (.int .i64 x.from_) ∧ W.cell? ⟨wr.heap.size, 2, none⟩ = some (.int .i64 x.to_)))
              have hbX : Below wq.heap.size wq wq.drew := (Below.refl _ _).drew
              have hbP1 : Below wq.heap.size wq (wq.alloc (carryC x)).drew := ((Below.refl _ _).alloc (Nat.le_refl _) _).drew
              have hbP2 : Below wq.heap.size wq (wq.drew.alloc (carryC x)) := (Below.refl _ _).drew.alloc (by simp) _
              have kN := Lib.hid (fun (W : World) => flat_at caS (W := W.alloc (carryC x)) (us := [x]) (n := 1) (t := 57) (heap_newL W (carryC x)) rfl (by simp))
              have tokS : True := trivial
              go_wp2
              go_region_held3 (fun W => W.cell? ⟨wr.heap.size, 0, none⟩ = some (.int .i64 x.box) ∧ W.cell? ⟨wr.heap.size, 1, none⟩ = some (.int .i64 x.from_) ∧ W.cell? ⟨wr.heap.size, 2, none⟩ = some (.int .i64 x.to_)) (first | with_reducible exact KEEP.out _ hbX | with_reducible exact KEEP.out _ hbP1 | with_reducible exact KEEP.out _ hbP2 | with_reducible exact KEEP.out _ (hbX.alloc hbX.size _)) (first
                | (go_at_call 14; (with_reducible refine (HCL.out _ hbX).mono ?_); rintro e wC ⟨vC, rfl, hownC, hb'⟩; have kC := hownC.toSl inS; obtain ⟨AC, cC, rfl, -⟩ := id kC; have hbX := hbX.trans (hb'.mono hbX.size); have tokA : True := trivial)
                | (go_at_call 14; (with_reducible refine (HCL.out _ hbP1).mono ?_); rintro e wC ⟨vC, rfl, hownC, hb'⟩; have kC := hownC.toSl inS; obtain ⟨AC, cC, rfl, -⟩ := id kC; have kP := ((kN.out wq).below caS hb').mono caS hb'.size; have hbX := hbP1.trans (hb'.mono hbP1.size); have tokB : True := trivial)
                | (go_at_call 32; clear tokA; (with_reducible refine (HAP.out _ _ _ (Bq.trans ((hbX.alloc hbX.size _).mono (by omega))) ((kC.below inS ((Below.refl _ _).alloc (Nat.le_refl _) _)).mono inS (by simp)) (kN.out _)).mono ?_); rintro e wY ⟨AY, cY, rfl, kY, hb'⟩; have hbX := (hbX.alloc hbX.size _).trans (hb'.mono (hbX.alloc hbX.size _).size))
                | (go_at_call 32; clear tokB; (with_reducible refine (HAP.out _ _ _ (Bq.trans (hbX.mono (by omega))) kC kP).mono ?_); rintro e wY ⟨AY, cY, rfl, kY, hb'⟩; have hbX := hbX.trans (hb'.mono hbX.size)))
              all_goals
                have hsX := hbX.size
                have BY := Bq.trans (hbX.mono (by omega))
                clear KEEP hbP1 hbP2 HCL kN HAP
                go_wp2_with fail
                refine (cloneI_c y _ wY wY.heap.size (Nat.le_refl _) kY (by omega)).mono ?_
                rintro e wZ ⟨vZ, rfl, hownZ, hbZ⟩
                have kZ := hownZ.toSl inS
                obtain ⟨AZ, cZ, rfl, -⟩ := id kZ
                have BZ := BY.trans (hbZ.mono BY.size)
                have kYZ := (kY.below inS hbZ).mono inS hbZ.size
                clear hownZ kY
                go_wp2_with fail
                refine (HPO.out _ wZ BZ kZ).mono ?_
                rintro e wV ⟨rfl, hbV⟩
                have kYV := (kYZ.below inS hbV).mono inS hbV.size
                have BV := BZ.trans (hbV.mono BZ.size)
                go_wp2
                refine ⟨⟨k + 1, y, AY, cY, by omega, by go_num, rfl, kYV, HGY, HL2, BV⟩, ?_⟩
                simp [intOf]; omega
            · have hLk := HL.out
              rw [List.drop_of_length_le (by omega)] at hLk
              have hat : at1 = plan := hLk
              obtain rfl : plan = at1 := hat.symm
              have B7 := B6.trans (hbr.mono hs6)
              have hs7 := B7.size
              have HAW := Lib.hid (fun (va vp : Value) (W : World) (hW : Below w6.heap.size w6 W) (k1 : Ints W W.heap.size plan va) (k2 : Carries W W.heap.size (backP p) vp) => Apply_way ls bs plan at_ (backP p) _ _ va vp W W.heap.size (Nat.le_refl _) (LB6.below hW).l (LB6.below hW).b k1 k2 HP1.out HBK.out)
              clear hLk hat HL HG
              go_wp2_with fail
              refine (cloneI_c plan _ wr B (by omega) (hpl.below inS (B7.mono hB)) (by omega)).mono ?_
              rintro e w8 ⟨v8, rfl, hown8, hb8⟩
              have k8 := hown8.toSl inS
              obtain ⟨A8, c8, rfl, -⟩ := id k8
              have h8 := (h1.below inS hb8).mono inS hb8.size
              have b68 := hbr.trans (hb8.mono hbr.size)
              have hs8 := b68.size
              clear hown8 h1
              go_wp2_with fail
              refine (cloneC_c p _ w8 w6.heap.size hs8 (h6.below caS b68) (by omega)).mono ?_
              rintro e w9 ⟨v9, rfl, hown9, hb9⟩
              have k9 := hown9.toSl caS
              obtain ⟨A9, c9, rfl, -⟩ := id k9
              have k89 := (k8.below inS hb9).mono inS hb9.size
              have h9 := (h8.below inS hb9).mono inS hb9.size
              have b69 := b68.trans (hb9.mono b68.size)
              clear hown9 k8 h8
              go_wp2_with fail
              refine (Reverse_c p _ w9 w9.heap.size (Nat.le_refl _) k9 (by omega)).mono ?_
              rintro e w10 ⟨v10, rfl, hown10, hb10⟩
              have k10 := hown10.toSl caS
              obtain ⟨A10, c10, rfl, -⟩ := id k10
              have k810 := (k89.below inS hb10).mono inS hb10.size
              have h10 := (h9.below inS hb10).mono inS hb10.size
              have b610 := b69.trans (hb10.mono b69.size)
              clear hown10 k9 k89 h9
              go_wp2_with fail
              refine (HAW.out _ _ w10 b610 k810 k10).mono ?_
              rintro e w11 ⟨A11, c11, rfl, k11, hb11⟩
              have h11 := (h10.below inS hb11).mono inS hb11.size
              have b611 := b610.trans (hb11.mono b610.size)
              have B11 := B6.trans (b611.mono hs6)
              have hs11 := B11.size
              have HE1 := Lib.hid (Calls.below_of (equalI_c plan plan _ _ w11 w11.heap.size (Nat.le_refl _) h11 ((hpl.below inS (B11.mono hB)).mono inS (by omega))))
              rw [eqLI_self] at HE1
              clear k810 k10 h10 h11 HAW
              go_wp2_with fail
              refine HE1.out.mono ?_
              rintro e w12 ⟨rfl, hb12⟩
              have B12 := B11.trans (hb12.mono B11.size)
              have hs12 := B12.size
              have HE2 := Lib.hid (Calls.below_of (equalI_c at_ at_ _ _ w12 w12.heap.size (Nat.le_refl _) ((k11.below inS hb12).mono inS hb12.size) ((ha.below inS (B12.mono hB)).mono inS (by omega))))
              rw [eqLI_self] at HE2
              clear k11 HE1
              go_wp2_with fail
              refine HE2.out.mono ?_
              rintro e w13 ⟨rfl, hb13⟩
              go_wp2
              go_ret
              exact ⟨rfl, B12.trans (hb13.mono B12.size)⟩
        · refine (Plan_fail ls bs at_ plan _ _ _ _ w5 w5.heap.size (Nat.le_refl _) LB5.l LB5.b h45 h5 hok).mono ?_
          rintro e w6 ⟨E, hE, rfl, hb6⟩
          have b16 := b15.trans (hb6.mono (by have := b15.size; simp at this; omega))
          have B6 := b0.trans (b16.mono (by omega))
          obtain ⟨n1, n2⟩ := ne_bool hE
          clear hE hok LB5 h45 h5
          go_wp2
          go_ret
          exact ⟨rfl, B6⟩
      · have hj : decide ((30 : Int) < (plan.length : Int)) = true := by simp; omega
        go_wp2_with fail
        refine (HFW.out _ B1).mono ?_
        rintro e w2 ⟨rfl, hb2⟩
        go_wp2
        go_ret
        exact ⟨rfl, B1.trans (hb2.mono B1.size)⟩
    · have hi : decide ((30 : Int) < (at_.length : Int)) = true := by simp; omega
      go_wp2_with fail
      refine (HFW.out _ B1).mono ?_
      rintro e w2 ⟨rfl, hb2⟩
      go_wp2
      go_ret
      exact ⟨rfl, B1.trans (hb2.mono B1.size)⟩
end Go.Proofs.Ythabpkigflldmaa
