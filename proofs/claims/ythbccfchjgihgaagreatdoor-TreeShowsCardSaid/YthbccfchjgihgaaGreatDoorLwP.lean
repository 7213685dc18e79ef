/- TreePaths returns true. -/
import Derived.Test.YthbccfchjgihgaaGreatDoorLbR
namespace Go.Proofs.YthbccfchjgihgaaGreatDoor
open Go.RowKit

theorem known_mem {t : Tre} (hr : rightT t = true) {b : Brn} (hb : b ∈ t.brs) : knownE t [b.id] = 0 := by
  rw [known_one, if_neg (by rw [hr]; decide), (right_of hr).find hb]; rfl
theorem orTop_mem {t : Tre} (hr : rightT t = true) {u : Int} (hu : u = 0 ∨ ∃ b ∈ t.brs, b.id = u) : orTopE t u = 0 := by
  unfold orTopE
  rcases hu with rfl | ⟨b, hb, rfl⟩
  · rw [if_pos rfl, known_nil, if_neg (by rw [hr]; decide)]
  · rw [if_neg ((right_of hr).id_ne hb)]
    exact known_mem hr hb
theorem pathR_mem {t : Tre} (hr : rightT t = true) {b : Brn} (hb : b ∈ t.brs) : pathR t b.id = pthF t.brs b.id := by unfold pathR; rw [if_neg (by rw [known_mem hr hb]; decide)]
theorem findU_mem {t : Tre} (T : RightT t) {b : Brn} (hb : b ∈ t.brs) : findU t.brs b.id = (b, true) := by unfold findU; rw [T.find hb]
/-- what the loop over a path knows of the unit before -/
def PI (t : Tre) (p : List Int) (j : Nat) (above level : Int) : Prop :=
  (j = 0 ∧ above = 0 ∧ level = 0) ∨ ∃ (i : Nat) (c : Brn), j = i + 1 ∧ p[i]? = some c.id ∧ c ∈ t.brs ∧ above = c.id ∧ level = c.level
theorem PI.step {t : Tre} (hr : rightT t = true) {y : Brn} (hy : y ∈ t.brs) {j : Nat} {above level id : Int} (h : PI t (pthF t.brs y.id) j above level) (hj : (pthF t.brs y.id)[j]? = some id) :
    ∃ c ∈ t.brs, c.id = id ∧ c.parent = above ∧ orTopE t above = 0 ∧ (kidsR t above).contains id = true ∧ ((above = 0 ∧ c.level = 1) ∨ (above ≠ 0 ∧ fitB level c.level = true)) ∧ PI t (pthF t.brs y.id) (j + 1) id c.level := by
  have T := right_of hr
  obtain ⟨c, hc, h1, h2, h3⟩ := T.path_ok hy hj
  refine ⟨c, hc, h1, ?_⟩
  have hn : PI t (pthF t.brs y.id) (j + 1) id c.level := .inr ⟨j, c, rfl, by rw [hj, h1], hc, h1.symm, rfl⟩
  rcases h with ⟨rfl, rfl, rfl⟩ | ⟨i, d, rfl, hd1, hd2, rfl, rfl⟩
  · obtain ⟨q1, q2, q3⟩ := h2 rfl
    have ho := orTop_mem hr (u := 0) (.inl rfl)
    exact ⟨q1, ho, by unfold kidsR; rw [if_neg (by rw [ho]; decide), if_pos rfl]; simpa using q3, .inl ⟨rfl, q2⟩, hn⟩
  · obtain ⟨q, q1, q2, q3, q4, q5⟩ := h3 i rfl
    have e := hd1.symm.trans q2
    injection e with e
    have : d = q := asc_uniq T.asc hd2 q1 e
    subst this
    have ho := orTop_mem hr (u := d.id) (.inr ⟨d, hd2, rfl⟩)
    exact ⟨q3, ho, by unfold kidsR; rw [if_neg (by rw [ho]; decide), if_neg (T.id_ne hd2), T.kidsO_of hd2]; simpa using q4, .inr ⟨T.id_ne hd2, q5⟩, hn⟩
theorem brn_newW (w : World) (x : Brn) (vk : Value) {W : World} (hW : Below (w.heap.size + 1) (w.alloc (brnC x vk)) W) : W.cell? ⟨w.heap.size, 0, none⟩ = some (.int .i64 x.id) ∧ w.heap.size < W.heap.size := by
  have h := (hW.block w.heap.size (by omega)).trans (heap_newT w (brnC x vk))
  exact ⟨by rw [Lib.cell_of_heap h]; rfl, heap_ltT h⟩
set_option maxRecDepth 100000 in
set_option maxHeartbeats 8000000 in
theorem paths_law (t : Tre) (vr vb : Value) (w : World) (B : Nat) (hB : B ≤ w.heap.size) (h : TreRep w B t vr vb) (hV : VarOk w) :
    Calls Tryz.prog 7 #[treV vr vb] w fun e w' => e = .returned (.bool true) ∧ Below w.heap.size w w' := by
  have b1 := tre_new w vr vb
  have hs1 : w.heap.size + 1 ≤ (w.alloc (treC vr vb)).heap.size := by simp
  have HC := Lib.hid (show LawC t vr vb w B from ⟨hB, h, hV⟩)
  have KC := Lib.hid (fun (W : World) (hW : Below (w.heap.size + 1) (w.alloc (treC vr vb)) W) => treW_at hW)
  have HUP := Lib.hid (fun (W : World) (hW : Below (w.heap.size + 1) (w.alloc (treC vr vb)) W) => b1.trans (hW.mono (Nat.le_succ _)))
  obtain ⟨Ar, cr, rfl, -⟩ := id h.tops
  obtain ⟨A, ca, rfl, -⟩ := id h.brs
  have bX : Below (w.heap.size + 1) (w.alloc (treC (.slice Ar t.roots.length cr) (.slice A t.brs.length ca))) (w.alloc (treC (.slice Ar t.roots.length cr) (.slice A t.brs.length ca))) := Below.refl _ _
  clear h hV
  go_enter Tryz.func7, Tryz.ntmps7
  go_wp2_with fail
  refine (HC.out.awake (HUP.out _ bX)).mono ?_
  rintro e w1 ⟨rfl, hb1⟩
  have bX := bnd_call bX hs1 hb1
  obtain ⟨z0, z1, zl⟩ := KC.out _ bX
  clear hb1
  go_wp2_with fail
  refine (HC.out.few (HUP.out _ bX)).mono ?_
  rintro e w2 ⟨rfl, hb2⟩
  have bX := bnd_call bX hs1 hb2
  clear z0 z1 zl hb2
  cases hF : fewT t
  · go_wp2_with fail
    refine (HC.out.awake (HUP.out _ bX)).mono ?_
    rintro e w3 ⟨rfl, hb3⟩
    have bX := bnd_call bX hs1 hb3
    go_wp2
    go_ret
    exact ⟨rfl, HUP.out _ bX⟩
  · have HCP := Lib.hid (fun (W : World) (hW : Below w.heap.size w W) => HC.out.cp hF hW)
    have HZ := Lib.hid (few_size hF)
    clear hF
    have HCK := Lib.hid (fun (x y : Value) (W : World) (hW : Below w.heap.size w W) (hr : TreRep W W.heap.size t x y) => check_c t HZ.out x y W _ (Nat.le_refl _) hr (HC.out.at_ hW).2.2)
    obtain ⟨z0, z1, zl⟩ := KC.out _ bX
    go_wp2_with fail
    refine (HCP.out _ (HUP.out _ bX)).mono ?_
    rintro e w3 ⟨x3, y3, rfl, hr3, hb3⟩
    have bX := bnd_call bX hs1 hb3
    clear z0 z1 zl hb3
    go_wp2_with fail
    refine (HCK.out _ _ _ (HUP.out _ bX) hr3).mono ?_
    rintro e w4 ⟨rfl, hb4⟩
    have bX := bnd_call bX hs1 hb4
    obtain ⟨z0, z1, zl⟩ := KC.out _ bX
    have HR := Lib.hid (show (chkF t).2 = 0 → rightT t = true from fun e => by unfold rightT; simp [e])
    clear hr3 hb4
    obtain ⟨ci, hci⟩ : ∃ c, (chkF t).1 = c := ⟨_, rfl⟩
    obtain ⟨ce, hce⟩ : ∃ c, (chkF t).2 = c := ⟨_, rfl⟩
    simp only [chkP, hci, hce]
    rw [hce] at HR
    clear hci hce
    by_cases h0 : ce = 0
    · have hr := HR.out h0
      have HT := Lib.hid hr
      have HPA := Lib.hid (fun (c : Brn) (hc : c ∈ t.brs) (x y : Value) (W : World) (hW : Below w.heap.size w W) (hr' : TreRep W W.heap.size t x y) => (by
        have := Path_c t HZ.out c.id x y W _ (Nat.le_refl _) hr' (HC.out.at_ hW).2.2
        rwa [pathR_mem hr hc, known_mem hr hc] at this : Calls Tryz.prog 25 #[treV x y, .int .i64 c.id] W fun e w' => ∃ v', e = .returned (.tuple #[v', .int .i64 0]) ∧ OwnRep 1 (flat intEnc) 3 W.heap.size w' (pthF t.brs c.id) v' ∧ Below W.heap.size W w'))
      have HKI := Lib.hid (fun (u : Int) (hu : orTopE t u = 0) (x y : Value) (W : World) (hW : Below w.heap.size w W) (hr' : TreRep W W.heap.size t x y) => (by
        have := Kids_c t HZ.out u x y W _ (Nat.le_refl _) hr' (HC.out.at_ hW).2.2
        rwa [hu] at this : Calls Tryz.prog 22 #[treV x y, .int .i64 u] W fun e w' => ∃ v', e = .returned (.tuple #[v', .int .i64 0]) ∧ OwnRep 1 (flat intEnc) 3 W.heap.size w' (kidsR t u) v' ∧ Below W.heap.size W w'))
      have HFI := Lib.hid (fun (c : Brn) (hc : c ∈ t.brs) (W : World) (hW : Below w.heap.size w W) => (by
        have := find_c t c.id (.slice Ar t.roots.length cr) (.slice A t.brs.length ca) W B (HC.out.at_ hW).1 (HC.out.at_ hW).2.1
        rwa [findU_mem (right_of hr) hc] at this : Calls Tryz.prog 18 #[treV (.slice Ar t.roots.length cr) (.slice A t.brs.length ca), .int .i64 c.id] W fun e w' => e = .returned (.tuple #[untV c, .bool true]) ∧ Below W.heap.size W w'))
      have HBR := Lib.hid (fun (W : World) (hW : Below w.heap.size w W) => (HC.out.at_ hW).2.1.brs)
      have hn := HZ.out.brs
      subst h0
      clear hr HCK HR
      go_wp2
      go_loopw [36] (fun i wr => ∃ k : Nat, k ≤ t.brs.length ∧ i = .int .i64 k ∧ Below (w.heap.size + 1) (w.alloc (treC (.slice Ar t.roots.length cr) (.slice A t.brs.length ca))) wr) (fun i _ => t.brs.length - (intOf i).toNat)
      case atStart => exact ⟨0, Nat.zero_le _, rfl, bX⟩
      case round =>
        clear bX z0 z1 zl
        obtain ⟨k, hk, rfl, bX⟩ := hrel
        obtain ⟨wo, rfl⟩ : ∃ wo : World, wo = wr := ⟨_, rfl⟩
        have hbw0 := HUP.out _ bX
        by_cases hlt : k < t.brs.length
        · obtain ⟨x, hx⟩ := get_at t.brs hlt
          have hxm := List.mem_of_getElem? hx
          obtain ⟨b, off, vx, rfl, hbB, g0, g1, g2, g3, g4, g5, hkr⟩ := Brns.at_ (HBR.out _ hbw0) hx
          obtain ⟨Ax, cx, rfl, -⟩ := id hkr
          have hbw : b < wo.heap.size := by have : b < B := hbB; have := (HC.out.at_ hbw0).1; omega
          have hkk : (k : Int) < (t.brs.length : Int) := by omega
          have hwk : IntKind.i64.wrap ((k : Int) + 1) = (k : Int) + 1 := IntWalk.i64_in _ (by omega)
          have bx : Below wo.heap.size wo (wo.alloc (brnC x (.slice Ax x.kids.length cx))) := (Below.refl _ _).alloc (Nat.le_refl _) _
          have hsw : w.heap.size + 1 ≤ wo.heap.size := by have := bX.size; simp at this; omega
          have hsx : wo.heap.size + 1 ≤ (wo.alloc (brnC x (.slice Ax x.kids.length cx))).heap.size := by simp
          have KX := Lib.hid (fun (W : World) (hW : Below (wo.heap.size + 1) (wo.alloc (brnC x (.slice Ax x.kids.length cx))) W) => brn_newW wo x (.slice Ax x.kids.length cx) hW)
          have KEEP := Lib.hid (fun (W : World) (hW : Below (wo.heap.size + 1) (wo.alloc (brnC x (.slice Ax x.kids.length cx))) W) => And.intro (KC.out W (bX.trans ((bx.trans (hW.mono (Nat.le_succ _))).mono hsw))) (KX.out W hW))
          have HUX := Lib.hid (fun (W : World) (hW : Below (wo.heap.size + 1) (wo.alloc (brnC x (.slice Ax x.kids.length cx))) W) => bX.trans ((bx.trans (hW.mono (Nat.le_succ _))).mono hsw))
          have HPX := Lib.hid (HPA.out x hxm)
          have HXM := Lib.hid hxm
          obtain ⟨p, hp⟩ : ∃ p, pthF t.brs x.id = p := ⟨_, rfl⟩
          have HPP := Lib.hid hp
          have hpl := (right_of HT.out).path_len hxm
          have hplast := (right_of HT.out).path_last hxm
          rw [hp] at HPX hpl hplast
          have bD : Below (wo.heap.size + 1) (wo.alloc (brnC x (.slice Ax x.kids.length cx))) (wo.alloc (brnC x (.slice Ax x.kids.length cx))).drew := (Below.refl _ _).drew
          clear hx hkr hxm hp bx HPA HBR
          go_wp2
          go_region_held3 (fun W => (W.cell? ⟨w.heap.size, 0, none⟩ = some (.slice Ar t.roots.length cr) ∧ W.cell? ⟨w.heap.size, 1, none⟩ = some (.slice (some ⟨b, off, none⟩) t.brs.length ca) ∧ w.heap.size < W.heap.size) ∧ W.cell? ⟨wo.heap.size, 0, none⟩ = some (.int .i64 x.id) ∧ wo.heap.size < W.heap.size) (with_reducible exact KEEP.out _ bD) (first
            | (go_at_call 14; (with_reducible refine (HCP.out _ (HUP.out _ (HUX.out _ bD))).mono ?_); rintro e w5 ⟨x5, y5, rfl, hr5, hb5⟩; have bD := bnd_call bD hsx hb5)
            | (go_at_call 25; (with_reducible refine (HPX.out _ _ _ (HUP.out _ (HUX.out _ bD)) hr5).mono ?_); rintro e w6 ⟨vp, rfl, hownP, hb6⟩; have bD := bnd_call bD hsx hb6; have hpr := hownP.toSl intS; obtain ⟨Ap, cp, rfl, -⟩ := id hpr))
          have hX := KX.out _ bD
          obtain ⟨x0, xl⟩ := hX
          have hpi : decide ((p.length : Int) < 1) = false := by rw [decide_eq_false_iff_not]; omega
          have hpj : decide ((12 : Int) < (p.length : Int)) = false := by rw [decide_eq_false_iff_not]; omega
          have hwj : IntKind.i64.wrap ((p.length : Int) - 1) = ((p.length - 1 : Nat) : Int) := by rw [IntWalk.i64_in _ (by omega)]; omega
          have hlk : ((p.length - 1 : Nat) : Int) < (p.length : Int) := by omega
          obtain ⟨bp, op, rfl, hbp, p0⟩ := Ints.at_ hpr (i := p.length - 1) (x := x.id) (by obtain ⟨q, rfl⟩ := hplast; simp)
          have hbp' : bp < w6.heap.size := hbp
          clear hplast hr5 hb5 hb6 hownP hbp
          go_wp2
          go_quiet (fail)
          go_wp2
          have bN := below_drewN bD nq
          have hsN : wo.heap.size + 1 ≤ (w6.drewN nq).heap.size := by have := bN.size; omega
          have HPC := Lib.hid (fun (j : Nat) (u : Int) (hu : p[j]? = some u) (W : World) (hW : Below (w6.drewN nq).heap.size (w6.drewN nq) W) => (by
            obtain ⟨_, _, e9, _, q0⟩ := Ints.at_ (hpr.below intS ((below_drewN (Below.refl _ _) nq).trans (hW.mono (below_drewN (Below.refl w6.heap.size w6) nq).size))) hu
            cases e9
            exact ⟨q0, Nat.lt_of_lt_of_le hbp' ((below_drewN (Below.refl w6.heap.size w6) nq).trans (hW.mono (below_drewN (Below.refl w6.heap.size w6) nq).size)).size⟩ : W.cell? ⟨bp, op + j, none⟩ = some (.int .i64 u) ∧ bp < W.heap.size))
          have HW := Lib.hid (fun (W : World) (hW : Below (w6.drewN nq).heap.size (w6.drewN nq) W) => (by
            have h1 := HUX.out _ (bnd_call bN hsx hW)
            exact ⟨HUP.out _ h1, h1, KC.out _ h1⟩ : Below w.heap.size w W ∧ Below (w.heap.size + 1) (w.alloc (treC (.slice Ar t.roots.length cr) (.slice (some ⟨b, off, none⟩) t.brs.length ca))) W ∧ W.cell? ⟨w.heap.size, 0, none⟩ = some (.slice Ar t.roots.length cr) ∧ W.cell? ⟨w.heap.size, 1, none⟩ = some (.slice (some ⟨b, off, none⟩) t.brs.length ca) ∧ w.heap.size < W.heap.size))
          clear p0 hpr x0 xl bX bD hwj hlk hpi hpj
          go_loopw [9, 10, 75] (fun t9 t10 t75 wr => ∃ (j : Nat) (above level : Int), j ≤ p.length ∧ t9 = .int .i64 above ∧ t10 = .int .i64 level ∧ t75 = .int .i64 j ∧ Hid (PI t p j above level) ∧ Below (w6.drewN nq).heap.size (w6.drewN nq) wr) (fun _ _ t75 _ => p.length - (intOf t75).toNat)
          case atStart => exact ⟨0, 0, 0, Nat.zero_le _, rfl, rfl, rfl, .inl ⟨rfl, rfl, rfl⟩, Below.refl _ _⟩
          case round =>
            obtain ⟨j, above, level, hj, rfl, rfl, rfl, HI, bi⟩ := hrel
            obtain ⟨bw, bt, z0, z1, zl⟩ := HW.out _ bi
            by_cases hjl : j < p.length
            · obtain ⟨u, hu⟩ := get_at p hjl
              obtain ⟨c, hc, hci, hcp, ho, hk1, hlv, hNx⟩ := PI.step HT.out HXM.out (by rw [HPP.out]; exact HI.out) (by rw [HPP.out]; exact hu)
              rw [HPP.out] at hNx
              subst hci
              obtain ⟨q0, ql⟩ := HPC.out j c.id hu _ bi
              have hji : (j : Int) < (p.length : Int) := by omega
              have hwj : IntKind.i64.wrap ((j : Int) + 1) = (j : Int) + 1 := IntWalk.i64_in _ (by omega)
              have HKA := Lib.hid (HKI.out above ho)
              have HFC := Lib.hid (HFI.out c hc)
              have HN := Lib.hid hNx
              have HK1 := Lib.hid hk1
              have hpar : (c.parent != above) = false := by simp [hcp]
              clear hu hc hcp ho hk1 hNx HI
              go_wp2_with fail
              refine (HCP.out _ bw).mono ?_
              rintro e w7 ⟨x7, y7, rfl, hr7, hb7⟩
              have bi := bnd_call bi (Nat.le_refl _) hb7
              clear z0 z1 zl bw bt hb7 q0 ql
              obtain ⟨bw, bt, z0, z1, zl⟩ := HW.out _ bi
              go_wp2_with fail
              refine (HKA.out _ _ _ bw hr7).mono ?_
              rintro e w8 ⟨vk, rfl, hownK, hb8⟩
              have bi := bnd_call bi (Nat.le_refl _) hb8
              have hk8 := hownK.toSl intS
              clear z0 z1 zl bw bt hb8 hr7 hownK
              obtain ⟨bw, bt, z0, z1, zl⟩ := HW.out _ bi
              go_wp2_with fail
              refine (HFC.out _ bw).mono ?_
              rintro e w9 ⟨rfl, hb9⟩
              have oU : Below w9.heap.size w9 (w9.alloc (untC c)) := (Below.refl _ _).alloc (Nat.le_refl _) _
              have hb9 := hb9.trans (oU.mono hb9.size)
              have bi := bnd_call bi (Nat.le_refl _) hb9
              have hk9 := (hk8.below intS hb9).mono intS hb9.size
              obtain ⟨u0, u1, u2, u3, u4, ul⟩ := unt_cells (heap_newT w9 (untC c))
              have HCO := Lib.hid (hasI_c (kidsR t above) c.id vk (w9.alloc (untC c)) _ hk9)
              obtain ⟨Ak, ck, rfl, -⟩ := id hk9
              clear z0 z1 zl bw bt hb9 hk8 hk9 oU
              go_wp2_with fail
              refine HCO.out.mono ?_
              rintro e wA ⟨rfl, hwA⟩
              subst hwA
              rw [HK1.out]
              rcases hlv with ⟨rfl, hl1⟩ | ⟨ha, hl2⟩
              · have hl1' : (c.level != 1) = false := by simp [hl1]
                clear hl1
                go_wp2
                go_quiet (fail)
                go_wp2
                go_roundw
                case rel => exact ⟨j + 1, c.id, c.level, by omega, by first | rfl | trivial, by first | rfl | trivial, by go_num, HN, below_drewN bi _⟩
                case measure => simp [intOf]; omega
              · have ha1 : (above == 0) = false := by simpa using ha
                have ha2 : (above != 0) = true := by simpa using ha
                have HL2 := Lib.hid hl2
                clear ha hl2
                go_wp2_with fail
                refine (fits_c level c.level _).mono ?_
                rintro e wB ⟨rfl, hwB⟩
                subst hwB
                rw [HL2.out]
                go_wp2
                go_quiet (fail)
                go_wp2
                go_roundw
                case rel => exact ⟨j + 1, c.id, c.level, by omega, by first | rfl | trivial, by first | rfl | trivial, by go_num, HN, below_drewN bi _⟩
                case measure => simp [intOf]; omega
            · have hji : ¬ (j : Int) < (p.length : Int) := by omega
              go_wp2
              go_roundw
              case rel => exact ⟨k + 1, by omega, by go_num, bt⟩
              case measure => simp [intOf]; omega
        · have hkk : ¬ (k : Int) < (t.brs.length : Int) := by omega
          go_wp2
          go_ret
          exact ⟨rfl, hbw0⟩
    · have hn : (ce != 0) = true := by simpa using h0
      clear h0
      go_wp2
      go_ret
      exact ⟨rfl, HUP.out _ bX⟩
end Go.Proofs.YthbccfchjgihgaaGreatDoor
