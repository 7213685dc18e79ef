/- TreeMeets returns true. -/
import Derived.Test.YthbccfchjgihgaaGreatDoorLbR
namespace Go.Proofs.YthbccfchjgihgaaGreatDoor
open Go.RowKit

theorem com_zero {t : Tre} {a b : Int} (h : knownE t [a, b] ≠ 0) : comR t a b = 0 := by unfold comR; rw [if_pos h]
theorem known_comm (t : Tre) (a b : Int) : knownE t [b, a] = knownE t [a, b] := by
  rw [known_two, known_two]
  generalize (findB t.brs a).isNone = x
  generalize (findB t.brs b).isNone = y
  cases rightT t <;> cases x <;> cases y <;> rfl
theorem comR_comm (t : Tre) (a b : Int) : comR t b a = comR t a b := by unfold comR; rw [known_comm, com_comm]
/-- what the two paths have in common -/
structure MeetW (t : Tre) (a b : Int) (p q : List Int) (c : Int) : Prop where
  pa : pathR t a = p
  pb : pathR t b = q
  ka : knownE t [a] = 0
  kb : knownE t [b] = 0
  co : comR t a b = c
  lp : 0 < p.length ∧ p.length ≤ 12
  lq : 0 < q.length ∧ q.length ≤ 12
  zero : c = 0 → ∀ x y, p[0]? = some x → q[0]? = some y → x ≠ y
  some_ : c ≠ 0 → ∃ k : Nat, k < p.length ∧ Lib.idxOf p c = (k : Int) ∧ Lib.idxOf q c = (k : Int) ∧ (a ∈ q → c = a) ∧ ∀ x y, p[k + 1]? = some x → q[k + 1]? = some y → x ≠ y
theorem meet_known {t : Tre} {a b : Int} (h : knownE t [a, b] = 0) : ∃ p q c, MeetW t a b p q c := by
  obtain ⟨T, hk⟩ := known_zero h
  obtain ⟨x, hx, rfl⟩ := hk a (by simp)
  obtain ⟨y, hy, rfl⟩ := hk b (by simp)
  have hr : ¬ rightT t = false := fun e => by rw [known_two, if_pos e] at h; cases h
  have k1 : knownE t [x.id] = 0 := by rw [known_one, if_neg hr, T.find hx]; rfl
  have k2 : knownE t [y.id] = 0 := by rw [known_one, if_neg hr, T.find hy]; rfl
  obtain ⟨m1, m2, m3, m4⟩ := T.meets hx hy
  have n1 := T.path_nodup hx
  have n2 := T.path_nodup hy
  have l1 := T.path_len hx
  have l2 := T.path_len hy
  refine ⟨pthF t.brs x.id, pthF t.brs y.id, comG 0 (pthF t.brs x.id) (pthF t.brs y.id), ?_, ?_, k1, k2, ?_, by omega, by omega, fun h0 => ?_, fun h0 => ?_⟩
  · unfold pathR; rw [if_neg (by rw [k1]; decide)]
  · unfold pathR; rw [if_neg (by rw [k2]; decide)]
  · unfold comR; rw [if_neg (by rw [h]; decide)]
  · have := m1.1 h0
    rw [this] at m4
    exact m4
  · have hn : samN (pthF t.brs x.id) (pthF t.brs y.id) ≠ 0 := fun e => h0 (m1.2 e)
    obtain ⟨q1, q2⟩ := m2 hn
    refine ⟨samN (pthF t.brs x.id) (pthF t.brs y.id) - 1, lt_of_at q1, idx_at n1 q1, idx_at n2 q2, m3, ?_⟩
    rw [show samN (pthF t.brs x.id) (pthF t.brs y.id) - 1 + 1 = samN (pthF t.brs x.id) (pthF t.brs y.id) by omega]
    exact m4
set_option maxRecDepth 100000 in
set_option maxHeartbeats 8000000 in
theorem meets_law (t : Tre) (a b : Int) (vr vb : Value) (w : World) (B : Nat) (hB : B ≤ w.heap.size) (h : TreRep w B t vr vb) (hV : VarOk w) :
    Calls Tryz.prog 9 #[treV vr vb, .int .i64 a, .int .i64 b] w fun e w' => e = .returned (.bool true) ∧ Below w.heap.size w w' := by
  have b1 := tre_new w vr vb
  have hs1 : w.heap.size + 1 ≤ (w.alloc (treC vr vb)).heap.size := by simp
  have HC := Lib.hid (show LawC t vr vb w B from ⟨hB, h, hV⟩)
  have KC := Lib.hid (fun (W : World) (hW : Below (w.heap.size + 1) (w.alloc (treC vr vb)) W) => treW_at hW)
  have HUP := Lib.hid (fun (W : World) (hW : Below (w.heap.size + 1) (w.alloc (treC vr vb)) W) => b1.trans (hW.mono (Nat.le_succ _)))
  obtain ⟨Ar, cr, rfl, -⟩ := id h.tops
  obtain ⟨A, ca, rfl, -⟩ := id h.brs
  have bX : Below (w.heap.size + 1) (w.alloc (treC (.slice Ar t.roots.length cr) (.slice A t.brs.length ca))) (w.alloc (treC (.slice Ar t.roots.length cr) (.slice A t.brs.length ca))) := Below.refl _ _
  clear h hV
  go_enter Tryz.func9, Tryz.ntmps9
  go_wp2_with fail
  refine (HC.out.awake (HUP.out _ bX)).mono ?_
  rintro e w1 ⟨rfl, hb1⟩
  have bX := bnd_call bX hs1 hb1
  obtain ⟨z0, z1, zl⟩ := KC.out _ bX
  clear hb1
  go_wp2_with fail
  refine (HC.out.few (HUP.out _ bX)).mono ?_
  rintro e w2 ⟨rfl, hb2⟩
  have bX := bnd_call bX hs1 hb2
  clear z0 z1 zl hb2
  cases hF : fewT t
  · go_wp2_with fail
    refine (HC.out.awake (HUP.out _ bX)).mono ?_
    rintro e w3 ⟨rfl, hb3⟩
    have bX := bnd_call bX hs1 hb3
    go_wp2
    go_ret
    exact ⟨rfl, HUP.out _ bX⟩
  · have HCP := Lib.hid (fun (W : World) (hW : Below w.heap.size w W) => HC.out.cp hF hW)
    have HZ := Lib.hid (few_size hF)
    obtain ⟨c, hc⟩ : ∃ c, comR t a b = c := ⟨_, rfl⟩
    obtain ⟨ke, hke⟩ : ∃ k, knownE t [a, b] = k := ⟨_, rfl⟩
    have HC0 := Lib.hid (fun (h0 : ke ≠ 0) => (by rw [← hc]; exact com_zero (by rw [hke]; exact h0) : c = 0))
    have HM0 := Lib.hid (fun (h0 : ke = 0) => (by obtain ⟨p, q, c', hm⟩ := meet_known (hke.trans h0); have := hm.co; rw [hc] at this; exact ⟨p, q, by rw [this]; exact hm⟩ : ∃ p q, MeetW t a b p q c))
    have HCA := Lib.hid (fun (x y : Value) (W : World) (hW : Below w.heap.size w W) (hr : TreRep W W.heap.size t x y) => (by
      have := common_c t HZ.out a b x y W _ (Nat.le_refl _) hr (HC.out.at_ hW).2.2
      rwa [hc, hke] at this : Calls Tryz.prog 29 #[treV x y, .int .i64 a, .int .i64 b] W fun e w' => e = .returned (.tuple #[.int .i64 c, .int .i64 ke]) ∧ Below W.heap.size W w'))
    have HCB := Lib.hid (fun (x y : Value) (W : World) (hW : Below w.heap.size w W) (hr : TreRep W W.heap.size t x y) => (by
      have := common_c t HZ.out b a x y W _ (Nat.le_refl _) hr (HC.out.at_ hW).2.2
      rwa [comR_comm, hc, known_comm, hke] at this : Calls Tryz.prog 29 #[treV x y, .int .i64 b, .int .i64 a] W fun e w' => e = .returned (.tuple #[.int .i64 c, .int .i64 ke]) ∧ Below W.heap.size W w'))
    clear hF hc hke
    obtain ⟨z0, z1, zl⟩ := KC.out _ bX
    go_wp2_with fail
    refine (HCP.out _ (HUP.out _ bX)).mono ?_
    rintro e w3 ⟨x3, y3, rfl, hr3, hb3⟩
    have bX := bnd_call bX hs1 hb3
    clear z0 z1 zl hb3
    go_wp2_with fail
    refine (HCA.out _ _ _ (HUP.out _ bX) hr3).mono ?_
    rintro e w4 ⟨rfl, hb4⟩
    have bX := bnd_call bX hs1 hb4
    clear hr3 hb4
    obtain ⟨z0, z1, zl⟩ := KC.out _ bX
    go_wp2_with fail
    refine (HCP.out _ (HUP.out _ bX)).mono ?_
    rintro e w5 ⟨x5, y5, rfl, hr5, hb5⟩
    have bX := bnd_call bX hs1 hb5
    clear z0 z1 zl hb5
    go_wp2_with fail
    refine (HCB.out _ _ _ (HUP.out _ bX) hr5).mono ?_
    rintro e w6 ⟨rfl, hb6⟩
    have bX := bnd_call bX hs1 hb6
    clear hr5 hb6
    obtain ⟨z0, z1, zl⟩ := KC.out _ bX
    by_cases h0 : ke = 0
    · obtain ⟨p, q, hm⟩ := HM0.out h0
      have HPA := Lib.hid (fun (x y : Value) (W : World) (hW : Below w.heap.size w W) (hr : TreRep W W.heap.size t x y) => (by
        have := Path_c t HZ.out a x y W _ (Nat.le_refl _) hr (HC.out.at_ hW).2.2
        rwa [hm.pa, hm.ka] at this : Calls Tryz.prog 25 #[treV x y, .int .i64 a] W fun e w' => ∃ v', e = .returned (.tuple #[v', .int .i64 0]) ∧ OwnRep 1 (flat intEnc) 3 W.heap.size w' p v' ∧ Below W.heap.size W w'))
      have HPB := Lib.hid (fun (x y : Value) (W : World) (hW : Below w.heap.size w W) (hr : TreRep W W.heap.size t x y) => (by
        have := Path_c t HZ.out b x y W _ (Nat.le_refl _) hr (HC.out.at_ hW).2.2
        rwa [hm.pb, hm.kb] at this : Calls Tryz.prog 25 #[treV x y, .int .i64 b] W fun e w' => ∃ v', e = .returned (.tuple #[v', .int .i64 0]) ∧ OwnRep 1 (flat intEnc) 3 W.heap.size w' q v' ∧ Below W.heap.size W w'))
      have HM := Lib.hid hm
      have hlp := hm.lp
      have hlq := hm.lq
      clear HM0
      subst h0
      clear hm HCA HCB HC0
      go_wp2_with fail
      refine (HCP.out _ (HUP.out _ bX)).mono ?_
      rintro e w7 ⟨x7, y7, rfl, hr7, hb7⟩
      have bX := bnd_call bX hs1 hb7
      clear z0 z1 zl hb7
      go_wp2_with fail
      refine (HPA.out _ _ _ (HUP.out _ bX) hr7).mono ?_
      rintro e w8 ⟨vp, rfl, hp, hb8⟩
      have bX := bnd_call bX hs1 hb8
      have hp := hp.toSl intS
      clear hr7 hb8
      obtain ⟨z0, z1, zl⟩ := KC.out _ bX
      go_wp2_with fail
      refine (HCP.out _ (HUP.out _ bX)).mono ?_
      rintro e w9 ⟨x9, y9, rfl, hr9, hb9⟩
      have bX := bnd_call bX hs1 hb9
      have hp := (hp.below intS hb9).mono intS hb9.size
      clear z0 z1 zl hb9
      go_wp2_with fail
      refine (HPB.out _ _ _ (HUP.out _ bX) hr9).mono ?_
      rintro e wA ⟨vq, rfl, hq, hbA⟩
      have bX := bnd_call bX hs1 hbA
      have hp := (hp.below intS hbA).mono intS hbA.size
      have hq := hq.toSl intS
      clear hr9 hbA HPA HPB HCP
      have HIP := Lib.hid (idxI_c p c vp wA _ hp)
      have HIQ := Lib.hid (idxI_c q c vq wA _ hq)
      have HAQ := Lib.hid (hasI_c q a vq wA _ hq)
      have HPP := Lib.hid hp
      have HQQ := Lib.hid hq
      obtain ⟨Ap, cp, rfl, -⟩ := id hp
      obtain ⟨Aq, cq, rfl, -⟩ := id hq
      clear hp hq
      go_wp2_with fail
      refine HIP.out.mono ?_
      rintro e wB ⟨rfl, rfl⟩
      go_wp2_with fail
      refine HIQ.out.mono ?_
      rintro e wC ⟨rfl, rfl⟩
      by_cases hc0 : c = 0
      · obtain ⟨px, hpx⟩ := get_at p hlp.1
        obtain ⟨qx, hqx⟩ := get_at q hlq.1
        have hne := HM.out.zero hc0 px qx hpx hqx
        obtain ⟨bp, op, rfl, hbp, p0⟩ := Ints.at_ HPP.out hpx
        obtain ⟨bq, oq, rfl, hbq, q0⟩ := Ints.at_ HQQ.out hqx
        have hbp' : bp < wC.heap.size := hbp
        have hbq' : bq < wC.heap.size := hbq
        have hpi : (0 : Int) < (p.length : Int) := by omega
        have hqi : (0 : Int) < (q.length : Int) := by omega
        have hnb : (px != qx) = true := by simpa using hne
        have hc1 : (c == 0) = true := by simp [hc0]
        simp only [Nat.add_zero] at p0 q0
        clear hpx hqx hne hc0
        go_wp2
        go_quiet (fail)
        go_wp2
        go_ret
        exact ⟨rfl, below_drewN (HUP.out _ bX) _⟩
      · obtain ⟨k, hkl, hk1, hk2, hk3, hk4⟩ := HM.out.some_ hc0
        have hc1 : (c == 0) = false := by simpa using hc0
        have HK := Lib.hid hk4
        have hkn : ¬ (k : Int) < 0 := by omega
        rw [hk1, hk2]
        clear hc0 hk4 hk1 hk2
        go_wp2_with fail
        refine HAQ.out.mono ?_
        rintro e wD ⟨rfl, rfl⟩
        have HCA := Lib.hid (show q.contains a = false ∨ (q.contains a = true ∧ (c != a) = false) by
          cases hq : q.contains a
          · exact .inl rfl
          · exact .inr ⟨rfl, by rw [hk3 (by simpa using hq)]; simp⟩)
        have hwk : IntKind.i64.wrap ((k : Int) + 1) = (k : Int) + 1 := IntWalk.i64_in _ (by omega)
        rcases HCA.out with hh | ⟨hh, hca⟩
        all_goals
          rw [hh]
          clear hh hk3 HCA
          by_cases hp1 : p.length ≤ k + 1
          · have hpi : decide ((p.length : Int) ≤ (k : Int) + 1) = true := by rw [decide_eq_true_eq]; omega
            go_wp2
            go_quiet (fail)
            go_wp2
            go_ret
            exact ⟨rfl, below_drewN (HUP.out _ bX) _⟩
          · have hpi : decide ((p.length : Int) ≤ (k : Int) + 1) = false := by rw [decide_eq_false_iff_not]; omega
            by_cases hq1 : q.length ≤ k + 1
            · have hqi : decide ((q.length : Int) ≤ (k : Int) + 1) = true := by rw [decide_eq_true_eq]; omega
              go_wp2
              go_quiet (fail)
              go_wp2
              go_ret
              exact ⟨rfl, below_drewN (HUP.out _ bX) _⟩
            · have hqi : decide ((q.length : Int) ≤ (k : Int) + 1) = false := by rw [decide_eq_false_iff_not]; omega
              obtain ⟨px, hpx⟩ := get_at p (show k + 1 < p.length by omega)
              obtain ⟨qx, hqx⟩ := get_at q (show k + 1 < q.length by omega)
              have hne := HK.out px qx hpx hqx
              obtain ⟨bp, op, rfl, hbp, p0⟩ := Ints.at_ HPP.out hpx
              obtain ⟨bq, oq, rfl, hbq, q0⟩ := Ints.at_ HQQ.out hqx
              have hbp' : bp < wD.heap.size := hbp
              have hbq' : bq < wD.heap.size := hbq
              have hpj : (k : Int) + 1 < (p.length : Int) := by omega
              have hqj : (k : Int) + 1 < (q.length : Int) := by omega
              have hnb : (px != qx) = true := by simpa using hne
              clear hpx hqx hne
              go_wp2
              go_quiet (fail)
              go_wp2
              go_ret
              exact ⟨rfl, below_drewN (HUP.out _ bX) _⟩
    · have hn : (ke != 0) = true := by simpa using h0
      have hcz := HC0.out h0
      subst hcz
      clear h0
      go_wp2
      go_ret
      exact ⟨rfl, HUP.out _ bX⟩
end Go.Proofs.YthbccfchjgihgaaGreatDoor
