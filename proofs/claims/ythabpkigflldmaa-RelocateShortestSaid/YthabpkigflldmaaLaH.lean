/- RelocateShortest returns true. -/
import Derived.Test.YthabpkigflldmaaLaA
import Derived.Test.YthabpkigflldmaaPlD
namespace Go.Proofs.Ythabpkigflldmaa
open Go.RowKit

theorem ap_zero {ls : List Shelf} {bs : List Box} {at_ : List Int} {plan : List Carry} (h : apE ls bs at_ plan = 0) : possE ls bs at_ = 0 ∧ (failF ls bs at_ 0 plan).2 = 0 ∧ apL ls bs at_ plan = finalF bs at_ plan := by
  unfold apE at h
  split at h
  · rename_i hp
    exact ⟨hp, h, by rw [apL, if_pos ⟨hp, h⟩]⟩
  · rename_i hp; exact absurd h hp
theorem ap_nil {ls : List Shelf} {bs : List Box} {at_ : List Int} {plan : List Carry} (h : ¬ apE ls bs at_ plan = 0) : apL ls bs at_ plan = [] := by
  rw [apL, if_neg]
  rintro ⟨hp, hf⟩
  exact h (by rw [apE, if_pos hp, hf])
set_option maxRecDepth 100000 in
set_option maxHeartbeats 8000000 in
theorem shortest_law (ls : List Shelf) (bs : List Box) (at_ : List Int) (plan : List Carry) (vl vb va vp : Value) (w : World) (B : Nat) (hB : B ≤ w.heap.size) (hl : Shelves w B ls vl) (hbx : Boxes w B bs vb) (ha : Ints w B at_ va) (hpl : Carries w B plan vp) :
    Calls Try.prog 9 #[.agg #[vl, vb], va, vp] w fun e w' => e = .returned (.bool true) ∧ Below w.heap.size w w' := by
  have b0 : Below w.heap.size w (w.alloc (roomsC vl vb)) := (Below.refl _ _).alloc (Nat.le_refl _) _
  have ZK := Lib.hid (fun (W : World) (hW : Below (w.heap.size + 1) (w.alloc (roomsC vl vb)) W) => (⟨(hW.cell (p := ⟨w.heap.size, 0, none⟩) (by simp)).trans (by simp), (hW.cell (p := ⟨w.heap.size, 1, none⟩) (by simp)).trans (by simp), by have := hW.size; simp at this; omega⟩ : W.cell? ⟨w.heap.size, 0, none⟩ = some vl ∧ W.cell? ⟨w.heap.size, 1, none⟩ = some vb ∧ w.heap.size < W.heap.size))
  have HFW := Lib.hid (fun (W : World) (hW : Below w.heap.size w W) => few_c ls bs vl vb W B (Nat.le_trans hB hW.size) (hl.below shS (hW.mono hB)) (hbx.below boS (hW.mono hB)))
  obtain ⟨A, c, rfl, hc1, hc2, _⟩ := id hl
  obtain ⟨A', c', rfl, hd1, hd2, _⟩ := id hbx
  obtain ⟨A2, c2, rfl, he1, he2, _⟩ := id ha
  obtain ⟨A3, c3, rfl, hf1, hf2, _⟩ := id hpl
  go_enter Try.func9, Try.ntmps9
  go_wp2_with fail
  refine (awake_c _).mono ?_
  rintro e w1 ⟨rfl, hb1⟩
  simp only [World.size_alloc] at hb1
  have B1 := b0.trans (hb1.mono (by omega))
  obtain ⟨z0, z1, zl⟩ := ZK.out w1 hb1
  cases hfew : fewB ls bs
  · rw [hfew] at HFW
    clear hfew
    go_wp2_with fail
    refine (HFW.out _ B1).mono ?_
    rintro e w2 ⟨rfl, hb2⟩
    go_wp2
    go_ret
    exact ⟨rfl, B1.trans (hb2.mono B1.size)⟩
  · obtain ⟨f1, f2, f3⟩ := few_ok hfew
    rw [hfew] at HFW
    have HF3 := Lib.hid f3
    clear hfew f3
    by_cases h30 : at_.length ≤ 30
    · have hi : decide ((30 : Int) < (at_.length : Int)) = false := by simp; omega
      by_cases h31 : plan.length ≤ 30
      · have hj : decide ((30 : Int) < (plan.length : Int)) = false := by simp; omega
        go_wp2_with fail
        refine (HFW.out _ B1).mono ?_
        rintro e w2 ⟨rfl, hb2⟩
        have b12 := hb1.trans (hb2.mono (by have := hb1.size; simp at this; omega))
        have B2 := b0.trans (b12.mono (by omega))
        clear z0 z1 zl
        obtain ⟨z0, z1, zl⟩ := ZK.out w2 b12
        go_wp2_with fail
        refine (all_c ls bs _ _ w2 B (Nat.le_trans hB B2.size) (hl.below shS (B2.mono hB)) (hbx.below boS (B2.mono hB)) (by omega) (by omega) (fun b hb => by have := HF3.out b hb; omega)).mono ?_
        rintro e w3 ⟨ul, ub, rfl, h3l, h3b, hb3⟩
        have b13 := b12.trans (hb3.mono (by omega))
        have B3 := b0.trans (b13.mono (by omega))
        have hs3 := B3.size
        have LB3 : LB w3 ls bs ul ub := ⟨h3l, h3b⟩
        obtain ⟨Al, cl, rfl, -⟩ := id h3l
        obtain ⟨Ab, cb, rfl, -⟩ := id h3b
        clear z0 z1 zl h3l h3b
        go_wp2_with fail
        refine (cloneI_c at_ _ w3 B (Nat.le_trans hB hs3) (ha.below inS (B3.mono hB)) (by omega)).mono ?_
        rintro e w4 ⟨v4, rfl, hown4, hb4⟩
        have b14 := b13.trans (hb4.mono (by have := b13.size; simp at this; omega))
        have B4 := b0.trans (b14.mono (by omega))
        have LB4 := LB3.below hb4
        have h4 := hown4.toSl inS
        clear hown4 LB3
        obtain ⟨A4, c4, rfl, -⟩ := id h4
        go_wp2_with fail
        refine (cloneC_c plan _ w4 B (Nat.le_trans hB B4.size) (hpl.below caS (B4.mono hB)) (by omega)).mono ?_
        rintro e w5 ⟨v5, rfl, hown5, hb5⟩
        have b15 := b14.trans (hb5.mono (by have := b14.size; simp at this; omega))
        have B5 := b0.trans (b15.mono (by omega))
        have LB5 := LB4.below hb5
        have h5 := hown5.toSl caS
        have h45 := (h4.below inS hb5).mono inS hb5.size
        clear hown5 LB4 h4
        obtain ⟨A5, c5, rfl, -⟩ := id h5
        go_wp2_with fail
        refine (Apply_any ls bs at_ plan _ _ _ _ w5 w5.heap.size (Nat.le_refl _) LB5.l LB5.b h45 h5).mono ?_
        rintro e w6 ⟨A6, c6, rfl, h6, hb6⟩
        have b16 := b15.trans (hb6.mono (by have := b15.size; simp at this; omega))
        have B6 := b0.trans (b16.mono (by omega))
        have LB6 := LB5.below hb6
        clear LB5 h45 h5 ZK HFW
        by_cases hE : apE ls bs at_ plan = 0
        · obtain ⟨hp0, hf0, hL⟩ := ap_zero hE
          obtain ⟨hp2, hlen, p, q, hpp, hqq, hle, hqp⟩ := shortest hp0 hf0
          rw [hE]
          rw [hL] at h6 ⊢
          generalize finalF bs at_ plan = tt at *
          have HP := Lib.hid (fun (v1 v2 : Value) (W : World) (hW : Below w6.heap.size w6 W) (k1 : Ints W W.heap.size at_ v1) (k2 : Ints W W.heap.size tt v2) => Plan_some ls bs at_ tt _ _ v1 v2 W W.heap.size (Nat.le_refl _) (LB6.below hW).l (LB6.below hW).b k1 k2 hp0 hp2 p hpp)
          have HQ := Lib.hid (fun (v1 v2 : Value) (W : World) (hW : Below w6.heap.size w6 W) (k1 : Ints W W.heap.size tt v1) (k2 : Ints W W.heap.size at_ v2) => Plan_some ls bs tt at_ _ _ v1 v2 W W.heap.size (Nat.le_refl _) (LB6.below hW).l (LB6.below hW).b k1 k2 hp2 hp0 q hqq)
          have hto : tt.length ≤ 100000 := by omega
          have hpi : (p.length : Int) ≤ (plan.length : Int) := by omega
          have hqi : ((q.length : Int) == (p.length : Int)) = true := by simp [hqp]
          have hs6 := B6.size
          clear hE hp0 hf0 hL hp2 hlen hpp hqq hle hqp LB6
          go_wp2_with fail
          refine (cloneI_c at_ _ w6 B (by omega) (ha.below inS (B6.mono hB)) (by omega)).mono ?_
          rintro e w7 ⟨v7, rfl, hown7, hb7⟩
          have k7 := hown7.toSl inS
          obtain ⟨A7, c7, rfl, -⟩ := id k7
          have h67 := (h6.below inS hb7).mono inS hb7.size
          clear hown7
          go_wp2_with fail
          refine (cloneI_c tt _ w7 w7.heap.size (Nat.le_refl _) h67 hto).mono ?_
          rintro e w8 ⟨v8, rfl, hown8, hb8⟩
          have k8 := hown8.toSl inS
          obtain ⟨A8, c8, rfl, -⟩ := id k8
          have k78 := (k7.below inS hb8).mono inS hb8.size
          have h68 := (h67.below inS hb8).mono inS hb8.size
          have b68 := hb7.trans (hb8.mono hb7.size)
          clear hown8 k7 h67 h6
          go_wp2_with fail
          refine (HP.out _ _ w8 b68 k78 k8).mono ?_
          rintro e w9 ⟨v9, rfl, h9, hb9⟩
          obtain ⟨A9, c9, rfl, -⟩ := id h9
          have b69 := b68.trans (hb9.mono b68.size)
          have h69 := (h68.below inS hb9).mono inS hb9.size
          have hs9 := b69.size
          have B9 := B6.trans (b69.mono hs6)
          clear k78 k8 h68 HP h9
          go_wp2_with fail
          refine (cloneI_c tt _ w9 w9.heap.size (Nat.le_refl _) h69 hto).mono ?_
          rintro e w10 ⟨v10, rfl, hown10, hb10⟩
          have k10 := hown10.toSl inS
          obtain ⟨A10, c10, rfl, -⟩ := id k10
          have B10 := B9.trans (hb10.mono B9.size)
          clear hown10
          go_wp2_with fail
          refine (cloneI_c at_ _ w10 B (Nat.le_trans hB B10.size) (ha.below inS (B10.mono hB)) (by omega)).mono ?_
          rintro e w11 ⟨v11, rfl, hown11, hb11⟩
          have k11 := hown11.toSl inS
          obtain ⟨A11, c11, rfl, -⟩ := id k11
          have k1011 := (k10.below inS hb11).mono inS hb11.size
          have b611 := (b69.trans (hb10.mono b69.size)).trans (hb11.mono (by have := hb10.size; omega))
          clear hown11 k10
          go_wp2_with fail
          refine (HQ.out _ _ w11 b611 k1011 k11).mono ?_
          rintro e w12 ⟨v12, rfl, h12, hb12⟩
          obtain ⟨A12, c12, rfl, -⟩ := id h12
          have B12 := B6.trans ((b611.trans (hb12.mono b611.size)).mono hs6)
          clear HQ k1011 k11 h12
          go_wp2
          go_ret
          exact ⟨rfl, B12⟩
        · have hL : apL ls bs at_ plan = [] := ap_nil hE
          obtain ⟨n1, n2⟩ := ne_bool hE
          rw [hL]
          clear hE hL h6
          go_wp2
          go_ret
          exact ⟨rfl, B6⟩
      · have hj : decide ((30 : Int) < (plan.length : Int)) = true := by simp; omega
        go_wp2_with fail
        refine (HFW.out _ B1).mono ?_
        rintro e w2 ⟨rfl, hb2⟩
        go_wp2
        go_ret
        exact ⟨rfl, B1.trans (hb2.mono B1.size)⟩
    · have hi : decide ((30 : Int) < (at_.length : Int)) = true := by simp; omega
      go_wp2_with fail
      refine (HFW.out _ B1).mono ?_
      rintro e w2 ⟨rfl, hb2⟩
      go_wp2
      go_ret
      exact ⟨rfl, B1.trans (hb2.mono B1.size)⟩
end Go.Proofs.Ythabpkigflldmaa
