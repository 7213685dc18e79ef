/- The reference: under, Below, Common (written by gen_rfj.py). -/
import Derived.Test.YthbccfchjgihgaaGreatDoorRfI
import Derived.Test.YthbccfchjgihgaaGreatDoorBel
import Derived.Deep.RegionLawGrows
namespace Go.Proofs.YthbccfchjgihgaaGreatDoor
open Go.RowKit

def ownU (u : Int) : List Int := if u = 0 then [] else [u]
theorem RightT.under_step {t : Tre} (T : RightT t) {u : Int} (hu : u = 0 ∨ ∃ b ∈ t.brs, b.id = u) : belT t u = ownU u ++ (kidsT t u).flatMap (belT t) := by
  unfold ownU kidsT
  rcases hu with rfl | ⟨b, hb, rfl⟩
  · rw [if_pos rfl, if_pos rfl, T.bel_tops]; rfl
  · rw [if_neg (T.id_ne hb), if_neg (T.id_ne hb), T.kidsO_of hb, T.bel_step hb]; rfl
theorem RightT.bel_len {t : Tre} (T : RightT t) {u : Int} (hu : u = 0 ∨ ∃ b ∈ t.brs, b.id = u) : (belT t u).length ≤ t.brs.length := by
  have := T.pre_len hu
  unfold belT
  rwa [List.length_map]
theorem kids_mem {t : Tre} (T : RightT t) {u k : Int} (hu : u = 0 ∨ ∃ b ∈ t.brs, b.id = u) (hk : k ∈ kidsT t u) : ∃ c ∈ t.brs, c.id = k ∧ (u ≠ 0 → depN t.brs c.id = depN t.brs u + 1) := by
  unfold kidsT at hk
  rcases hu with rfl | ⟨b, hb, rfl⟩
  · rw [if_pos rfl] at hk
    obtain ⟨c, hc, -, rfl⟩ := T.top_iff.1 hk
    exact ⟨c, hc, rfl, fun h => absurd rfl h⟩
  · rw [if_neg (T.id_ne hb), T.kidsO_of hb] at hk
    obtain ⟨c, hc, h1, rfl⟩ := (T.kid_iff hb).1 hk
    exact ⟨c, hc, rfl, fun _ => T.kid_dep hb hc h1⟩
theorem flat_take {t : Tre} {ks : List Int} {k : Nat} {v : Int} (h : ks[k]? = some v) : (ks.take (k + 1)).flatMap (belT t) = (ks.take k).flatMap (belT t) ++ belT t v := by
  rw [take_at h, List.flatMap_append]; simp
theorem flat_len {t : Tre} (ks : List Int) (k : Nat) : ((ks.take k).flatMap (belT t)).length ≤ (ks.flatMap (belT t)).length := by
  have : ks.flatMap (belT t) = (ks.take k).flatMap (belT t) ++ (ks.drop k).flatMap (belT t) := by rw [← List.flatMap_append, List.take_append_drop]
  rw [this, List.length_append]; omega
theorem under_free {base n1 n2 : Nat} {v vU : Value} (h : ∀ b, v.ownBlock = some b → base ≤ b ∧ b < n1) (hU : ∀ b, vU.ownBlock = some b → n1 ≤ b ∧ b < n2) : ∀ b, vU.ownBlock = some b → b < n2 ∧ v.ownBlock ≠ some b := fun b hb => ⟨(hU b hb).2, fun e => by have h1 := (hU b hb).1; have h2 := (h b e).2; omega⟩
theorem kn_of {a b : Nat} (h : a + b ≤ 200000) : a + b ≤ 4294967296 := by omega
theorem kids_keep {base n : Nat} {ks : List Int} {vk v : Value} {w5 w6 : World} (h : OwnRep 1 (flat intEnc) 3 base w5 ks vk) (hg : w5.grownBy w6 v.ownBlock) (hk : ∀ b, vk.ownBlock = some b → base ≤ b ∧ b < n) (hn : n ≤ w5.heap.size) (hne : ∀ b, vk.ownBlock = some b → v.ownBlock ≠ some b) : OwnRep 1 (flat intEnc) 3 base w6 ks vk :=
  h.keep fun b hb => hg.block b (by have := (hk b hb).2; omega) (fun e => hne b hb e.symm)
theorem kids_ne {base n : Nat} {vk v v6 : Value} {w5 : World} (hat : v6.ownBlock = v.ownBlock ∨ v6.ownBlock = some w5.heap.size) (hk : ∀ b, vk.ownBlock = some b → base ≤ b ∧ b < n) (hn : n ≤ w5.heap.size) (hne : ∀ b, vk.ownBlock = some b → v.ownBlock ≠ some b) : ∀ b, vk.ownBlock = some b → v6.ownBlock ≠ some b := fun b hb e => by
  rcases hat with h | h
  · exact hne b hb (h ▸ e)
  · rw [h] at e
    injection e with e
    have := (hk b hb).2
    omega
def underQ (t : Tre) (u : Int) (w : World) (e : Ending) (w' : World) : Prop := ∃ v', e = .returned v' ∧ OwnRep 1 (flat intEnc) 3 w.heap.size w' (belT t u) v' ∧ Below w.heap.size w w'
set_option maxRecDepth 100000 in
set_option maxHeartbeats 8000000 in
theorem under_one (t : Tre) (hz : SizT t) (T : RightT t) (u : Int) (hu : u = 0 ∨ ∃ b ∈ t.brs, b.id = u) (vr vb : Value) (B : Nat)
    (IH : ∀ k ∈ kidsT t u, ∀ W : World, B ≤ W.heap.size → TreRep W B t vr vb → Calls Tryz.prog 67 #[treV vr vb, .int .i64 k] W (underQ t k W))
    (w : World) (hB : B ≤ w.heap.size) (h : TreRep w B t vr vb) :
    Calls Tryz.prog 67 #[treV vr vb, .int .i64 u] w (underQ t u w) := by
  have b1 := tre_new w vr vb
  have hs1 : w.heap.size + 1 ≤ (w.alloc (treC vr vb)).heap.size := by simp
  have KC := Lib.hid (fun (W : World) (hW : Below (w.heap.size + 1) (w.alloc (treC vr vb)) W) => treW_at hW)
  have HUP := Lib.hid (fun (W : World) (hW : Below (w.heap.size + 1) (w.alloc (treC vr vb)) W) => b1.trans (hW.mono (Nat.le_succ _)))
  have HR := Lib.hid (fun (W : World) (hW : Below w.heap.size w W) => (⟨Nat.le_trans hB hW.size, h.below (hW.mono hB)⟩ : B ≤ W.heap.size ∧ TreRep W B t vr vb))
  have HCH := Lib.hid (fun (W : World) (hW : Below w.heap.size w W) => rchild_c t hz u vr vb W B (HR.out W hW).1 (HR.out W hW).2)
  have hstep := T.under_step hu
  have hlen := T.bel_len hu
  have hbn := hz.brs
  have HI := Lib.hid IH
  obtain ⟨ks, hks⟩ : ∃ ks, kidsT t u = ks := ⟨_, rfl⟩
  rw [hks] at HCH hstep HI
  have HST := Lib.hid hstep
  have hfl : (ks.flatMap (belT t)).length ≤ 100000 := by
    have := congrArg List.length hstep
    rw [List.length_append] at this
    omega
  obtain ⟨Ar, cr, rfl, -⟩ := id h.tops
  obtain ⟨A, ca, rfl, -⟩ := id h.brs
  clear h IH hks hstep hlen
  have bX : Below (w.heap.size + 1) (w.alloc (treC (.slice Ar t.roots.length cr) (.slice A t.brs.length ca))) (w.alloc (treC (.slice Ar t.roots.length cr) (.slice A t.brs.length ca))) := Below.refl _ _
  go_enter Tryz.func67, Tryz.ntmps67
  by_cases h0 : u = 0
  · have hu0 : (u != 0) = false := by simp [h0]
    have HOU := Lib.hid (show ownU u = [] by unfold ownU; rw [if_pos h0])
    clear h0
    obtain ⟨z0, z1, zl⟩ := KC.out _ bX
    go_wp2_with fail
    refine (HCH.out _ (HUP.out _ bX)).mono ?_
    rintro e w1 ⟨vk, rfl, hown1, hb1⟩
    have bX0 := bX
    have bX := bnd_call bX hs1 hb1
    have hbs := Nat.le_trans hs1 (bX0.size)
    have hne0 : ∀ b, vk.ownBlock = some b → (Value.slice none 0 0).ownBlock ≠ some b := fun b _ e => by cases e
    have hp0 : OwnRep 1 (flat intEnc) 3 (w.heap.size + 1) w1 (ownU u) (.slice none 0 0) := by rw [HOU.out]; exact OwnRep.nil_
    have hpl : (ownU u).length ≤ 1 := by rw [HOU.out]; simp
    obtain ⟨pre, hpre⟩ : ∃ p, ownU u = p := ⟨_, rfl⟩
    rw [hpre] at hp0 hpl HST
    clear HOU hpre z0 z1 zl hb1 bX0
    obtain ⟨Ak, ck, rfl, hkc1, hkc2, -⟩ := id (hown1.toSl intS)
    have HOK := Lib.hid (hown1.base_le hbs)
    have H0 : OwnRep 1 (flat intEnc) 3 (w.heap.size + 1) w1 (pre ++ (ks.take 0).flatMap (belT t)) (.slice none 0 0) := by simpa using hp0
    have hw1 : w.heap.size + 1 ≤ w1.heap.size := Nat.le_trans hs1 bX.size
    have HN0 := Lib.hid hne0
    clear hown1 hp0 hne0
    go_wp2
    go_loopw [5, 7] (fun t5 i wr => ∃ k : Nat, k ≤ ks.length ∧ i = .int .i64 k ∧ OwnRep 1 (flat intEnc) 3 (w.heap.size + 1) wr (pre ++ (ks.take k).flatMap (belT t)) t5 ∧ (∀ b, (Value.slice Ak ks.length ck).ownBlock = some b → t5.ownBlock ≠ some b) ∧ OwnRep 1 (flat intEnc) 3 (w.heap.size + 1) wr ks (.slice Ak ks.length ck) ∧ Below (w.heap.size + 1) (w.alloc (treC (.slice Ar t.roots.length cr) (.slice A t.brs.length ca))) wr) (fun _ i _ => ks.length - (intOf i).toNat)
    case atStart => exact ⟨0, Nat.zero_le _, rfl, H0, HN0.out, HOK.out, bX⟩
    case round =>
      clear bX H0 HN0 hw1
      obtain ⟨k, hk, rfl, hown, hne, hkown, bX⟩ := hrel
      have bw := HUP.out _ bX
      obtain ⟨z0, z1, zl⟩ := KC.out _ bX
      have hlk : ((ks.take k).flatMap (belT t)).length ≤ 100000 := Nat.le_trans (flat_len ks k) hfl
      by_cases hlt : k < ks.length
      · obtain ⟨v, hv⟩ := get_at ks hlt
        have HT := Lib.hid (flat_take (t := t) hv)
        have hlk1 : ((ks.take (k + 1)).flatMap (belT t)).length ≤ 100000 := Nat.le_trans (flat_len ks (k + 1)) hfl
        rw [HT.out, List.length_append] at hlk1
        have HIv := Lib.hid (HI.out v (List.mem_of_getElem? hv))
        obtain ⟨bk, ok, rfl, hbk, q0⟩ := Ints.at_ (hkown.toSl intS) hv
        have hbk' : bk < wr.heap.size := hbk
        have hki : (k : Int) < (ks.length : Int) := by omega
        have hwk : IntKind.i64.wrap ((k : Int) + 1) = (k : Int) + 1 := IntWalk.i64_in _ (by omega)
        have bD := bX.drew
        have bDr : Below wr.heap.size wr wr.drew := (Below.refl _ _).drew
        have hA0 := hown.below intS bDr
        have hK0 := hkown.below intS bDr
        obtain ⟨pl, hplE⟩ : ∃ l, pre ++ (ks.take k).flatMap (belT t) = l := ⟨_, rfl⟩
        have hpll : pl.length + (belT t v).length ≤ 200000 := by rw [← hplE, List.length_append]; omega
        have HPL := Lib.hid (show pre ++ (ks.take (k + 1)).flatMap (belT t) = pl ++ belT t v by rw [HT.out, ← hplE, List.append_assoc])
        rw [hplE] at hA0 hown
        obtain ⟨Ao, co, rfl, -⟩ := id (hown.toSl intS)
        have hlo := hA0.own_lt
        have hko := hK0.own_lt
        have hwr : w.heap.size + 1 ≤ wr.heap.size := Nat.le_trans hs1 bX.size
        obtain ⟨m, hm⟩ : ∃ m, pl.length = m := ⟨_, rfl⟩
        have HNE := Lib.hid hne
        have HLO := Lib.hid hlo
        have HKO := Lib.hid hko
        have HK0 := Lib.hid hK0
        have HA0 := Lib.hid hA0
        have HPLL := Lib.hid hpll
        clear hv hplE hown hkown hbk hne hlo hko hK0 hA0 hpll hlk hlk1 hm
        go_wp2
        go_region_law (first
          | (go_simp; go_at_call 67; (with_reducible refine (HIv.out _ (HR.out _ (HUP.out _ bD)).1 (HR.out _ (HUP.out _ bD)).2).mono ?_); rintro e w5 ⟨vU, rfl, hownU, hb5⟩; have bE := bnd_call bD hs1 hb5; have hA := HA0.out.below intS hb5; have hK := HK0.out.below intS hb5; have hlU := hownU.own_lt; have hS := hownU.toFlat intS; have hs5 := hb5.size; have kF := under_free HLO.out hlU; have kB := Nat.le_trans hwr hs5; have kN := kn_of HPLL.out; obtain ⟨AU, cU, rfl, -⟩ := id (hownU.toSl intS))
          | (refine step_append_rep rfl intS intE_ (w.heap.size + 1) (.tmp 23) (.tmp 29) rfl rfl hA rfl (ys := belT t v) hS kF kN (by decide) kB ?_; intro v6 w6 hown6 hg6 hat6; have hne6 := HNE.out; have hb6 := bE.grown hg6 kB (fun j hj => (HLO.out j hj).1); have hk6 := kids_keep hK hg6 HKO.out hs5 HNE.out; have hn6 := kids_ne hat6 HKO.out hs5 HNE.out; obtain ⟨A6, c6, rfl, -⟩ := id (hown6.toSl intS)))
        all_goals
          have HO6 := Lib.hid hown6
          have HK6 := Lib.hid hk6
          have HN6 := Lib.hid hn6
          have HLN := Lib.hid (show (pl ++ belT t v).length = pl.length + (belT t v).length from List.length_append)
          clear hown6 hk6 hn6 hg6 hat6 hA hK hS kF kB kN hlU hne6
          go_wp2
          go_roundw
          case rel => exact ⟨k + 1, by omega, by go_num, by rw [HPL.out, ← HLN.out]; exact HO6.out, by rw [← HLN.out]; exact HN6.out, HK6.out, hb6⟩
          case measure => simp [intOf]; omega
      · have hki : ¬ (k : Int) < (ks.length : Int) := by omega
        have HE := Lib.hid (show pre ++ (ks.take k).flatMap (belT t) = belT t u by rw [HST.out, List.take_of_length_le (by omega)])
        rw [HE.out] at hown
        obtain ⟨Ao, co, rfl, -⟩ := id (hown.toSl intS)
        have HO := Lib.hid hown
        clear hown hkown hne
        go_wp2
        go_ret
        exact ⟨_, rfl, HO.out.base_le (Nat.le_succ _), bw⟩
  · have hu0 : (u != 0) = true := by simpa using h0
    have HOU := Lib.hid (show ownU u = [u] by unfold ownU; rw [if_neg h0])
    clear h0
    go_wp2_with (at_builtin; refine stop_intro ?_)
    refine stop_elim ?_
    have hsz : (w.alloc (treC (.slice Ar t.roots.length cr) (.slice A t.brs.length ca))).heap.size = w.heap.size + 1 := by simp
    have kS : SlRep 1 (flat intEnc) ((w.alloc (treC (.slice Ar t.roots.length cr) (.slice A t.brs.length ca))).alloc (.cells (intEnc u).toArray 3)) (fun b => False ∨ b = w.heap.size + 1) [u] (.slice (some ⟨w.heap.size + 1, 0, none⟩) 1 1) := by
      have := SlRep.one_new intS (w := w.alloc (treC (.slice Ar t.roots.length cr) (.slice A t.brs.length ca))) (t := 3) (F := fun _ => False) (x := u) (cs := intEnc u) rfl rfl (fun b hb => hb.elim)
      rwa [hsz] at this
    refine wpList_append_rep (xs := []) rfl intS intE_ (w.heap.size + 1) (.tmp 10) (.tmp 12) rfl rfl OwnRep.nil_ rfl (ys := [u]) kS (fun b hb => ?_) (by simp) (by decide) (by simp) ?_
    · rcases hb with hb | rfl
      · exact hb.elim
      · exact ⟨by simp, fun e => by have e' : (none : Option Nat) = some (w.heap.size + 1) := e; cases e'⟩
    intro v6 w6 hown6 hg6 hat6
    rw [List.nil_append] at hown6
    have bX : Below (w.heap.size + 1) (w.alloc (treC (.slice Ar t.roots.length cr) (.slice A t.brs.length ca))) w6 := (bX.alloc (Nat.le_of_eq hsz.symm) _).grown hg6 (by simp) (fun k hk => by have e' : (none : Option Nat) = some k := hk; cases e')
    rw [← HOU.out] at hown6
    have hpl : (ownU u).length ≤ 1 := by rw [HOU.out]; simp
    obtain ⟨pre, hpre⟩ : ∃ p, ownU u = p := ⟨_, rfl⟩
    rw [hpre] at hown6 hpl HST
    obtain ⟨A6, c6, rfl, -⟩ := id (hown6.toSl intS)
    have HO6 := Lib.hid hown6
    clear HOU hpre hg6 hat6 kS hsz hown6
    obtain ⟨z0, z1, zl⟩ := KC.out _ bX
    go_wp2_with fail
    refine (HCH.out _ (HUP.out _ bX)).mono ?_
    rintro e w1 ⟨vk, rfl, hown1, hb1⟩
    have bX0 := bX
    have bX := bnd_call bX hs1 hb1
    have hbs := Nat.le_trans hs1 (bX0.size)
    have hne0 : ∀ b, vk.ownBlock = some b → (Value.slice A6 pre.length c6).ownBlock ≠ some b := fun b hb e => by have h1 := (hown1.own_lt b hb).1; have h2 := (HO6.out.own_lt b e).2; omega
    have hp0 := HO6.out.below intS hb1
    clear z0 z1 zl hb1 bX0
    obtain ⟨Ak, ck, rfl, hkc1, hkc2, -⟩ := id (hown1.toSl intS)
    have HOK := Lib.hid (hown1.base_le hbs)
    have H0 : OwnRep 1 (flat intEnc) 3 (w.heap.size + 1) w1 (pre ++ (ks.take 0).flatMap (belT t)) (.slice A6 pre.length c6) := by simpa using hp0
    have hw1 : w.heap.size + 1 ≤ w1.heap.size := Nat.le_trans hs1 bX.size
    have HN0 := Lib.hid hne0
    clear hown1 hp0 hne0
    go_wp2
    go_loopw [5, 7] (fun t5 i wr => ∃ k : Nat, k ≤ ks.length ∧ i = .int .i64 k ∧ OwnRep 1 (flat intEnc) 3 (w.heap.size + 1) wr (pre ++ (ks.take k).flatMap (belT t)) t5 ∧ (∀ b, (Value.slice Ak ks.length ck).ownBlock = some b → t5.ownBlock ≠ some b) ∧ OwnRep 1 (flat intEnc) 3 (w.heap.size + 1) wr ks (.slice Ak ks.length ck) ∧ Below (w.heap.size + 1) (w.alloc (treC (.slice Ar t.roots.length cr) (.slice A t.brs.length ca))) wr) (fun _ i _ => ks.length - (intOf i).toNat)
    case atStart => exact ⟨0, Nat.zero_le _, rfl, H0, HN0.out, HOK.out, bX⟩
    case round =>
      clear bX H0 HN0 hw1
      obtain ⟨k, hk, rfl, hown, hne, hkown, bX⟩ := hrel
      have bw := HUP.out _ bX
      obtain ⟨z0, z1, zl⟩ := KC.out _ bX
      have hlk : ((ks.take k).flatMap (belT t)).length ≤ 100000 := Nat.le_trans (flat_len ks k) hfl
      by_cases hlt : k < ks.length
      · obtain ⟨v, hv⟩ := get_at ks hlt
        have HT := Lib.hid (flat_take (t := t) hv)
        have hlk1 : ((ks.take (k + 1)).flatMap (belT t)).length ≤ 100000 := Nat.le_trans (flat_len ks (k + 1)) hfl
        rw [HT.out, List.length_append] at hlk1
        have HIv := Lib.hid (HI.out v (List.mem_of_getElem? hv))
        obtain ⟨bk, ok, rfl, hbk, q0⟩ := Ints.at_ (hkown.toSl intS) hv
        have hbk' : bk < wr.heap.size := hbk
        have hki : (k : Int) < (ks.length : Int) := by omega
        have hwk : IntKind.i64.wrap ((k : Int) + 1) = (k : Int) + 1 := IntWalk.i64_in _ (by omega)
        have bD := bX.drew
        have bDr : Below wr.heap.size wr wr.drew := (Below.refl _ _).drew
        have hA0 := hown.below intS bDr
        have hK0 := hkown.below intS bDr
        obtain ⟨pl, hplE⟩ : ∃ l, pre ++ (ks.take k).flatMap (belT t) = l := ⟨_, rfl⟩
        have hpll : pl.length + (belT t v).length ≤ 200000 := by rw [← hplE, List.length_append]; omega
        have HPL := Lib.hid (show pre ++ (ks.take (k + 1)).flatMap (belT t) = pl ++ belT t v by rw [HT.out, ← hplE, List.append_assoc])
        rw [hplE] at hA0 hown
        obtain ⟨Ao, co, rfl, -⟩ := id (hown.toSl intS)
        have hlo := hA0.own_lt
        have hko := hK0.own_lt
        have hwr : w.heap.size + 1 ≤ wr.heap.size := Nat.le_trans hs1 bX.size
        obtain ⟨m, hm⟩ : ∃ m, pl.length = m := ⟨_, rfl⟩
        have HNE := Lib.hid hne
        have HLO := Lib.hid hlo
        have HKO := Lib.hid hko
        have HK0 := Lib.hid hK0
        have HA0 := Lib.hid hA0
        have HPLL := Lib.hid hpll
        clear hv hplE hown hkown hbk hne hlo hko hK0 hA0 hpll hlk hlk1 hm
        go_wp2
        go_region_law (first
          | (go_simp; go_at_call 67; (with_reducible refine (HIv.out _ (HR.out _ (HUP.out _ bD)).1 (HR.out _ (HUP.out _ bD)).2).mono ?_); rintro e w5 ⟨vU, rfl, hownU, hb5⟩; have bE := bnd_call bD hs1 hb5; have hA := HA0.out.below intS hb5; have hK := HK0.out.below intS hb5; have hlU := hownU.own_lt; have hS := hownU.toFlat intS; have hs5 := hb5.size; have kF := under_free HLO.out hlU; have kB := Nat.le_trans hwr hs5; have kN := kn_of HPLL.out; obtain ⟨AU, cU, rfl, -⟩ := id (hownU.toSl intS))
          | (refine step_append_rep rfl intS intE_ (w.heap.size + 1) (.tmp 23) (.tmp 29) rfl rfl hA rfl (ys := belT t v) hS kF kN (by decide) kB ?_; intro v6 w6 hown6 hg6 hat6; have hne6 := HNE.out; have hb6 := bE.grown hg6 kB (fun j hj => (HLO.out j hj).1); have hk6 := kids_keep hK hg6 HKO.out hs5 HNE.out; have hn6 := kids_ne hat6 HKO.out hs5 HNE.out; obtain ⟨A6, c6, rfl, -⟩ := id (hown6.toSl intS)))
        all_goals
          have HO6 := Lib.hid hown6
          have HK6 := Lib.hid hk6
          have HN6 := Lib.hid hn6
          have HLN := Lib.hid (show (pl ++ belT t v).length = pl.length + (belT t v).length from List.length_append)
          clear hown6 hk6 hn6 hg6 hat6 hA hK hS kF kB kN hlU hne6
          go_wp2
          go_roundw
          case rel => exact ⟨k + 1, by omega, by go_num, by rw [HPL.out, ← HLN.out]; exact HO6.out, by rw [← HLN.out]; exact HN6.out, HK6.out, hb6⟩
          case measure => simp [intOf]; omega
      · have hki : ¬ (k : Int) < (ks.length : Int) := by omega
        have HE := Lib.hid (show pre ++ (ks.take k).flatMap (belT t) = belT t u by rw [HST.out, List.take_of_length_le (by omega)])
        rw [HE.out] at hown
        obtain ⟨Ao, co, rfl, -⟩ := id (hown.toSl intS)
        have HO := Lib.hid hown
        clear hown hkown hne
        go_wp2
        go_ret
        exact ⟨_, rfl, HO.out.base_le (Nat.le_succ _), bw⟩
theorem under_c (t : Tre) (hz : SizT t) (T : RightT t) (vr vb : Value) (B : Nat) : ∀ (f : Nat) (u : Int), (u = 0 ∧ 13 ≤ f) ∨ (∃ b ∈ t.brs, b.id = u ∧ 12 < f + depN t.brs u) → ∀ w : World, B ≤ w.heap.size → TreRep w B t vr vb → Calls Tryz.prog 67 #[treV vr vb, .int .i64 u] w (underQ t u w)
  | 0, u, hu, w, hB, h => by
    rcases hu with ⟨-, hf⟩ | ⟨b, hb, rfl, hf⟩
    · omega
    · have := (T.upIs hb).2; omega
  | f + 1, u, hu, w, hB, h => by
    have hu' : u = 0 ∨ ∃ b ∈ t.brs, b.id = u := by
      rcases hu with ⟨h0, -⟩ | ⟨b, hb, h1, -⟩
      · exact .inl h0
      · exact .inr ⟨b, hb, h1⟩
    refine under_one t hz T u hu' vr vb B (fun k hk W hBW hW => ?_) w hB h
    obtain ⟨c, hc, rfl, hd⟩ := kids_mem T hu' hk
    refine under_c t hz T vr vb B f c.id (.inr ⟨c, hc, rfl, ?_⟩) W hBW hW
    have hdc := T.dep_pos hc
    rcases hu with ⟨h0, hf⟩ | ⟨b, hb, rfl, hf⟩
    · omega
    · have := hd (T.id_ne hb)
      omega
theorem runder_c (t : Tre) (hz : SizT t) (T : RightT t) (u : Int) (hu : u = 0 ∨ ∃ b ∈ t.brs, b.id = u) (vr vb : Value) (w : World) (B : Nat) (hB : B ≤ w.heap.size) (h : TreRep w B t vr vb) :
    Calls Tryz.prog 67 #[treV vr vb, .int .i64 u] w (underQ t u w) := by
  refine under_c t hz T vr vb B 13 u ?_ w hB h
  rcases hu with rfl | ⟨b, hb, rfl⟩
  · exact .inl ⟨rfl, Nat.le_refl _⟩
  · exact .inr ⟨b, hb, rfl, by omega⟩
set_option maxRecDepth 100000 in
set_option maxHeartbeats 2000000 in
theorem rBelow_c (t : Tre) (hz : SizT t) (hmk : ∀ b ∈ t.brs, b.mark.size ≤ 100000) (u : Int) (vr vb : Value) (w : World) (B : Nat) (hB : B ≤ w.heap.size) (h : TreRep w B t vr vb) :
    Calls Tryz.prog 28 #[treV vr vb, .int .i64 u] w fun e w' => ∃ v', e = .returned (.tuple #[v', .int .i64 (orTopE t u)]) ∧ OwnRep 1 (flat intEnc) 3 w.heap.size w' (belR t u) v' ∧ Below w.heap.size w w' := by
  have b1 := tre_new w vr vb
  have hs1 : w.heap.size + 1 ≤ (w.alloc (treC vr vb)).heap.size := by simp
  have KC := Lib.hid (fun (W : World) (hW : Below (w.heap.size + 1) (w.alloc (treC vr vb)) W) => treW_at hW)
  have HUP := Lib.hid (fun (W : World) (hW : Below (w.heap.size + 1) (w.alloc (treC vr vb)) W) => b1.trans (hW.mono (Nat.le_succ _)))
  have HK := Lib.hid (by have := rknown_c t hz hmk u true vr vb (w.alloc (treC vr vb)) B (Nat.le_trans hB b1.size) (h.below (b1.mono hB)); rwa [rkn_true] at this : Calls Tryz.prog 62 #[treV vr vb, .int .i64 u, .bool true] (w.alloc (treC vr vb)) fun e w' => e = .returned (.int .i64 (orTopE t u)) ∧ Below (w.alloc (treC vr vb)).heap.size (w.alloc (treC vr vb)) w')
  have HR := Lib.hid (fun (W : World) (hW : Below w.heap.size w W) => (⟨Nat.le_trans hB hW.size, h.below (hW.mono hB)⟩ : B ≤ W.heap.size ∧ TreRep W B t vr vb))
  obtain ⟨Ar, cr, rfl, -⟩ := id h.tops
  obtain ⟨A, ca, rfl, -⟩ := id h.brs
  clear h
  have bX : Below (w.heap.size + 1) (w.alloc (treC (.slice Ar t.roots.length cr) (.slice A t.brs.length ca))) (w.alloc (treC (.slice Ar t.roots.length cr) (.slice A t.brs.length ca))) := Below.refl _ _
  have HE := Lib.hid (by refine ⟨fun h1 => by unfold belR; rw [if_pos h1], fun h1 => ⟨Lib.hid (by unfold belR; rw [if_neg (by rw [h1]; decide)]), (orTop_zero h1).1, by by_cases hu : u = 0; exact .inl hu; exact .inr ((orTop_zero h1).2 hu)⟩⟩ : ((orTopE t u) ≠ 0 → belR t u = []) ∧ ((orTopE t u) = 0 → Hid ((belR t u = belT t u)) ∧ RightT t ∧ (u = 0 ∨ ∃ b ∈ t.brs, b.id = u)))
  obtain ⟨ke, hke⟩ : ∃ k, orTopE t u = k := ⟨_, rfl⟩
  rw [hke] at HK HE ⊢
  clear hke
  by_cases h0 : ke = 0
  · have HX := Lib.hid (HE.out.2 h0)
    have HBB := Lib.hid (fun (W : World) (hBW : B ≤ W.heap.size) (hW : TreRep W B t (.slice Ar t.roots.length cr) (.slice A t.brs.length ca)) => runder_c t hz HX.out.2.1 u HX.out.2.2 (.slice Ar t.roots.length cr) (.slice A t.brs.length ca) W B hBW hW)
    unfold underQ at HBB
    subst h0
    go_enter Tryz.func28, Tryz.ntmps28
    go_wp2_with fail
    refine HK.out.mono ?_
    rintro e w1 ⟨rfl, hb1⟩
    have bX := bnd_call bX hs1 hb1
    obtain ⟨z0, z1, zl⟩ := KC.out _ bX
    have bw := HUP.out _ bX
    have HI := Lib.hid (HBB.out w1 (HR.out _ bw).1 (HR.out _ bw).2)
    go_wp2_with fail
    refine HI.out.mono ?_
    rintro e w2 ⟨v2, rfl, hown, hb2⟩
    obtain ⟨A2, c2, rfl, -⟩ := id (hown.toSl intS)
    have HO := Lib.hid hown
    clear hown
    go_wp2
    go_ret2
    exact ⟨_, rfl, by rw [HX.out.1.out]; exact HO.out.base_le bw.size, bw.trans (hb2.mono bw.size)⟩
  · have HX := Lib.hid (HE.out.1 h0)
    have hne : (ke != 0) = true := by simpa using h0
    clear h0
    go_enter Tryz.func28, Tryz.ntmps28
    go_wp2_with fail
    refine HK.out.mono ?_
    rintro e w1 ⟨rfl, hb1⟩
    have bX := bnd_call bX hs1 hb1
    go_wp2
    go_ret2
    exact ⟨.slice none 0 0, rfl, by rw [HX.out]; exact OwnRep.nil_, HUP.out _ bX⟩
theorem known_pair {t : Tre} (a b : Int) : (knownE t [a] ≠ 0 → knownE t [a, b] = knownE t [a]) ∧ (knownE t [a] = 0 → knownE t [a, b] = knownE t [b]) := by
  rw [known_two, known_one, known_one]
  generalize (findB t.brs a).isNone = x
  generalize (findB t.brs b).isNone = y
  cases rightT t <;> cases x <;> cases y <;> simp
set_option maxRecDepth 100000 in
set_option maxHeartbeats 4000000 in
theorem rCommon_c (t : Tre) (hz : SizT t) (hmk : ∀ b ∈ t.brs, b.mark.size ≤ 100000) (a b : Int) (vr vb : Value) (w : World) (B : Nat) (hB : B ≤ w.heap.size) (h : TreRep w B t vr vb) :
    Calls Tryz.prog 30 #[treV vr vb, .int .i64 a, .int .i64 b] w fun e w' => e = .returned (.tuple #[.int .i64 (comR t a b), .int .i64 (knownE t [a, b])]) ∧ Below w.heap.size w w' := by
  have b1 := tre_new w vr vb
  have hs1 : w.heap.size + 1 ≤ (w.alloc (treC vr vb)).heap.size := by simp
  have KC := Lib.hid (fun (W : World) (hW : Below (w.heap.size + 1) (w.alloc (treC vr vb)) W) => treW_at hW)
  have HUP := Lib.hid (fun (W : World) (hW : Below (w.heap.size + 1) (w.alloc (treC vr vb)) W) => b1.trans (hW.mono (Nat.le_succ _)))
  have HR := Lib.hid (fun (W : World) (hW : Below w.heap.size w W) => (⟨Nat.le_trans hB hW.size, h.below (hW.mono hB)⟩ : B ≤ W.heap.size ∧ TreRep W B t vr vb))
  have HKA := Lib.hid (fun (u : Int) (W : World) (hW : Below w.heap.size w W) => (by have := rknown_c t hz hmk u false vr vb W B (HR.out W hW).1 (HR.out W hW).2; rwa [rkn_false] at this : Calls Tryz.prog 62 #[treV vr vb, .int .i64 u, .bool false] W fun e w' => e = .returned (.int .i64 (knownE t [u])) ∧ Below W.heap.size W w'))
  have HPA := Lib.hid (fun (u : Int) (W : World) (hW : Below w.heap.size w W) => rpath_c t hz.brs u vr vb W B (HR.out W hW).1 (HR.out W hW).2)
  have HK1 := Lib.hid (HKA.out a)
  have HK2 := Lib.hid (HKA.out b)
  have HP1 := Lib.hid (HPA.out a)
  have HP2 := Lib.hid (HPA.out b)
  have HLE : ∀ u : Int, knownE t [u] = 0 → (rpathF t.brs u).length ≤ 12 := fun u hu => by
    obtain ⟨T, hk⟩ := known_zero hu
    obtain ⟨c, hc, rfl⟩ := hk u (by simp)
    exact (T.path_len hc).2
  have HA := Lib.hid (HLE a)
  have HB := Lib.hid (HLE b)
  have HKP := Lib.hid (known_pair (t := t) a b)
  have HCO := Lib.hid (show (knownE t [a, b] ≠ 0 → comR t a b = 0) ∧ (knownE t [a, b] = 0 → comR t a b = comG 0 (rpathF t.brs a) (rpathF t.brs b)) from ⟨fun h1 => by unfold comR; rw [if_pos h1], fun h1 => by unfold comR; rw [if_neg (by rw [h1]; decide)]; rfl⟩)
  obtain ⟨Ar, cr, rfl, -⟩ := id h.tops
  obtain ⟨A, ca, rfl, -⟩ := id h.brs
  clear h HLE HKA HPA
  generalize knownE t [a] = k1 at *
  generalize knownE t [b] = k2 at *
  generalize rpathF t.brs a = p at *
  generalize rpathF t.brs b = q at *
  obtain ⟨kk, hkk⟩ : ∃ k, knownE t [a, b] = k := ⟨_, rfl⟩
  obtain ⟨co, hco⟩ : ∃ k, comR t a b = k := ⟨_, rfl⟩
  rw [hkk] at HKP HCO ⊢
  rw [hco] at HCO ⊢
  clear hkk hco
  have bX : Below (w.heap.size + 1) (w.alloc (treC (.slice Ar t.roots.length cr) (.slice A t.brs.length ca))) (w.alloc (treC (.slice Ar t.roots.length cr) (.slice A t.brs.length ca))) := Below.refl _ _
  obtain ⟨z0, z1, zl⟩ := KC.out _ bX
  by_cases h1 : k1 = 0
  · have HKQ := Lib.hid (HKP.out.2 h1)
    have HA2 := Lib.hid (HA.out h1)
    subst h1
    clear HA HKP
    by_cases h2 : k2 = 0
    · have HB2 := Lib.hid (HB.out h2)
      have HC2 := Lib.hid (HCO.out.2 (HKQ.out.trans h2))
      have HKZ := Lib.hid (HKQ.out.trans h2)
      subst h2
      clear HB HCO HKQ
      go_enter Tryz.func30, Tryz.ntmps30
      go_wp2_with fail
      refine (HK1.out _ (HUP.out _ bX)).mono ?_
      rintro e w1 ⟨rfl, hb1⟩
      have bX := bnd_call bX hs1 hb1
      clear z0 z1 zl hb1
      obtain ⟨z0, z1, zl⟩ := KC.out _ bX
      go_wp2_with fail
      refine (HK2.out _ (HUP.out _ bX)).mono ?_
      rintro e w2 ⟨rfl, hb2⟩
      have bX := bnd_call bX hs1 hb2
      clear z0 z1 zl hb2
      have bD := bX.drew
      go_wp2
      go_region_held3 (fun W => W.cell? ⟨w.heap.size, 0, none⟩ = some (.slice Ar t.roots.length cr) ∧ W.cell? ⟨w.heap.size, 1, none⟩ = some (.slice A t.brs.length ca) ∧ w.heap.size < W.heap.size) (with_reducible exact KC.out _ bD) (first
        | (go_at_call 54; (with_reducible refine (HP1.out _ (HUP.out _ bD)).mono ?_); rintro e w3 ⟨vp, rfl, hownP, hb3⟩; clear HP1; have bD := bnd_call bD hs1 hb3; have hp := hownP.toSl intS; obtain ⟨Ap, cp, rfl, -⟩ := id hp)
        | (go_at_call 54; (with_reducible refine (HP2.out _ (HUP.out _ bD)).mono ?_); rintro e w4 ⟨vq, rfl, hownQ, hb4⟩; have bD := bnd_call bD hs1 hb4; have hp := (hp.below intS hb4).mono intS hb4.size; have hq := hownQ.toSl intS; obtain ⟨Aq, cq, rfl, -⟩ := id hq))
      have H0 := Lib.hid (show comG 0 p q = comG 0 (p.drop 0) (q.drop 0) from rfl)
      have HPW := Lib.hid (fun (W : World) (hW : Below w4.heap.size w4 W) => hp.below intS hW)
      have HQW := Lib.hid (fun (W : World) (hW : Below w4.heap.size w4 W) => hq.below intS hW)
      have hb0 := HUP.out _ bD
      have hpl := HA2.out
      have hql := HB2.out
      clear hp hq hownP hownQ hb3 hb4 HP2 bD bX
      go_wp2
      go_loopw [12, 13] (fun t12 t13 wr => ∃ (k : Nat) (o : Int), k ≤ 12 ∧ t13 = .int .i64 k ∧ t12 = .int .i64 o ∧ Hid (comG 0 p q = comG o (p.drop k) (q.drop k)) ∧ Below w4.heap.size w4 wr) (fun _ t13 _ => 12 - (intOf t13).toNat)
      case atStart => exact ⟨0, 0, Nat.zero_le _, rfl, rfl, H0, Below.refl _ _⟩
      case round =>
        clear H0
        obtain ⟨k, o, hk, rfl, rfl, HS, hbr⟩ := hrel
        have hbw := hb0.trans (hbr.mono hb0.size)
        by_cases hlp : k < p.length
        · have hkp : (k : Int) < (p.length : Int) := by omega
          have hkp' : decide ((k : Int) < (p.length : Int)) = true := decide_eq_true hkp
          by_cases hlq : k < q.length
          · have hkq : (k : Int) < (q.length : Int) := by omega
            have hkq' : decide ((k : Int) < (q.length : Int)) = true := decide_eq_true hkq
            obtain ⟨x, hx⟩ := get_at p hlp
            obtain ⟨y, hy⟩ := get_at q hlq
            have HDP := Lib.hid (drop_at hx)
            have HDQ := Lib.hid (drop_at hy)
            obtain ⟨bp, op, rfl, hbp, gp⟩ := Ints.at_ (HPW.out _ hbr) hx
            obtain ⟨bq, oq, rfl, hbq, gq⟩ := Ints.at_ (HQW.out _ hbr) hy
            have hbp' : bp < wr.heap.size := Nat.lt_of_lt_of_le hbp hbr.size
            have hbq' : bq < wr.heap.size := Nat.lt_of_lt_of_le hbq hbr.size
            have hwk : IntKind.i64.wrap ((k : Int) + 1) = (k : Int) + 1 := IntWalk.i64_in _ (by omega)
            clear hx hy
            by_cases hxy : x = y
            · subst hxy
              have HN := Lib.hid (show comG 0 p q = comG x (p.drop (k + 1)) (q.drop (k + 1)) by rw [HS.out, HDP.out, HDQ.out, comG_cons, if_pos rfl])
              go_wp2
              go_quiet (fail)
              go_wp2
              go_roundw
              case rel => exact ⟨k + 1, x, by omega, by go_num, rfl, HN, below_drewN hbr _⟩
              case measure => simp [intOf]; omega
            · have hne : (x == y) = false := by simpa using hxy
              have HN := Lib.hid (show comG 0 p q = o by rw [HS.out, HDP.out, HDQ.out, comG_cons, if_neg hxy])
              clear hxy
              go_wp2
              go_quiet (fail)
              go_wp2
              go_ret2
              exact ⟨by rw [HC2.out, HN.out, HKZ.out]; rfl, below_drewN hbw _⟩
          · have hkq' : decide ((k : Int) < (q.length : Int)) = false := by rw [decide_eq_false_iff_not]; omega
            have HN := Lib.hid (show comG 0 p q = o by rw [HS.out]; exact comG_nil _ _ _ (.inr (List.drop_of_length_le (by omega))))
            go_wp2
            go_quiet (fail)
            go_wp2
            go_ret2
            exact ⟨by rw [HC2.out, HN.out, HKZ.out]; rfl, below_drewN hbw _⟩
        · have hkp' : decide ((k : Int) < (p.length : Int)) = false := by rw [decide_eq_false_iff_not]; omega
          have HN := Lib.hid (show comG 0 p q = o by rw [HS.out]; exact comG_nil _ _ _ (.inl (List.drop_of_length_le (by omega))))
          go_wp2
          go_quiet (fail)
          go_wp2
          go_ret2
          exact ⟨by rw [HC2.out, HN.out, HKZ.out]; rfl, below_drewN hbw _⟩
    · have hne : (k2 != 0) = true := by simpa using h2
      have HX := Lib.hid (HCO.out.1 (by rw [HKQ.out]; exact h2))
      clear h2 HCO
      go_enter Tryz.func30, Tryz.ntmps30
      go_wp2_with fail
      refine (HK1.out _ (HUP.out _ bX)).mono ?_
      rintro e w1 ⟨rfl, hb1⟩
      have bX := bnd_call bX hs1 hb1
      clear z0 z1 zl hb1
      obtain ⟨z0, z1, zl⟩ := KC.out _ bX
      go_wp2_with fail
      refine (HK2.out _ (HUP.out _ bX)).mono ?_
      rintro e w2 ⟨rfl, hb2⟩
      have bX := bnd_call bX hs1 hb2
      go_wp2
      go_ret2
      exact ⟨by rw [HX.out, HKQ.out]; rfl, HUP.out _ bX⟩
  · have hne : (k1 != 0) = true := by simpa using h1
    have HX := Lib.hid (HCO.out.1 (by rw [HKP.out.1 h1]; exact h1))
    have HY := Lib.hid (HKP.out.1 h1)
    clear h1 HCO HKP HA
    go_enter Tryz.func30, Tryz.ntmps30
    go_wp2_with fail
    refine (HK1.out _ (HUP.out _ bX)).mono ?_
    rintro e w1 ⟨rfl, hb1⟩
    have bX := bnd_call bX hs1 hb1
    go_wp2
    go_ret2
    exact ⟨by rw [HX.out, HY.out]; rfl, HUP.out _ bX⟩
end Go.Proofs.YthbccfchjgihgaaGreatDoor
