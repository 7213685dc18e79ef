/- The reference: known, Children, Kids, Path (written by gen_rfi.py). -/
import Derived.Test.YthbccfchjgihgaaGreatDoorRfH
namespace Go.Proofs.YthbccfchjgihgaaGreatDoor
open Go.RowKit

def rknE (t : Tre) (u : Int) (top : Bool) : Int := if rightT t = false then 1 else if ((findU t.brs u).2 || (top && decide (u = 0))) = true then 0 else 7
theorem findU_some (l : List Brn) (u : Int) : (findU l u).2 = !(findB l u).isNone := by unfold findU; cases findB l u <;> rfl
theorem rkn_false (t : Tre) (u : Int) : rknE t u false = knownE t [u] := by
  unfold rknE
  rw [known_one, findU_some]
  cases (findB t.brs u).isNone <;> simp
theorem rkn_true (t : Tre) (u : Int) : rknE t u true = orTopE t u := by
  unfold rknE orTopE
  by_cases h : u = 0
  · rw [if_pos h, known_nil]
    simp [h]
  · rw [if_neg h, known_one, findU_some]
    cases (findB t.brs u).isNone <;> simp [h]
set_option maxRecDepth 100000 in
set_option maxHeartbeats 2000000 in
theorem rknown_c (t : Tre) (hz : SizT t) (hmk : ∀ b ∈ t.brs, b.mark.size ≤ 100000) (u : Int) (top : Bool) (vr vb : Value) (w : World) (B : Nat) (hB : B ≤ w.heap.size) (h : TreRep w B t vr vb) :
    Calls Tryz.prog 62 #[treV vr vb, .int .i64 u, .bool top] w fun e w' => e = .returned (.int .i64 (rknE t u top)) ∧ Below w.heap.size w w' := by
  have b1 := tre_new w vr vb
  have hs1 : w.heap.size + 1 ≤ (w.alloc (treC vr vb)).heap.size := by simp
  have KC := Lib.hid (fun (W : World) (hW : Below (w.heap.size + 1) (w.alloc (treC vr vb)) W) => treW_at hW)
  have HUP := Lib.hid (fun (W : World) (hW : Below (w.heap.size + 1) (w.alloc (treC vr vb)) W) => b1.trans (hW.mono (Nat.le_succ _)))
  have HR := Lib.hid (rright_c t hz hmk vr vb (w.alloc (treC vr vb)) B (Nat.le_trans hB b1.size) (h.below (b1.mono hB)))
  have HF := Lib.hid (fun (W : World) (hW : Below w.heap.size w W) => rfind_c t u vr vb W B (Nat.le_trans hB hW.size) (h.below (hW.mono hB)))
  have HE := Lib.hid (show rknE t u top = if rightT t = false then 1 else if ((findU t.brs u).2 || (top && decide (u = 0))) = true then 0 else 7 from rfl)
  generalize rightT t = br at HR HE
  generalize (findU t.brs u).2 = bo at HF HE
  generalize (findU t.brs u).1 = x at HF
  obtain ⟨Ar, cr, rfl, -⟩ := id h.tops
  obtain ⟨A, ca, rfl, -⟩ := id h.brs
  clear h
  have bX : Below (w.heap.size + 1) (w.alloc (treC (.slice Ar t.roots.length cr) (.slice A t.brs.length ca))) (w.alloc (treC (.slice Ar t.roots.length cr) (.slice A t.brs.length ca))) := Below.refl _ _
  cases br
  · have HX := Lib.hid (HE.out.trans (if_pos rfl))
    go_enter Tryz.func62, Tryz.ntmps62
    go_wp2_with fail
    refine HR.out.mono ?_
    rintro e w1 ⟨rfl, hb1⟩
    have bX := bnd_call bX hs1 hb1
    go_wp2
    go_ret
    exact ⟨ret_int HX.out.symm, HUP.out _ bX⟩
  · have HE := Lib.hid (HE.out.trans (if_neg (by decide)))
    by_cases hu : u = 0
    · have hu0 : (u == 0) = true := by simp [hu]
      have HE := Lib.hid (show rknE t u top = if (bo || top) = true then 0 else 7 by rw [HE.out, decide_eq_true hu, Bool.and_true])
      clear hu
      cases bo
      all_goals
        cases top
        all_goals
          go_enter Tryz.func62, Tryz.ntmps62
          go_wp2_with fail
          refine HR.out.mono ?_
          rintro e w1 ⟨rfl, hb1⟩
          have bX := bnd_call bX hs1 hb1
          obtain ⟨z0, z1, zl⟩ := KC.out _ bX
          go_wp2_with fail
          refine (HF.out _ (HUP.out _ bX)).mono ?_
          rintro e w2 ⟨rfl, hb2⟩
          have bX := bnd_call bX hs1 (hb2.alloc hb2.size (untC x))
          go_wp2
          go_ret
          exact ⟨ret_int HE.out.symm, HUP.out _ bX⟩
    · have hu0 : (u == 0) = false := by simpa using hu
      have HE := Lib.hid (show rknE t u top = if bo = true then 0 else 7 by rw [HE.out, decide_eq_false hu, Bool.and_false, Bool.or_false])
      clear hu
      cases bo
      all_goals
        cases top
        all_goals
          go_enter Tryz.func62, Tryz.ntmps62
          go_wp2_with fail
          refine HR.out.mono ?_
          rintro e w1 ⟨rfl, hb1⟩
          have bX := bnd_call bX hs1 hb1
          obtain ⟨z0, z1, zl⟩ := KC.out _ bX
          go_wp2_with fail
          refine (HF.out _ (HUP.out _ bX)).mono ?_
          rintro e w2 ⟨rfl, hb2⟩
          have bX := bnd_call bX hs1 (hb2.alloc hb2.size (untC x))
          go_wp2
          go_ret
          exact ⟨ret_int HE.out.symm, HUP.out _ bX⟩
set_option maxRecDepth 100000 in
set_option maxHeartbeats 4000000 in
theorem rchild_c (t : Tre) (hz : SizT t) (u : Int) (vr vb : Value) (w : World) (B : Nat) (hB : B ≤ w.heap.size) (h : TreRep w B t vr vb) :
    Calls Tryz.prog 63 #[treV vr vb, .int .i64 u] w fun e w' => ∃ v', e = .returned v' ∧ OwnRep 1 (flat intEnc) 3 w.heap.size w' (kidsT t u) v' ∧ Below w.heap.size w w' := by
  have b1 := tre_new w vr vb
  have hs1 : (w.alloc (treC vr vb)).heap.size = w.heap.size + 1 := by simp
  have hn := hz.brs
  have HNK := Lib.hid hz.kids
  have HNT := Lib.hid hz.tops
  have HR := Lib.hid (h.below (b1.mono hB))
  obtain ⟨Ar, cr, rfl, -⟩ := id h.tops
  obtain ⟨A, ca, rfl, -⟩ := id h.brs
  obtain ⟨z0, z1, zl⟩ := treW_at (Below.refl (w.heap.size + 1) (w.alloc (treC (.slice Ar t.roots.length cr) (.slice A t.brs.length ca))))
  clear h
  by_cases hu : u = 0
  · have hu0 : (u == 0) = true := by simp [hu]
    have HE := Lib.hid (show kidsT t u = t.roots by unfold kidsT; rw [if_pos hu])
    clear hu
    go_enter Tryz.func63, Tryz.ntmps63
    go_wp2_with (at_builtin; refine stop_intro ?_)
    refine stop_elim ?_
    refine wpList_append_rep rfl intS intE_ (w.heap.size + 1) (.tmp 8) (.tmp 10) rfl rfl (OwnRep.empty_new (by exact hs1) (Nat.le_of_eq hs1.symm)) rfl (ys := t.roots) (F := fun b => b < B) (HR.out.tops.below intS ((Below.refl _ _).alloc (by rw [hs1]; omega) _)) (fun b' (hb' : b' < B) => ⟨by simp; omega, fun e => by have e' : some (w.heap.size + 1) = some b' := e; injection e' with e'; omega⟩) (by have := HNT.out; simp; omega) (by decide) (by simp) ?_
    intro v1 w1 hown1 hg1 hat1
    rw [List.nil_append] at hown1
    have hb1 := (b1.alloc b1.size (.cells #[] 3)).grown hg1 (by simp; omega) (fun k hk => by have e' : some (w.heap.size + 1) = some k := hk; injection e' with e'; omega)
    obtain ⟨A1, c1, rfl, -⟩ := id (hown1.toSl intS)
    have HO := Lib.hid hown1
    clear hown1 hat1 hg1
    go_wp2
    go_ret
    exact ⟨_, rfl, by rw [HE.out]; exact HO.out.base_le (Nat.le_succ _), hb1⟩
  · have hu0 : (u == 0) = false := by simpa using hu
    have HE := Lib.hid (show kidsT t u = (((t.brs.drop 0).find? fun b => decide (b.id = u)).map Brn.kids).getD [] by unfold kidsT; rw [if_neg hu]; rfl)
    clear hu
    go_enter Tryz.func63, Tryz.ntmps63
    go_wp2
    go_loopw [5] (fun i wr => ∃ k : Nat, k ≤ t.brs.length ∧ i = .int .i64 k ∧ Hid (kidsT t u = (((t.brs.drop k).find? fun b => decide (b.id = u)).map Brn.kids).getD []) ∧ wr = w.alloc (treC (.slice Ar t.roots.length cr) (.slice A t.brs.length ca))) (fun i _ => t.brs.length - (intOf i).toNat)
    case atStart => exact ⟨0, Nat.zero_le _, rfl, HE, rfl⟩
    case round =>
      clear HE
      obtain ⟨k, hk, rfl, HE, rfl⟩ := hrel
      by_cases hlt : k < t.brs.length
      · obtain ⟨x, hx⟩ := get_at t.brs hlt
        have HD := Lib.hid (drop_at hx)
        have hxk := HNK.out x (List.mem_of_getElem? hx)
        obtain ⟨b, off, vx, rfl, hbB, g0, g1, g2, g3, g4, g5, hkr⟩ := Brns.at_ HR.out.brs hx
        obtain ⟨Ax, cx, rfl, -⟩ := id hkr
        have hbw : b < w.heap.size := by have : b < B := hbB; omega
        have hbw2 : b ≠ w.heap.size + 1 := by omega
        have hkk : (k : Int) < (t.brs.length : Int) := by omega
        have hwk : IntKind.i64.wrap ((k : Int) + 1) = (k : Int) + 1 := IntWalk.i64_in _ (by omega)
        clear hx
        by_cases he : x.id = u
        · have hei : (x.id == u) = true := by simp [he]
          have HX := Lib.hid (show kidsT t u = x.kids by rw [HE.out, HD.out, List.find?_cons_of_pos (by simpa using he)]; rfl)
          have HKR := Lib.hid hkr
          clear he hkr
          go_wp2_with (at_builtin; refine stop_intro ?_)
          refine stop_elim ?_
          refine wpList_append_rep rfl intS intE_ (w.heap.size + 1) (.tmp 28) (.tmp 34) rfl rfl (OwnRep.empty_new (by exact hs1) (Nat.le_of_eq hs1.symm)) rfl (ys := x.kids) (F := fun b => b < B) (HKR.out.below intS ((Below.refl _ _).alloc (by rw [hs1]; omega) _)) (fun b' (hb' : b' < B) => ⟨by simp; omega, fun e => by have e' : some (w.heap.size + 1) = some b' := e; injection e' with e'; omega⟩) (by simp; omega) (by decide) (by simp) ?_
          intro v1 w1 hown1 hg1 hat1
          rw [List.nil_append] at hown1
          have hb1 := (b1.alloc b1.size (.cells #[] 3)).grown hg1 (by simp; omega) (fun k hk => by have e' : some (w.heap.size + 1) = some k := hk; injection e' with e'; omega)
          obtain ⟨A1, c1, rfl, -⟩ := id (hown1.toSl intS)
          have HO := Lib.hid hown1
          clear hown1 hat1 hg1
          go_wp2
          go_ret
          exact ⟨_, rfl, by rw [HX.out]; exact HO.out.base_le (Nat.le_succ _), hb1⟩
        · have hei : (x.id == u) = false := by simpa using he
          have HX := Lib.hid (show kidsT t u = (((t.brs.drop (k + 1)).find? fun b => decide (b.id = u)).map Brn.kids).getD [] by rw [HE.out, HD.out, List.find?_cons_of_neg (by simpa using he)])
          clear he
          go_wp2
          go_roundw
          case rel => exact ⟨k + 1, by omega, by go_num, HX, by first | rfl | trivial⟩
          case measure => simp [intOf]; omega
      · have hkk : ¬ (k : Int) < (t.brs.length : Int) := by omega
        have HX := Lib.hid (show kidsT t u = [] by rw [HE.out, List.drop_of_length_le (by omega)]; rfl)
        go_wp2
        go_ret
        exact ⟨_, rfl, by rw [HX.out]; exact OwnRep.nil_, b1⟩
set_option maxRecDepth 100000 in
set_option maxHeartbeats 2000000 in
theorem rKids_c (t : Tre) (hz : SizT t) (hmk : ∀ b ∈ t.brs, b.mark.size ≤ 100000) (u : Int) (vr vb : Value) (w : World) (B : Nat) (hB : B ≤ w.heap.size) (h : TreRep w B t vr vb) :
    Calls Tryz.prog 23 #[treV vr vb, .int .i64 u] w fun e w' => ∃ v', e = .returned (.tuple #[v', .int .i64 (orTopE t u)]) ∧ OwnRep 1 (flat intEnc) 3 w.heap.size w' (kidsR t u) v' ∧ Below w.heap.size w w' := by
  have b1 := tre_new w vr vb
  have hs1 : w.heap.size + 1 ≤ (w.alloc (treC vr vb)).heap.size := by simp
  have KC := Lib.hid (fun (W : World) (hW : Below (w.heap.size + 1) (w.alloc (treC vr vb)) W) => treW_at hW)
  have HUP := Lib.hid (fun (W : World) (hW : Below (w.heap.size + 1) (w.alloc (treC vr vb)) W) => b1.trans (hW.mono (Nat.le_succ _)))
  have HK := Lib.hid (by have := rknown_c t hz hmk u true vr vb (w.alloc (treC vr vb)) B (Nat.le_trans hB b1.size) (h.below (b1.mono hB)); rwa [rkn_true] at this : Calls Tryz.prog 62 #[treV vr vb, .int .i64 u, .bool true] (w.alloc (treC vr vb)) fun e w' => e = .returned (.int .i64 (orTopE t u)) ∧ Below (w.alloc (treC vr vb)).heap.size (w.alloc (treC vr vb)) w')
  have HR := Lib.hid (fun (W : World) (hW : Below w.heap.size w W) => (⟨Nat.le_trans hB hW.size, h.below (hW.mono hB)⟩ : B ≤ W.heap.size ∧ TreRep W B t vr vb))
  obtain ⟨Ar, cr, rfl, -⟩ := id h.tops
  obtain ⟨A, ca, rfl, -⟩ := id h.brs
  clear h
  have bX : Below (w.heap.size + 1) (w.alloc (treC (.slice Ar t.roots.length cr) (.slice A t.brs.length ca))) (w.alloc (treC (.slice Ar t.roots.length cr) (.slice A t.brs.length ca))) := Below.refl _ _
  have HE := Lib.hid (by refine ⟨fun h1 => by unfold kidsR; rw [if_pos h1], fun h1 => ⟨Lib.hid (by unfold kidsR kidsT; rw [if_neg (by rw [h1]; decide)]), (orTop_zero h1).1, by by_cases hu : u = 0; exact .inl hu; exact .inr ((orTop_zero h1).2 hu)⟩⟩ : ((orTopE t u) ≠ 0 → kidsR t u = []) ∧ ((orTopE t u) = 0 → Hid ((kidsR t u = kidsT t u)) ∧ RightT t ∧ (u = 0 ∨ ∃ b ∈ t.brs, b.id = u)))
  obtain ⟨ke, hke⟩ : ∃ k, orTopE t u = k := ⟨_, rfl⟩
  rw [hke] at HK HE ⊢
  clear hke
  by_cases h0 : ke = 0
  · have HX := Lib.hid (HE.out.2 h0)
    subst h0
    go_enter Tryz.func23, Tryz.ntmps23
    go_wp2_with fail
    refine HK.out.mono ?_
    rintro e w1 ⟨rfl, hb1⟩
    have bX := bnd_call bX hs1 hb1
    obtain ⟨z0, z1, zl⟩ := KC.out _ bX
    have bw := HUP.out _ bX
    have HI := Lib.hid (rchild_c t hz u (.slice Ar t.roots.length cr) (.slice A t.brs.length ca) w1 B (HR.out _ bw).1 (HR.out _ bw).2)
    go_wp2_with fail
    refine HI.out.mono ?_
    rintro e w2 ⟨v2, rfl, hown, hb2⟩
    obtain ⟨A2, c2, rfl, -⟩ := id (hown.toSl intS)
    have HO := Lib.hid hown
    clear hown
    go_wp2
    go_ret2
    exact ⟨_, rfl, by rw [HX.out.1.out]; exact HO.out.base_le bw.size, bw.trans (hb2.mono bw.size)⟩
  · have HX := Lib.hid (HE.out.1 h0)
    have hne : (ke != 0) = true := by simpa using h0
    clear h0
    go_enter Tryz.func23, Tryz.ntmps23
    go_wp2_with fail
    refine HK.out.mono ?_
    rintro e w1 ⟨rfl, hb1⟩
    have bX := bnd_call bX hs1 hb1
    go_wp2
    go_ret2
    exact ⟨.slice none 0 0, rfl, by rw [HX.out]; exact OwnRep.nil_, HUP.out _ bX⟩
set_option maxRecDepth 100000 in
set_option maxHeartbeats 2000000 in
theorem rPath_c (t : Tre) (hz : SizT t) (hmk : ∀ b ∈ t.brs, b.mark.size ≤ 100000) (u : Int) (vr vb : Value) (w : World) (B : Nat) (hB : B ≤ w.heap.size) (h : TreRep w B t vr vb) :
    Calls Tryz.prog 26 #[treV vr vb, .int .i64 u] w fun e w' => ∃ v', e = .returned (.tuple #[v', .int .i64 (knownE t [u])]) ∧ OwnRep 1 (flat intEnc) 3 w.heap.size w' (pathR t u) v' ∧ Below w.heap.size w w' := by
  have b1 := tre_new w vr vb
  have hs1 : w.heap.size + 1 ≤ (w.alloc (treC vr vb)).heap.size := by simp
  have KC := Lib.hid (fun (W : World) (hW : Below (w.heap.size + 1) (w.alloc (treC vr vb)) W) => treW_at hW)
  have HUP := Lib.hid (fun (W : World) (hW : Below (w.heap.size + 1) (w.alloc (treC vr vb)) W) => b1.trans (hW.mono (Nat.le_succ _)))
  have HK := Lib.hid (by have := rknown_c t hz hmk u false vr vb (w.alloc (treC vr vb)) B (Nat.le_trans hB b1.size) (h.below (b1.mono hB)); rwa [rkn_false] at this : Calls Tryz.prog 62 #[treV vr vb, .int .i64 u, .bool false] (w.alloc (treC vr vb)) fun e w' => e = .returned (.int .i64 (knownE t [u])) ∧ Below (w.alloc (treC vr vb)).heap.size (w.alloc (treC vr vb)) w')
  have HR := Lib.hid (fun (W : World) (hW : Below w.heap.size w W) => (⟨Nat.le_trans hB hW.size, h.below (hW.mono hB)⟩ : B ≤ W.heap.size ∧ TreRep W B t vr vb))
  obtain ⟨Ar, cr, rfl, -⟩ := id h.tops
  obtain ⟨A, ca, rfl, -⟩ := id h.brs
  clear h
  have bX : Below (w.heap.size + 1) (w.alloc (treC (.slice Ar t.roots.length cr) (.slice A t.brs.length ca))) (w.alloc (treC (.slice Ar t.roots.length cr) (.slice A t.brs.length ca))) := Below.refl _ _
  have HE := Lib.hid (by refine ⟨fun h1 => by unfold pathR; rw [if_pos h1], fun h1 => ⟨Lib.hid (by unfold pathR; rw [if_neg (by rw [h1]; decide)]; rfl), (known_zero h1).1, .inr ((known_zero h1).2 u (by simp))⟩⟩ : ((knownE t [u]) ≠ 0 → pathR t u = []) ∧ ((knownE t [u]) = 0 → Hid ((pathR t u = rpathF t.brs u)) ∧ RightT t ∧ (u = 0 ∨ ∃ b ∈ t.brs, b.id = u)))
  obtain ⟨ke, hke⟩ : ∃ k, knownE t [u] = k := ⟨_, rfl⟩
  rw [hke] at HK HE ⊢
  clear hke
  by_cases h0 : ke = 0
  · have HX := Lib.hid (HE.out.2 h0)
    subst h0
    go_enter Tryz.func26, Tryz.ntmps26
    go_wp2_with fail
    refine HK.out.mono ?_
    rintro e w1 ⟨rfl, hb1⟩
    have bX := bnd_call bX hs1 hb1
    obtain ⟨z0, z1, zl⟩ := KC.out _ bX
    have bw := HUP.out _ bX
    have HI := Lib.hid (rpath_c t hz.brs u (.slice Ar t.roots.length cr) (.slice A t.brs.length ca) w1 B (HR.out _ bw).1 (HR.out _ bw).2)
    go_wp2_with fail
    refine HI.out.mono ?_
    rintro e w2 ⟨v2, rfl, hown, hb2⟩
    obtain ⟨A2, c2, rfl, -⟩ := id (hown.toSl intS)
    have HO := Lib.hid hown
    clear hown
    go_wp2
    go_ret2
    exact ⟨_, rfl, by rw [HX.out.1.out]; exact HO.out.base_le bw.size, bw.trans (hb2.mono bw.size)⟩
  · have HX := Lib.hid (HE.out.1 h0)
    have hne : (ke != 0) = true := by simpa using h0
    clear h0
    go_enter Tryz.func26, Tryz.ntmps26
    go_wp2_with fail
    refine HK.out.mono ?_
    rintro e w1 ⟨rfl, hb1⟩
    have bX := bnd_call bX hs1 hb1
    go_wp2
    go_ret2
    exact ⟨.slice none 0 0, rfl, by rw [HX.out]; exact OwnRep.nil_, HUP.out _ bX⟩
end Go.Proofs.YthbccfchjgihgaaGreatDoor
