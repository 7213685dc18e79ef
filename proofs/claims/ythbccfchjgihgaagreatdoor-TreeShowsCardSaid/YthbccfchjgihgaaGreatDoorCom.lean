/- The program: Marked, Common. -/
import Derived.Test.YthbccfchjgihgaaGreatDoorKid
import Derived.Sort.OwnSortedInts
import Derived.Deep.RegionHeld3
namespace Go.Proofs.YthbccfchjgihgaaGreatDoor
open Go.RowKit

theorem upF_zero (l : List Brn) : upF l 0 = [] := by unfold upF; rw [upG_zero]; rfl
theorem RightT.up_step {t : Tre} (T : RightT t) {b : Brn} (hb : b ∈ t.brs) : upF t.brs b.id = b.id :: upF t.brs b.parent ∧ (b.parent = 0 ∨ ∃ p ∈ t.brs, p.id = b.parent) := by
  by_cases h : b.parent = 0
  · rw [h, upF_zero, T.upTop hb h]
    exact ⟨rfl, .inl rfl⟩
  · obtain ⟨p, hp⟩ := T.plcd b hb h
    obtain ⟨m1, m2⟩ := find_mem hp
    rw [T.upKid hb h hp, m2]
    exact ⟨rfl, .inr ⟨p, m1, m2⟩⟩
set_option maxRecDepth 100000 in
theorem Kids_c (t : Tre) (hz : SizT t) (u : Int) (vr vb : Value) (w : World) (B : Nat) (hB : B ≤ w.heap.size) (h : TreRep w B t vr vb) (hV : VarOk w) :
    Calls Tryz.prog 22 #[treV vr vb, .int .i64 u] w fun e w' => ∃ v', e = .returned (.tuple #[v', .int .i64 (orTopE t u)]) ∧ OwnRep 1 (flat intEnc) 3 w.heap.size w' (kidsR t u) v' ∧ Below w.heap.size w w' := by
  have b1 := tre_new w vr vb
  have HO := Lib.hid (orTop_c t hz u vr vb _ B (Nat.le_trans hB b1.size) (h.below (b1.mono hB)) (hV.below b1))
  have KC := Lib.hid (fun (W : World) (hW : Below (w.heap.size + 1) (w.alloc (treC vr vb)) W) => treW_at hW)
  have HT := Lib.hid (fun (W : World) (hW : Below w.heap.size w W) => (⟨Nat.le_trans hB hW.size, h.below (hW.mono hB)⟩ : B ≤ W.heap.size ∧ TreRep W B t vr vb))
  obtain ⟨Ar, cr, rfl, -⟩ := id h.tops
  obtain ⟨A, ca, rfl, -⟩ := id h.brs
  have hs1 : (w.alloc (treC (.slice Ar t.roots.length cr) (.slice A t.brs.length ca))).heap.size = w.heap.size + 1 := by simp
  by_cases he : orTopE t u = 0
  · obtain ⟨T, hu⟩ := orTop_zero he
    have hu' : u = 0 ∨ ∃ b ∈ t.brs, b.id = u := by
      by_cases h0 : u = 0
      · exact .inl h0
      · exact .inr (hu h0)
    have HKD := Lib.hid (fun (W : World) (hW : Below w.heap.size w W) => kids_c t hz T u hu' _ _ W B (HT.out W hW).1 (HT.out W hW).2)
    have HR := Lib.hid (show kidsR t u = kidsT t u by unfold kidsR kidsT; rw [if_neg (by simp [he])])
    have hkl : (kidsT t u).length ≤ 100000 := by
      unfold kidsT
      split
      · exact hz.tops
      · unfold kidsO
        cases hf : findB t.brs u with
        | none => simp
        | some b => exact hz.kids b (find_mem hf).1
    rw [he] at HO ⊢
    clear he hu hu'
    go_enter Tryz.func22, Tryz.ntmps22
    go_wp2_with fail
    refine HO.out.mono ?_
    rintro e w1 ⟨rfl, hb1⟩
    have hb := bnd_call (Below.refl (w.heap.size + 1) _) (Nat.le_of_eq hs1.symm) hb1
    obtain ⟨z0, z1, zl⟩ := KC.out _ hb
    have hbw := b1.trans (hb.mono (Nat.le_succ _))
    go_wp2_with fail
    refine (HKD.out _ hbw).mono ?_
    rintro e w2 ⟨vk, rfl, hk, hb2⟩
    have hbw2 := hbw.trans (hb2.mono hbw.size)
    have HCL := Lib.hid (cloneInts_c (kidsT t u) vk w2 _ hk hkl)
    obtain ⟨Ak, ck, rfl, -⟩ := id hk
    clear hk
    go_wp2_with fail
    refine HCL.out.mono ?_
    rintro e w3 ⟨vc, rfl, hown, hb3⟩
    obtain ⟨Ac, nc, cc, rfl⟩ : ∃ A n c, vc = .slice A n c := by obtain ⟨A, c, h, -⟩ := hown.toSl intS; exact ⟨A, _, c, h⟩
    have HOW := Lib.hid (hown.base_le hbw2.size)
    clear hown
    go_wp2
    go_ret2
    exact ⟨_, rfl, by rw [HR.out]; exact HOW.out, hbw2.trans (hb3.mono hbw2.size)⟩
  · have HR := Lib.hid (show kidsR t u = [] by unfold kidsR; rw [if_pos he])
    have hne : (orTopE t u != 0) = true := by simpa using he
    clear he
    go_enter Tryz.func22, Tryz.ntmps22
    go_wp2_with fail
    refine HO.out.mono ?_
    rintro e w1 ⟨rfl, hb1⟩
    go_wp2
    go_ret2
    exact ⟨_, rfl, by rw [HR.out]; exact OwnRep.nil_, b1.trans (hb1.mono b1.size)⟩
open Go.Sort Go.Lib Go.Shelf in
theorem reverseInts_c (xs : List Int) (v : Value) (base : Nat) (w : World) (h : OwnRep 1 (flat intEnc) 3 base w xs v) (hsz : xs.length ≤ 100000) :
    Calls Tryz.prog 98 #[v] w fun e w' => e = .returned (.tuple #[]) ∧ OwnRep 1 (flat intEnc) 3 base w' xs.reverse v ∧ w.grownBy w' v.ownBlock := by
  rcases Nat.eq_zero_or_pos xs.length with h0 | h0
  · obtain rfl : xs = [] := List.eq_nil_of_length_eq_zero h0
    obtain ⟨A, c, rfl, _⟩ := h.toSl intS
    refine (Tryz.slices_Reverse_int_empty A c w).mono ?_
    rintro e w' ⟨rfl, rfl⟩
    exact ⟨rfl, h, World.grownBy.refl _ _⟩
  · have hrow := h.rows
    rcases hrow.2 with ⟨_, h1⟩ | ⟨g, cap, cur, rfl, hbg, hg, hcap, hm, hs, ht⟩
    · omega
    · rw [int_rows, Nat.mul_one] at ht
      have hH : Holds (Value.int .i64) w g 0 xs.toArray := holds_of_blockI hg ht
      refine (Tryz.slices_Reverse_int g 0 cap xs w hH (by omega)).mono ?_
      rintro e w' ⟨rfl, n, rfl⟩
      have hgr : ∀ W : World, W = grow W #[] := fun W => by cases W; simp [grow]
      rw [hgr (putRow (Value.int .i64) (Sort.ahead w n) g 0 xs.reverse.toArray)]
      refine ⟨rfl, ?_, grownBy_sortedI _⟩
      have hl : xs.reverse.length = xs.length := List.length_reverse
      refine OwnRep.of_rows ?_
      rw [hl, int_rows]
      exact ownsRow_sortedI hl hbg hg hcap hm hs
set_option maxRecDepth 100000 in
set_option maxHeartbeats 4000000 in
theorem path_c (t : Tre) (hz : SizT t) (T : RightT t) (u : Int) (hu : ∃ b ∈ t.brs, b.id = u) (vr vb : Value) (w : World) (B : Nat) (hB : B ≤ w.heap.size) (h : TreRep w B t vr vb) :
    Calls Tryz.prog 65 #[treV vr vb, .int .i64 u] w fun e w' => ∃ v', e = .returned v' ∧ OwnRep 1 (flat intEnc) 3 w.heap.size w' (pthF t.brs u) v' ∧ Below w.heap.size w w' := by
  have b1 := tre_new w vr vb
  have KC := Lib.hid (fun (W : World) (hW : Below (w.heap.size + 1) (w.alloc (treC vr vb)) W) => treW_at hW)
  have HT := Lib.hid (fun (W : World) (hW : Below w.heap.size w W) => (⟨Nat.le_trans hB hW.size, h.below (hW.mono hB)⟩ : B ≤ W.heap.size ∧ TreRep W B t vr vb))
  obtain ⟨Ar, cr, rfl, -⟩ := id h.tops
  obtain ⟨A, ca, rfl, -⟩ := id h.brs
  have HU0 := Lib.hid (show upF t.brs u = [] ++ upF t.brs u from rfl)
  have HUL := Lib.hid (show (upF t.brs u).length ≤ 12 by obtain ⟨b, hb, rfl⟩ := hu; exact (T.upIs hb).2)
  have hs1 : (w.alloc (treC (.slice Ar t.roots.length cr) (.slice A t.brs.length ca))).heap.size = w.heap.size + 1 := by simp
  go_enter Tryz.func65, Tryz.ntmps65
  go_wp2
  go_loopw [1, 5] (fun t1 t5 wr => ∃ (q : List Int) (c : Int) (v : Value), v = t5 ∧ t1 = .int .i64 c ∧ (c = 0 ∨ ∃ b ∈ t.brs, b.id = c) ∧ Hid (upF t.brs u = q ++ upF t.brs c) ∧ OwnRep 1 (flat intEnc) 3 (w.heap.size + 1) wr q v ∧ Below (w.heap.size + 1) (w.alloc (treC (.slice Ar t.roots.length cr) (.slice A t.brs.length ca))) wr) (fun t1 _ _ => (upF t.brs (intOf t1)).length)
  case atStart => exact ⟨[], u, _, rfl, rfl, .inr hu, HU0, OwnRep.nil_, Below.refl _ _⟩
  case round =>
    clear HU0
    obtain ⟨q, c, vo, rfl, rfl, hc, HU, hown, hb⟩ := hrel
    obtain ⟨z0, z1, zl⟩ := KC.out _ hb
    have hbw := b1.trans (hb.mono (Nat.le_succ _))
    have hsT : w.heap.size + 1 ≤ wr.heap.size := by have := hb.size; simp at this; omega
    by_cases h0 : c = 0
    · subst h0
      have HE := Lib.hid (show upF t.brs u = q by rw [HU.out, upF_zero, List.append_nil])
      have hql : q.length ≤ 12 := by have := HUL.out; rw [HE.out] at this; exact this
      have HRV := Lib.hid (reverseInts_c q vo (w.heap.size + 1) wr hown (by omega))
      have hlo := hown.own_lt
      obtain ⟨Ao, no, co, rfl⟩ : ∃ A n c, vo = .slice A n c := by obtain ⟨A, c, h, -⟩ := hown.toSl intS; exact ⟨A, _, c, h⟩
      have HLO := Lib.hid hlo
      clear hlo hown
      go_wp2_with fail
      refine HRV.out.mono ?_
      rintro e w2 ⟨rfl, hown2, hg⟩
      have hb2 : Below w.heap.size w w2 := hbw.grown hg hbw.size (fun k hk => by have := (HLO.out k hk).1; omega)
      have HOW := Lib.hid (hown2.base_le (Nat.le_succ w.heap.size))
      clear hown2 hg
      go_wp2
      go_ret
      refine ⟨_, rfl, ?_, hb2⟩
      unfold pthF
      rw [HE.out]
      exact HOW.out
    · obtain ⟨b, hbm, rfl⟩ : ∃ b ∈ t.brs, b.id = c := by
        rcases hc with h1 | h1
        · exact absurd h1 h0
        · exact h1
      obtain ⟨hst, hpar⟩ := T.up_step hbm
      have hne : (b.id != 0) = true := by simpa using h0
      have HN := Lib.hid (show upF t.brs u = (q ++ [b.id]) ++ upF t.brs b.parent by rw [HU.out, hst]; simp)
      have HML := Lib.hid (show (upF t.brs b.parent).length < (upF t.brs b.id).length by rw [hst]; simp)
      have hql : q.length ≤ 12 := by have := HUL.out; rw [HU.out, List.length_append] at this; omega
      have HF := Lib.hid (T.find hbm)
      have HPAR := Lib.hid hpar
      have HLO := Lib.hid hown.own_lt
      obtain ⟨Ao, co, rfl, -⟩ := id (hown.toSl intS)
      have kS : SlRep 1 (flat intEnc) (wr.alloc (.cells (intEnc b.id).toArray 3)) (fun k => False ∨ k = wr.heap.size) [b.id] (.slice (some ⟨wr.heap.size, 0, none⟩) 1 1) := SlRep.one_new intS (w := wr) (t := 3) (F := fun _ => False) (x := b.id) (cs := intEnc b.id) rfl rfl (fun b hb => hb.elim)
      clear h0 hc hst hpar
      go_wp2_with (at_builtin; refine stop_intro ?_)
      refine stop_elim ?_
      refine wpList_append_rep (xs := q) rfl intS intE_ (w.heap.size + 1) (.tmp 10) (.tmp 12) rfl rfl (hown.below intS ((Below.refl _ _).alloc (Nat.le_refl _) (.cells (intEnc b.id).toArray 3))) rfl (ys := [b.id]) kS (fun k hk => ?_) (by simp; omega) (by decide) (by simp; omega) ?_
      · rcases hk with hk | rfl
        · exact hk.elim
        · exact ⟨by simp, fun e => by have := (HLO.out _ e).2; omega⟩
      intro v6 w6 hown6 hg6 hat6
      have hb6 : Below (w.heap.size + 1) (w.alloc (treC (.slice Ar t.roots.length cr) (.slice A t.brs.length ca))) w6 := (hb.alloc hsT _).grown hg6 (by simp; omega) (fun k hk => (HLO.out _ hk).1)
      obtain ⟨z0', z1', zl'⟩ := KC.out _ hb6
      have hbw6 := b1.trans (hb6.mono (Nat.le_succ _))
      have HAT := Lib.hid (at_c t hz T.asc b.id _ _ w6 B (HT.out _ hbw6).1 (HT.out _ hbw6).2)
      clear hg6 hat6 z0 z1 zl kS hown
      go_wp2_with fail
      refine HAT.out.mono ?_
      rintro e w7 ⟨⟨k, rfl, hk⟩, hb7⟩
      have hkb := hk b HF.out
      have hbN := bnd_call hb6 (Nat.le_of_eq hs1.symm) hb7
      have hownN := hown6.below intS hb7
      clear z0' z1' zl'
      obtain ⟨z0, z1, zl⟩ := KC.out _ hbN
      have hbwN := b1.trans (hbN.mono (Nat.le_succ _))
      obtain ⟨g, off, vk, rfl, hbB, g0, g1, g2, g3, g4, g5, hkr⟩ := Brns.at_ (HT.out _ hbwN).2.brs hkb
      have hgw : g < w7.heap.size := by have : g < B := hbB; have := hbwN.size; omega
      have hkk : (k : Int) < (t.brs.length : Int) := by have := lt_of_at hkb; omega
      clear hk hkb hkr hb7 hown6
      rw [HF.out]
      go_wp2
      go_roundw
      case rel => exact ⟨q ++ [b.id], b.parent, _, rfl, rfl, HPAR.out, HN, hownN, hbN⟩
      case measure => exact HML.out

abbrev untZ : Obj := untC zBrn
abbrev fnW (w : World) (vr vb : Value) : World := (w.alloc (treC vr vb)).alloc untZ
structure FnAt (w : World) (vr vb : Value) (W : World) : Prop where
  cb : W.heap[w.heap.size]? = some (treC vr vb)
  rb : W.heap[w.heap.size + 1]? = some untZ
  below : Below w.heap.size w W
theorem FnAt.make (w : World) (vr vb : Value) : FnAt w vr vb (fnW w vr vb) where
  cb := (Below.heap_alloc _ _ _ (by simp)).trans (heap_newT w _)
  rb := by
    have := heap_newT (w.alloc (treC vr vb)) untZ
    rwa [show (w.alloc (treC vr vb)).heap.size = w.heap.size + 1 by simp] at this
  below := ((Below.refl _ _).alloc (Nat.le_refl _) _).alloc (by simp) _
theorem FnAt.call {w W W' : World} {vr vb : Value} (h : FnAt w vr vb W) (hb : Below W.heap.size W W') : FnAt w vr vb W' :=
  ⟨(hb.block _ (heap_ltT h.cb)).trans h.cb, (hb.block _ (heap_ltT h.rb)).trans h.rb, h.below.trans (hb.mono h.below.size)⟩
set_option maxRecDepth 100000 in
theorem find_c (t : Tre) (u : Int) (vr vb : Value) (w : World) (B : Nat) (hB : B ≤ w.heap.size) (h : TreRep w B t vr vb) :
    Calls Tryz.prog 18 #[treV vr vb, .int .i64 u] w fun e w' => e = .returned (.tuple #[untV (findU t.brs u).1, .bool (findU t.brs u).2]) ∧ Below w.heap.size w w' := by
  have hF0 := FnAt.make w vr vb
  have HIX := Lib.hid (index_c t u vr vb _ B (Nat.le_trans hB hF0.below.size) (h.below (hF0.below.mono hB)))
  have HT := Lib.hid (fun (W : World) (hW : Below w.heap.size w W) => h.below (hW.mono hB))
  obtain ⟨Ar, cr, rfl, -⟩ := id h.tops
  obtain ⟨A, ca, rfl, -⟩ := id h.brs
  rcases ix_find t.brs u with ⟨hi, hf⟩ | ⟨k, x, hi, hx, hf⟩
  · have HV := Lib.hid (show findU t.brs u = (zBrn, false) by unfold findU; rw [hf])
    rw [hi] at HIX
    clear hi hf
    go_enter Tryz.func18, Tryz.ntmps18
    go_wp2_with fail
    refine HIX.out.mono ?_
    rintro e w1 ⟨rfl, hb1⟩
    have hF := hF0.call hb1
    have hr := hF.rb
    obtain ⟨c0, c1, c2, c3, c4, cl⟩ := unt_cells hr
    have f0 := Lib.frozen_of_heap hr 0
    have f1 := Lib.frozen_of_heap hr 1
    have f2 := Lib.frozen_of_heap hr 2
    have f3 := Lib.frozen_of_heap hr 3
    have f4 := Lib.frozen_of_heap hr 4
    have HBL := Lib.hid (put5_below (x := zBrn) hF.below (show w.heap.size ≤ w.heap.size + 1 from Nat.le_succ _))
    clear hr hF hF0
    go_wp2
    refine bodyPost_ret (v := .tuple #[untV zBrn, .bool false]) (by simp [results, Tryz.results18, go_sem, zBrn, c0, c1, c2, c3, c4]) rfl ⟨by rw [HV.out], HBL.out⟩
  · have HV := Lib.hid (show findU t.brs u = (x, true) by unfold findU; rw [hf])
    have hkl := lt_of_at hx
    have hkk : (k : Int) < (t.brs.length : Int) := by omega
    have hkn : ¬ (k : Int) < 0 := by omega
    rw [hi] at HIX
    clear hi hf
    go_enter Tryz.func18, Tryz.ntmps18
    go_wp2_with fail
    refine HIX.out.mono ?_
    rintro e w1 ⟨rfl, hb1⟩
    have hF := hF0.call hb1
    have hr := hF.rb
    obtain ⟨b, off, vk, rfl, hbB, g0, g1, g2, g3, g4, g5, hkr⟩ := Brns.at_ (HT.out _ hF.below).brs hx
    have hbw : b < w.heap.size := by have : b < B := hbB; omega
    have hz0 : w1.cell? ⟨w.heap.size, 1, none⟩ = some (.slice (some ⟨b, off, none⟩) t.brs.length ca) := by rw [Lib.cell_of_heap hF.cb]; rfl
    obtain ⟨c0, c1, c2, c3, c4, cl⟩ := unt_cells hr
    have f0 := Lib.frozen_of_heap hr 0
    have f1 := Lib.frozen_of_heap hr 1
    have f2 := Lib.frozen_of_heap hr 2
    have f3 := Lib.frozen_of_heap hr 3
    have f4 := Lib.frozen_of_heap hr 4
    have HBL := Lib.hid (put5_below (x := x) hF.below (show w.heap.size ≤ w.heap.size + 1 from Nat.le_succ _))
    have hbl := hF.below.size
    clear hr hF hF0 hkr hx
    go_wp2
    refine bodyPost_ret (v := .tuple #[untV x, .bool true]) (by simp [results, Tryz.results18, go_sem, c0, c1, c2, c3, c4]) rfl ⟨by rw [HV.out], HBL.out⟩
theorem one_ids (w : World) (u : Int) (vr vb : Value) : SlRep 1 (flat intEnc) ((w.alloc (treC vr vb)).alloc (.cells (intEnc u).toArray 3)) (fun b => b < w.heap.size + 2) [u] (.slice (some ⟨w.heap.size + 1, 0, none⟩) 1 1) := by
  have := SlRep.one_new intS (w := w.alloc (treC vr vb)) (t := 3) (F := fun _ => False) (x := u) (cs := intEnc u) rfl rfl (fun b hb => hb.elim)
  rw [show (w.alloc (treC vr vb)).heap.size = w.heap.size + 1 by simp] at this
  exact this.monoF intS (fun b hb => by rcases hb with hb | hb; exact hb.elim; omega)
set_option maxRecDepth 100000 in
theorem Path_c (t : Tre) (hz : SizT t) (u : Int) (vr vb : Value) (w : World) (B : Nat) (hB : B ≤ w.heap.size) (h : TreRep w B t vr vb) (hV : VarOk w) :
    Calls Tryz.prog 25 #[treV vr vb, .int .i64 u] w fun e w' => ∃ v', e = .returned (.tuple #[v', .int .i64 (knownE t [u])]) ∧ OwnRep 1 (flat intEnc) 3 w.heap.size w' (pathR t u) v' ∧ Below w.heap.size w w' := by
  have b1 := tre_new w vr vb
  have b2 : Below w.heap.size w ((w.alloc (treC vr vb)).alloc (.cells (intEnc u).toArray 3)) := b1.alloc b1.size _
  have hz2 : ((w.alloc (treC vr vb)).alloc (.cells (intEnc u).toArray 3)).heap.size = w.heap.size + 2 := by simp
  have hs1 : (w.alloc (treC vr vb)).heap.size = w.heap.size + 1 := by simp
  have HK := Lib.hid (known_c t hz [u] (by simp) _ _ _ _ (w.heap.size + 2) (by rw [hz2]; exact Nat.le_refl _) ((h.below (b2.mono hB)).mono (by omega)) (one_ids w u vr vb) (hV.below b2))
  have KC := Lib.hid (fun (W : World) (hW : Below (w.heap.size + 1) (w.alloc (treC vr vb)) W) => treW_at hW)
  have HT := Lib.hid (fun (W : World) (hW : Below w.heap.size w W) => (⟨Nat.le_trans hB hW.size, h.below (hW.mono hB)⟩ : B ≤ W.heap.size ∧ TreRep W B t vr vb))
  have hbN : Below (w.heap.size + 1) (w.alloc (treC vr vb)) ((w.alloc (treC vr vb)).alloc (.cells (intEnc u).toArray 3)) := (Below.refl _ _).alloc (Nat.le_of_eq hs1.symm) _
  obtain ⟨Ar, cr, rfl, -⟩ := id h.tops
  obtain ⟨A, ca, rfl, -⟩ := id h.brs
  by_cases he : knownE t [u] = 0
  · obtain ⟨T, hu⟩ := known_zero he
    have HPT := Lib.hid (fun (W : World) (hW : Below w.heap.size w W) => path_c t hz T u (hu u (by simp)) _ _ W B (HT.out W hW).1 (HT.out W hW).2)
    have HR := Lib.hid (show pathR t u = pthF t.brs u by unfold pathR; rw [if_neg (by simp [he])])
    rw [he] at HK ⊢
    clear he hu T
    go_enter Tryz.func25, Tryz.ntmps25
    go_wp2_with fail
    refine HK.out.mono ?_
    rintro e w1 ⟨rfl, hb1⟩
    have hb := bnd_call hbN (Nat.le_of_eq hs1.symm) (hb1)
    obtain ⟨z0, z1, zl⟩ := KC.out _ hb
    have hbw := b1.trans (hb.mono (Nat.le_succ _))
    go_wp2_with fail
    refine (HPT.out _ hbw).mono ?_
    rintro e w2 ⟨vp, rfl, hown, hb2⟩
    obtain ⟨Ac, nc, cc, rfl⟩ : ∃ A n c, vp = .slice A n c := by obtain ⟨A, c, h, -⟩ := hown.toSl intS; exact ⟨A, _, c, h⟩
    have HOW := Lib.hid (hown.base_le hbw.size)
    clear hown
    go_wp2
    go_ret2
    exact ⟨_, rfl, by rw [HR.out]; exact HOW.out, hbw.trans (hb2.mono hbw.size)⟩
  · have HR := Lib.hid (show pathR t u = [] by unfold pathR; rw [if_pos he])
    have hne : (knownE t [u] != 0) = true := by simpa using he
    clear he
    go_enter Tryz.func25, Tryz.ntmps25
    go_wp2_with fail
    refine HK.out.mono ?_
    rintro e w1 ⟨rfl, hb1⟩
    go_wp2
    go_ret2
    exact ⟨_, rfl, by rw [HR.out]; exact OwnRep.nil_, b2.trans (hb1.mono b2.size)⟩

def mrkP (m : ByteArray) (b : Brn) : Bool := decide (m ≠ ⟨#[]⟩) && decide (b.mark = m)
theorem marked1_c (g : Nat) (m : ByteArray) (x : Brn) (vk : Value) (hvk : ∃ A n c, vk = .slice A n c) (w : World) (h0 : w.cell? ⟨g, 0, none⟩ = some (.string m)) (hg : g < w.heap.size) :
    Calls Tryz.prog 59 #[brnV x vk, .pointer (some ⟨g, 0, none⟩)] w fun e w' => e = .returned (.bool (mrkP m x)) ∧ Below w.heap.size w w' := by
  obtain ⟨A, n, c, rfl⟩ := hvk
  by_cases hm : m = ⟨#[]⟩
  · have hm1 : m.toList.isEmpty = true := by rw [str_empty, hm]; rfl
    have HX := Lib.hid (show mrkP m x = false by unfold mrkP; simp [hm])
    clear hm
    go_enter Tryz.func59, Tryz.ntmps59
    go_wp2
    go_ret
    exact ⟨ret_bool HX.out.symm, (Below.refl _ _).alloc (Nat.le_refl _) _⟩
  · have hm1 : m.toList.isEmpty = false := by
      rw [str_empty, decide_eq_false_iff_not]
      intro e
      exact hm (ByteArray.ext (Array.eq_empty_of_size_eq_zero e))
    have HX := Lib.hid (show mrkP m x = decide (x.mark = m) by unfold mrkP; simp [hm])
    clear hm
    go_enter Tryz.func59, Tryz.ntmps59
    go_wp2
    go_ret
    exact ⟨ret_bool (by rw [HX.out, str_eq]), (Below.refl _ _).alloc (Nat.le_refl _) _⟩
abbrev mkW (w : World) (vr vb : Value) (m : ByteArray) : World := (w.alloc (treC vr vb)).alloc (.cells #[.string m] 9)
set_option maxRecDepth 100000 in
theorem marked_c (t : Tre) (m : ByteArray) (vr vb : Value) (w : World) (B : Nat) (hB : B ≤ w.heap.size) (h : TreRep w B t vr vb) :
    Calls Tryz.prog 20 #[treV vr vb, .string m] w fun e w' => e = .returned (.tuple #[.int .i64 (markF t.brs m).1, .bool (markF t.brs m).2]) ∧ Below w.heap.size w w' := by
  have b2 : Below w.heap.size w (mkW w vr vb m) := ((Below.refl _ _).alloc (Nat.le_refl _) _).alloc (by simp) _
  have hs2 : (mkW w vr vb m).heap.size = w.heap.size + 2 := by simp
  have b1 := tre_new w vr vb
  have hbN : Below (w.heap.size + 1) (w.alloc (treC vr vb)) (mkW w vr vb m) := (Below.refl _ _).alloc (by simp) _
  have HI := Lib.hid (brnIdx_c 59 #[.pointer (some ⟨w.heap.size + 1, 0, none⟩)] (mrkP m) t.brs vb (mkW w vr vb m) B (Nat.le_trans hB b2.size) (h.below (b2.mono hB)).brs (fun _ _ => by kernel_rfl)
    (fun x vk W _ hW hk => by
      obtain ⟨Ak, ck, rfl, -⟩ := id hk
      exact marked1_c (w.heap.size + 1) m x _ ⟨_, _, _, rfl⟩ W ((hW.cell (p := ⟨w.heap.size + 1, 0, none⟩) (by show w.heap.size + 1 < _; rw [hs2]; omega)).trans (by simp)) (by have := hW.size; rw [hs2] at this; omega)))
  have KC := Lib.hid (fun (W : World) (hW : Below (w.heap.size + 1) (w.alloc (treC vr vb)) W) => treW_at hW)
  have HT := Lib.hid (fun (W : World) (hW : Below w.heap.size w W) => h.below (hW.mono hB))
  obtain ⟨Ar, cr, rfl, -⟩ := id h.tops
  obtain ⟨A, ca, rfl, -⟩ := id h.brs
  have hfd : ∀ (l : List Brn), l.find? (fun b => decide (m ≠ ⟨#[]⟩) && decide (b.mark = m)) = l.find? (mrkP m) := fun _ => rfl
  rcases idxG_find (mrkP m) t.brs 0 with ⟨hi, hf⟩ | ⟨k, x, hi, hx, hf⟩
  · have HV := Lib.hid (show markF t.brs m = (0, false) by unfold markF; rw [hfd, hf])
    rw [show idxF (mrkP m) t.brs = -1 from hi] at HI
    clear hi hf hfd
    go_enter Tryz.func20, Tryz.ntmps20
    go_wp2_with fail
    refine HI.out.mono ?_
    rintro e w1 ⟨rfl, hb1⟩
    go_wp2
    go_ret2
    exact ⟨by rw [HV.out]; rfl, b2.trans (hb1.mono b2.size)⟩
  · have HV := Lib.hid (show markF t.brs m = (x.id, true) by unfold markF; rw [hfd, hf])
    rw [show idxF (mrkP m) t.brs = (k : Int) from hi.trans (by rw [Nat.zero_add])] at HI
    have hkl := lt_of_at hx
    have hkk : (k : Int) < (t.brs.length : Int) := by omega
    have hkn : ¬ (k : Int) < 0 := by omega
    clear hi hf hfd
    go_enter Tryz.func20, Tryz.ntmps20
    go_wp2_with fail
    refine HI.out.mono ?_
    rintro e w1 ⟨rfl, hb1⟩
    have hb := bnd_call hbN (by simp) (hb1)
    obtain ⟨z0, z1, zl⟩ := KC.out _ hb
    have hbw := b1.trans (hb.mono (Nat.le_succ _))
    obtain ⟨b, off, vk, rfl, hbB, g0, g1, g2, g3, g4, g5, hkr⟩ := Brns.at_ (HT.out _ hbw).brs hx
    have hbl : b < w1.heap.size := by have : b < B := hbB; have := hbw.size; omega
    clear hx hkr
    go_wp2
    go_ret2
    exact ⟨by rw [HV.out]; rfl, hbw⟩
theorem two_ids (w : World) (a b : Int) (vr vb : Value) : SlRep 1 (flat intEnc) ((w.alloc (treC vr vb)).alloc (.cells #[.int .i64 a, .int .i64 b] 3)) (fun k => k < w.heap.size + 2) [a, b] (.slice (some ⟨w.heap.size + 1, 0, none⟩) 2 2) := by
  refine ⟨some ⟨w.heap.size + 1, 0, none⟩, 2, rfl, by simp, by decide, fun i x hx => ?_⟩
  have h1 : ((w.alloc (treC vr vb)).alloc (.cells #[.int .i64 a, .int .i64 b] 3)).heap[w.heap.size + 1]? = some (.cells #[.int .i64 a, .int .i64 b] 3) := by
    have := heap_newT (w.alloc (treC vr vb)) (.cells #[.int .i64 a, .int .i64 b] 3)
    rwa [show (w.alloc (treC vr vb)).heap.size = w.heap.size + 1 by simp] at this
  refine ⟨w.heap.size + 1, 0, intEnc x, rfl, Nat.lt_succ_self _, rfl, fun j u hj => ?_⟩
  rcases j with _ | j
  · simp [intEnc] at hj
    subst hj
    rcases i with _ | _ | i
    · injection hx with hx; subst hx; rw [Lib.cell_of_heap h1]; rfl
    · injection hx with hx; subst hx; rw [Lib.cell_of_heap h1]; rfl
    · simp at hx
  · simp [intEnc] at hj
theorem comG_cons (o x y : Int) (p q : List Int) : comG o (x :: p) (y :: q) = if x = y then comG x p q else o := rfl
theorem comG_nil (o : Int) (p q : List Int) (h : p = [] ∨ q = []) : comG o p q = o := by
  rcases h with rfl | rfl
  · cases q <;> rfl
  · cases p <;> rfl
set_option maxRecDepth 100000 in
set_option maxHeartbeats 4000000 in
theorem common_c (t : Tre) (hz : SizT t) (a b : Int) (vr vb : Value) (w : World) (B : Nat) (hB : B ≤ w.heap.size) (h : TreRep w B t vr vb) (hV : VarOk w) :
    Calls Tryz.prog 29 #[treV vr vb, .int .i64 a, .int .i64 b] w fun e w' => e = .returned (.tuple #[.int .i64 (comR t a b), .int .i64 (knownE t [a, b])]) ∧ Below w.heap.size w w' := by
  have b1 := tre_new w vr vb
  have b2 : Below w.heap.size w ((w.alloc (treC vr vb)).alloc (.cells #[.int .i64 a, .int .i64 b] 3)) := b1.alloc b1.size _
  have hz2 : ((w.alloc (treC vr vb)).alloc (.cells #[.int .i64 a, .int .i64 b] 3)).heap.size = w.heap.size + 2 := by simp
  have hs1 : (w.alloc (treC vr vb)).heap.size = w.heap.size + 1 := by simp
  have HK := Lib.hid (known_c t hz [a, b] (by simp) _ _ _ _ (w.heap.size + 2) (by rw [hz2]; exact Nat.le_refl _) ((h.below (b2.mono hB)).mono (by omega)) (two_ids w a b vr vb) (hV.below b2))
  have KC := Lib.hid (fun (W : World) (hW : Below (w.heap.size + 1) (w.alloc (treC vr vb)) W) => treW_at hW)
  have HT := Lib.hid (fun (W : World) (hW : Below w.heap.size w W) => (⟨Nat.le_trans hB hW.size, h.below (hW.mono hB)⟩ : B ≤ W.heap.size ∧ TreRep W B t vr vb))
  have hbN : Below (w.heap.size + 1) (w.alloc (treC vr vb)) ((w.alloc (treC vr vb)).alloc (.cells #[.int .i64 a, .int .i64 b] 3)) := (Below.refl _ _).alloc (Nat.le_of_eq hs1.symm) _
  obtain ⟨Ar, cr, rfl, -⟩ := id h.tops
  obtain ⟨A, ca, rfl, -⟩ := id h.brs
  by_cases he : knownE t [a, b] = 0
  · obtain ⟨T, hu⟩ := known_zero he
    have HPA := Lib.hid (fun (W : World) (hW : Below (w.heap.size + 1) (w.alloc (treC (.slice Ar t.roots.length cr) (.slice A t.brs.length ca))) W) => path_c t hz T a (hu a (by simp)) (.slice Ar t.roots.length cr) (.slice A t.brs.length ca) W B (HT.out W (b1.trans (hW.mono (Nat.le_succ _)))).1 (HT.out W (b1.trans (hW.mono (Nat.le_succ _)))).2)
    have HPB := Lib.hid (fun (W : World) (hW : Below (w.heap.size + 1) (w.alloc (treC (.slice Ar t.roots.length cr) (.slice A t.brs.length ca))) W) => path_c t hz T b (hu b (by simp)) (.slice Ar t.roots.length cr) (.slice A t.brs.length ca) W B (HT.out W (b1.trans (hW.mono (Nat.le_succ _)))).1 (HT.out W (b1.trans (hW.mono (Nat.le_succ _)))).2)
    have HR := Lib.hid (show comR t a b = comG 0 (pthF t.brs a) (pthF t.brs b) by unfold comR; rw [if_neg (by simp [he])])
    have hpl : (pthF t.brs a).length ≤ 12 ∧ (pthF t.brs b).length ≤ 12 := by
      obtain ⟨x, hx, hxe⟩ := hu a (by simp)
      obtain ⟨y, hy, hye⟩ := hu b (by simp)
      rw [← hxe, ← hye]
      exact ⟨(T.path_len hx).2, (T.path_len hy).2⟩
    rw [he] at HK ⊢
    clear he hu T
    generalize pthF t.brs a = p at *
    generalize pthF t.brs b = q at *
    rw [HR.out]
    clear HR
    go_enter Tryz.func29, Tryz.ntmps29
    go_wp2_with fail
    refine HK.out.mono ?_
    rintro e w1 ⟨rfl, hb1⟩
    have hb := bnd_call hbN (Nat.le_of_eq hs1.symm) (hb1)
    have hbX := hb.drew
    clear hb1
    obtain ⟨z0, z1, zl⟩ := KC.out _ hb
    go_wp2
    clear z0 z1 zl
    go_region_held3 (fun W => W.cell? ⟨w.heap.size, 0, none⟩ = some (.slice Ar t.roots.length cr) ∧ W.cell? ⟨w.heap.size, 1, none⟩ = some (.slice A t.brs.length ca) ∧ w.heap.size < W.heap.size) (with_reducible exact KC.out _ hbX) (first
      | (go_at_call 65; (with_reducible refine (HPA.out _ hbX).mono ?_); clear HPA; rintro e w2 ⟨vp, rfl, hownP, hbP⟩; have hbX := bnd_call hbX (Nat.le_of_eq hs1.symm) hbP; have hp := hownP.toSl intS; obtain ⟨Ap, cp, rfl, -⟩ := id hp)
      | (go_at_call 65; (with_reducible refine (HPB.out _ hbX).mono ?_); rintro e w3 ⟨vq, rfl, hownQ, hbQ⟩; have hbX := bnd_call hbX (Nat.le_of_eq hs1.symm) hbQ; have hq := hownQ.toSl intS; have hp := (hp.below intS hbQ).mono intS hbQ.size; obtain ⟨Aq, cq, rfl, -⟩ := id hq))
    obtain ⟨n, hn⟩ : ∃ n : Nat, n = min p.length q.length := ⟨_, rfl⟩
    have hmin : min (p.length : Int) (q.length : Int) = (n : Int) := by omega
    have H0 := Lib.hid (show comG 0 p q = comG 0 (p.drop 0) (q.drop 0) from rfl)
    have HP := Lib.hid (fun (W : World) (hW : Below w3.heap.size w3 W) => hp.below intS hW)
    have HQ := Lib.hid (fun (W : World) (hW : Below w3.heap.size w3 W) => hq.below intS hW)
    have hb3 := b1.trans (hbX.mono (Nat.le_succ _))
    clear hp hq hownP hownQ hbP hbQ HPB
    go_wp2
    go_loopw [11, 32] (fun t11 t32 wr => ∃ (k : Nat) (o : Int), k ≤ n ∧ t32 = .int .i64 k ∧ t11 = .int .i64 o ∧ Hid (comG 0 p q = comG o (p.drop k) (q.drop k)) ∧ Below w3.heap.size w3 wr) (fun _ t32 _ => n - (intOf t32).toNat)
    case atStart => exact ⟨0, 0, Nat.zero_le _, rfl, rfl, H0, Below.refl _ _⟩
    case round =>
      clear H0
      obtain ⟨k, o, hk, rfl, rfl, HS, hbr⟩ := hrel
      have hbw := hb3.trans (hbr.mono hb3.size)
      by_cases hlt : k < n
      · obtain ⟨x, hx⟩ := get_at p (show k < p.length by omega)
        obtain ⟨y, hy⟩ := get_at q (show k < q.length by omega)
        have HDP := Lib.hid (drop_at hx)
        have HDQ := Lib.hid (drop_at hy)
        obtain ⟨bp, op, rfl, hbp, gp⟩ := Ints.at_ (HP.out _ hbr) hx
        obtain ⟨bq, oq, rfl, hbq, gq⟩ := Ints.at_ (HQ.out _ hbr) hy
        have hkn : (k : Int) < (n : Int) := by omega
        have hkp : (k : Int) < (p.length : Int) := by omega
        have hkq : (k : Int) < (q.length : Int) := by omega
        have hwk : IntKind.i64.wrap ((k : Int) + 1) = (k : Int) + 1 := IntWalk.i64_in _ (by omega)
        clear hx hy
        by_cases hxy : x = y
        · subst hxy
          have HN := Lib.hid (show comG 0 p q = comG x (p.drop (k + 1)) (q.drop (k + 1)) by rw [HS.out, HDP.out, HDQ.out, comG_cons, if_pos rfl])
          go_wp2
          go_quiet (fail)
          go_wp2
          go_roundw
          case rel => exact ⟨k + 1, x, by omega, by go_num, rfl, HN, below_drewN hbr _⟩
          case measure => simp [intOf]; omega
        · have hne : (x != y) = true := by simpa using hxy
          have HN := Lib.hid (show comG 0 p q = o by rw [HS.out, HDP.out, HDQ.out, comG_cons, if_neg hxy])
          clear hxy
          go_wp2
          go_quiet (fail)
          go_wp2
          go_ret2
          exact ⟨by rw [HN.out]; rfl, below_drewN hbw _⟩
      · have hkn : ¬ (k : Int) < (n : Int) := by omega
        have HN := Lib.hid (show comG 0 p q = o by
          rw [HS.out]
          refine comG_nil _ _ _ ?_
          rcases (by omega : p.length ≤ k ∨ q.length ≤ k) with h | h
          · exact .inl (List.drop_of_length_le h)
          · exact .inr (List.drop_of_length_le h))
        go_wp2
        go_ret2
        exact ⟨by rw [HN.out]; rfl, hbw⟩
  · have HR := Lib.hid (show comR t a b = 0 by unfold comR; rw [if_pos he])
    have hne : (knownE t [a, b] != 0) = true := by simpa using he
    clear he
    go_enter Tryz.func29, Tryz.ntmps29
    go_wp2_with fail
    refine HK.out.mono ?_
    rintro e w1 ⟨rfl, hb1⟩
    go_wp2
    go_ret2
    exact ⟨by rw [HR.out]; rfl, b2.trans (hb1.mono b2.size)⟩
end Go.Proofs.YthbccfchjgihgaaGreatDoor
