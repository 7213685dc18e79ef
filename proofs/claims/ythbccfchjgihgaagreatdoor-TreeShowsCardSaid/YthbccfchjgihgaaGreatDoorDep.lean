/- The program: how deep a unit lies (written by gen_dep.py). -/
import Derived.Test.YthbccfchjgihgaaGreatDoorIxC
import Derived.Test.YthbccfchjgihgaaGreatDoorNmC
import Derived.Deep.RegionHeld3
namespace Go.Proofs.YthbccfchjgihgaaGreatDoor
open Go.RowKit

theorem SlRep.take_ {α : Type} {k : Nat} {R : CRep α} {w : World} {F : Nat → Prop} {xs : List α} {A : Option Addr} {n c : Nat} (h : SlRep k R w F xs (.slice A n c)) {i : Nat} (hi : i ≤ xs.length) : SlRep k R w F (xs.take i) (.slice A i c) := by
  obtain ⟨A', c', e, h1, h2, h3⟩ := h
  injection e with e1 e2 e3
  subst e1 e3
  have hl : (xs.take i).length = i := by rw [List.length_take]; omega
  refine ⟨A, c, by rw [hl], by omega, h2, fun j x hx => ?_⟩
  have hj : j < i := by have := lt_of_at hx; omega
  rw [List.getElem?_take, if_pos hj] at hx
  exact h3 j x hx
theorem mark_ne {a : ByteArray} : (a.toList != ([] : List UInt8)) = decide (a ≠ ⟨#[]⟩) := by
  rw [bne, Bool.eq_iff_iff]
  simp only [Bool.not_eq_true', beq_eq_false_iff_ne, decide_eq_true_eq]
  constructor
  · intro h e
    subst e
    exact h (by rw [ByteArray.toList_eq])
  · intro h e
    refine h (ByteArray.ext (Array.toList_inj.1 ?_))
    rw [ByteArray.toList_eq] at e
    rw [e]
theorem alone1_c (g : Nat) (u x : Brn) (vk : Value) (hvk : ∃ A n c, vk = .slice A n c) (w : World) (h0 : w.cell? ⟨g, 4, none⟩ = some (.string u.mark)) (hg : g < w.heap.size) :
    Calls Tryz.prog 93 #[brnV x vk, .pointer (some ⟨g, 0, none⟩)] w fun e w' => e = .returned (.bool (decide (x.mark = u.mark))) ∧ Below w.heap.size w w' := by
  obtain ⟨A, n, c, rfl⟩ := hvk
  go_enter Tryz.func93, Tryz.ntmps93
  go_wp2
  go_ret
  exact ⟨ret_bool (by rw [str_eq]), (Below.refl _ _).alloc (Nat.le_refl _) _⟩
abbrev unW (w : World) (vr vb : Value) (x : Brn) : World := (w.alloc (treC vr vb)).alloc (untC x)
theorem unW_at {w W : World} {vr vb : Value} {x : Brn} (hW : Below (w.heap.size + 2) (unW w vr vb x) W) : (W.cell? ⟨w.heap.size, 0, none⟩ = some vr ∧ W.cell? ⟨w.heap.size, 1, none⟩ = some vb ∧ w.heap.size < W.heap.size) ∧ W.cell? ⟨w.heap.size + 1, 0, none⟩ = some (.int .i64 x.id) ∧ W.cell? ⟨w.heap.size + 1, 1, none⟩ = some (.int .i64 x.parent) ∧ W.cell? ⟨w.heap.size + 1, 2, none⟩ = some (.int .i64 x.level) ∧ W.cell? ⟨w.heap.size + 1, 3, none⟩ = some (.string x.title) ∧ W.cell? ⟨w.heap.size + 1, 4, none⟩ = some (.string x.mark) ∧ w.heap.size + 1 < W.heap.size := by
  have h0 : (unW w vr vb x).heap[w.heap.size]? = some (treC vr vb) := (Below.heap_alloc _ _ _ (by simp)).trans (heap_newT w _)
  have h1 : (unW w vr vb x).heap[w.heap.size + 1]? = some (untC x) := by
    have := heap_newT (w.alloc (treC vr vb)) (untC x)
    rwa [show (w.alloc (treC vr vb)).heap.size = w.heap.size + 1 by simp] at this
  have k0 := (hW.block w.heap.size (by omega)).trans h0
  have k1 := (hW.block (w.heap.size + 1) (by omega)).trans h1
  exact ⟨⟨by rw [Lib.cell_of_heap k0]; rfl, by rw [Lib.cell_of_heap k0]; rfl, heap_ltT k0⟩, by rw [Lib.cell_of_heap k1]; rfl, by rw [Lib.cell_of_heap k1]; rfl, by rw [Lib.cell_of_heap k1]; rfl, by rw [Lib.cell_of_heap k1]; rfl, by rw [Lib.cell_of_heap k1]; rfl, heap_ltT k1⟩
set_option maxRecDepth 100000 in
set_option maxHeartbeats 4000000 in
theorem alone_c (t : Tre) (i : Nat) (x : Brn) (hx : t.brs[i]? = some x) (vr vb : Value) (w : World) (B : Nat) (hB : B ≤ w.heap.size) (h : TreRep w B t vr vb) (hV : VarOk w) :
    Calls Tryz.prog 46 #[treV vr vb, .int .i64 i] w fun e w' => e = .returned (.int .i64 (aloneF (t.brs.take i) x)) ∧ Below w.heap.size w w' := by
  have hs2 : (unW w vr vb x).heap.size = w.heap.size + 2 := by simp
  have b2 : Below w.heap.size w (unW w vr vb x) := ((Below.refl _ _).alloc (Nat.le_refl _) _).alloc (by simp) _
  have hil := lt_of_at hx
  have hii : (i : Int) < (t.brs.length : Int) := by omega
  obtain ⟨Ar, cr, rfl, -⟩ := id h.tops
  obtain ⟨A, ca, rfl, hc1, hc2, _⟩ := id h.brs
  have KC := Lib.hid (fun (W : World) (hW : Below (w.heap.size + 2) (unW w (.slice Ar t.roots.length cr) (.slice A t.brs.length ca) x) W) => unW_at hW)
  have HN := Lib.hid (fun (W : World) (hW : Below w.heap.size w W) => name_c x.title W (hV.below hW))
  have HM := Lib.hid (fun (W : World) => marks_c x.mark W)
  have HA := Lib.hid (fun (W : World) (hW : Below (w.heap.size + 2) (unW w (.slice Ar t.roots.length cr) (.slice A t.brs.length ca) x) W) => brnAny_c 93 #[.pointer (some ⟨w.heap.size + 1, 0, none⟩)] (fun b => decide (b.mark = x.mark)) (t.brs.take i) (.slice A i ca) W B (by have := hW.size; rw [hs2] at this; omega) ((h.brs.below brnS ((b2.trans (hW.mono (by omega))).mono hB)).take_ (Nat.le_of_lt hil)) (fun _ _ => by kernel_rfl)
    (fun y vk W' _ hW' hk => alone1_c (w.heap.size + 1) x y vk (by obtain ⟨Ak, ck, rfl, -⟩ := id hk; exact ⟨_, _, _, rfl⟩) W' (unW_at (hW.trans (hW'.mono (by have := hW.size; rw [hs2] at this; omega)))).2.2.2.2.2.1 (unW_at (hW.trans (hW'.mono (by have := hW.size; rw [hs2] at this; omega)))).2.2.2.2.2.2))
  obtain ⟨b, off, vk, rfl, hbB, g0, g1, g2, g3, g4, g5, hkr⟩ := Brns.at_ h.brs hx
  have hbw : b < w.heap.size := by have : b < B := hbB; omega
  have HP := Lib.hid (fun (j : Nat) (y : Brn) (hy : t.brs[j]? = some y) (W : World) (hW : Below w.heap.size w W) => (by
    obtain ⟨b', off', vk', e, -, q0, -⟩ := Brns.at_ (h.brs.below brnS (hW.mono hB)) hy
    injection e with e
    injection e with e1 e2
    subst e1 e2
    exact q0 : W.cell? ⟨b, off + j * 6, none⟩ = some (.int .i64 y.id)))
  have HE := Lib.hid (show aloneF (t.brs.take i) x = if (inB x.id 1 1073741824 && inB x.level 1 4) = false then 2 else if ((t.brs.take i).getLast?.any fun y => decide (x.id ≤ y.id)) = true then 5 else if nameB x.title = false then 4 else if x.mark ≠ ⟨#[]⟩ ∧ markB x.mark = false then 1 else if x.mark ≠ ⟨#[]⟩ ∧ ((t.brs.take i).any fun y => decide (y.mark = x.mark)) = true then 19 else 0 from rfl)
  have HL := Lib.hid (fun (j : Nat) (y : Brn) (hy : t.brs[j]? = some y) (hj : i = j + 1) => (by
    have hjl := lt_of_at hy
    rw [hj, take_at hy, List.getLast?_append]
    rfl : (t.brs.take i).getLast? = some y))
  have HL0 := Lib.hid (fun (hi : i = 0) => (by rw [hi]; rfl : (t.brs.take i).getLast? = none))
  clear g5 hkr
  have HG := Lib.hid (fun (j : Nat) (hj : j < t.brs.length) => get_at t.brs hj)
  obtain ⟨last, hlast⟩ : ∃ l, (t.brs.take i).getLast? = l := ⟨_, rfl⟩
  rw [hlast] at HE HL HL0
  clear hlast
  go_enter Tryz.func46, Tryz.ntmps46
  go_wp2_with fail
  refine (within_c x.id 1 1073741824 _).mono ?_
  rintro e w1 ⟨rfl, rfl⟩
  clear g0 g1 g2 g3 g4
  obtain ⟨⟨z0, z1, zl⟩, u0, u1, u2, u3, u4, ul⟩ := KC.out _ (Below.refl _ _)
  cases h1 : inB x.id 1 1073741824
  · have HX := Lib.hid (HE.out.trans (by rw [h1]))
    go_wp2
    go_ret
    exact ⟨ret_int HX.out.symm, b2⟩
  · go_wp2_with fail
    refine (within_c x.level 1 4 _).mono ?_
    rintro e w2 ⟨rfl, rfl⟩
    cases h2 : inB x.level 1 4
    · have HX := Lib.hid (HE.out.trans (by rw [h1, h2]))
      go_wp2
      go_ret
      exact ⟨ret_int HX.out.symm, b2⟩
    · have HE := Lib.hid (HE.out.trans (by rw [h1, h2, if_neg (by decide)]))
      clear h1 h2
      go_wp2
      go_cut [23] (fun v W => v = .bool (last.any fun y => decide (x.id ≤ y.id)) ∧ Below (w.heap.size + 2) (unW w (.slice Ar t.roots.length cr) (.slice (some ⟨b, off, none⟩) t.brs.length ca) x) W)
      case first =>
        by_cases hi : 0 < i
        · obtain ⟨y, hy⟩ := HG.out (i - 1) (by omega)
          have hl := HL.out (i - 1) y hy (by omega)
          have q0 := HP.out (i - 1) y hy _ b2
          have hwj : IntKind.i64.wrap ((i : Int) - 1) = ((i - 1 : Nat) : Int) := by rw [IntWalk.i64_in _ (by omega)]; omega
          have hjj : ((i - 1 : Nat) : Int) < (t.brs.length : Int) := by omega
          have hi' : (0 : Int) < (i : Int) := by omega
          subst hl
          clear hy
          go_quiet (fail)
          go_wp2_with fail
          go_meet
          exact ⟨rfl, below_drewN (Below.refl _ _) _⟩
        · have hl := HL0.out (by omega)
          have hi' : ¬ (0 : Int) < (i : Int) := by omega
          subst hl
          go_quiet (fail)
          go_wp2_with fail
          go_meet
          exact ⟨rfl, below_drewN (Below.refl _ _) _⟩
      case rest =>
        obtain ⟨rfl, hb⟩ := hcut
        clear z0 z1 zl u0 u1 u2 u3 u4 ul HP HG HL HL0
        obtain ⟨⟨z0, z1, zl⟩, u0, u1, u2, u3, u4, ul⟩ := KC.out _ hb
        cases hq : last.any fun y => decide (x.id ≤ y.id)
        · have HE := Lib.hid (HE.out.trans (by rw [hq, if_neg (by decide)]))
          clear hq
          go_wp2_with fail
          refine (HN.out _ (b2.trans (hb.mono (by omega)))).mono ?_
          rintro e w3 ⟨rfl, hb3⟩
          have hb := bnd_call hb (Nat.le_of_eq hs2.symm) hb3
          clear z0 z1 zl u0 u1 u2 u3 u4 ul hb3
          obtain ⟨⟨z0, z1, zl⟩, u0, u1, u2, u3, u4, ul⟩ := KC.out _ hb
          cases hn : nameB x.title
          · have HX := Lib.hid (HE.out.trans (by rw [hn]))
            clear hn
            go_wp2
            go_ret
            exact ⟨ret_int HX.out.symm, b2.trans (hb.mono (by omega))⟩
          · have HE := Lib.hid (HE.out.trans (by rw [hn, if_neg (by decide)]))
            clear hn
            by_cases hm : x.mark = ⟨#[]⟩
            · have hm1 : x.mark.toList.isEmpty = true := by rw [str_empty, hm]; rfl
              have HX := Lib.hid (HE.out.trans (by rw [if_neg (fun c => c.1 hm), if_neg (fun c => c.1 hm)]))
              clear hm
              go_wp2
              go_ret
              exact ⟨ret_int HX.out.symm, b2.trans (hb.mono (by omega))⟩
            · have hm1 : x.mark.toList.isEmpty = false := by
                rw [str_empty, decide_eq_false_iff_not]
                intro e
                exact hm (ByteArray.ext (Array.eq_empty_of_size_eq_zero e))
              have HM2 := Lib.hid hm
              clear hm
              go_wp2_with fail
              refine (HM.out _).mono ?_
              rintro e w4 ⟨rfl, hb4⟩
              have hb := bnd_call hb (Nat.le_of_eq hs2.symm) hb4
              clear z0 z1 zl u0 u1 u2 u3 u4 ul hb4
              obtain ⟨⟨z0, z1, zl⟩, u0, u1, u2, u3, u4, ul⟩ := KC.out _ hb
              cases hk : markB x.mark
              · have HX := Lib.hid (HE.out.trans (by rw [if_pos ⟨HM2.out, hk⟩]))
                clear hk
                go_wp2
                go_ret
                exact ⟨ret_int HX.out.symm, b2.trans (hb.mono (by omega))⟩
              · have HE := Lib.hid (HE.out.trans (by rw [if_neg (fun c => by rw [hk] at c; exact absurd c.2 (by decide))]))
                clear hk
                go_wp2_with fail
                refine (HA.out _ hb).mono ?_
                rintro e w5 ⟨rfl, hb5⟩
                have hb := bnd_call hb (Nat.le_of_eq hs2.symm) hb5
                clear z0 z1 zl u0 u1 u2 u3 u4 ul hb5
                cases hy : (t.brs.take i).any fun y => decide (y.mark = x.mark)
                · have HX := Lib.hid (HE.out.trans (by rw [if_neg (fun c => by rw [hy] at c; exact absurd c.2 (by decide))]))
                  clear hy
                  go_wp2
                  go_ret
                  exact ⟨ret_int HX.out.symm, b2.trans (hb.mono (by omega))⟩
                · have HX := Lib.hid (HE.out.trans (by rw [if_pos ⟨HM2.out, hy⟩]))
                  clear hy
                  go_wp2
                  go_ret
                  exact ⟨ret_int HX.out.symm, b2.trans (hb.mono (by omega))⟩
        · have HX := Lib.hid (HE.out.trans (by rw [hq]))
          clear hq
          go_wp2
          go_ret
          exact ⟨ret_int HX.out.symm, b2.trans (hb.mono (by omega))⟩

/-- the cells of one branch in a later world -/
theorem brn_cells {t : Tre} {w W : World} {B b off ca j : Nat} (h : Brns w B t.brs (.slice (some ⟨b, off, none⟩) t.brs.length ca)) (hB : B ≤ w.heap.size) {y : Brn} (hy : t.brs[j]? = some y) (hW : Below w.heap.size w W) :
    W.cell? ⟨b, off + j * 6, none⟩ = some (.int .i64 y.id) ∧ W.cell? ⟨b, off + j * 6 + 1, none⟩ = some (.int .i64 y.parent) ∧ W.cell? ⟨b, off + j * 6 + 2, none⟩ = some (.int .i64 y.level) ∧ W.cell? ⟨b, off + j * 6 + 3, none⟩ = some (.string y.title) ∧ W.cell? ⟨b, off + j * 6 + 4, none⟩ = some (.string y.mark) := by
  obtain ⟨b', off', vk', e, -, q0, q1, q2, q3, q4, -⟩ := Brns.at_ (h.below brnS (hW.mono hB)) hy
  injection e with e
  injection e with e1 e2
  subst e1 e2
  exact ⟨q0, q1, q2, q3, q4⟩
set_option maxRecDepth 100000 in
set_option maxHeartbeats 4000000 in
theorem placed_c (t : Tre) (i : Nat) (x : Brn) (hx : t.brs[i]? = some x) (vr vb : Value) (w : World) (B : Nat) (hB : B ≤ w.heap.size) (h : TreRep w B t vr vb) :
    Calls Tryz.prog 47 #[treV vr vb, .int .i64 i] w fun e w' => e = .returned (.int .i64 (placedF t.brs x)) ∧ Below w.heap.size w w' := by
  have hs2 : (unW w vr vb x).heap.size = w.heap.size + 2 := by simp
  have b2 : Below w.heap.size w (unW w vr vb x) := ((Below.refl _ _).alloc (Nat.le_refl _) _).alloc (by simp) _
  have hil := lt_of_at hx
  have hii : (i : Int) < (t.brs.length : Int) := by omega
  have hrep := h
  obtain ⟨Ar, cr, rfl, -⟩ := id h.tops
  obtain ⟨A, ca, rfl, hc1, hc2, _⟩ := id h.brs
  have KC := Lib.hid (fun (W : World) (hW : Below (w.heap.size + 2) (unW w (.slice Ar t.roots.length cr) (.slice A t.brs.length ca) x) W) => unW_at hW)
  have HIX := Lib.hid (fun (W : World) (hW : Below w.heap.size w W) => index_c t x.parent (.slice Ar t.roots.length cr) (.slice A t.brs.length ca) W B (Nat.le_trans hB hW.size) (hrep.below (hW.mono hB)))
  obtain ⟨b, off, vk, rfl, hbB, g0, g1, g2, g3, g4, g5, hkr⟩ := Brns.at_ h.brs hx
  have hbw : b < w.heap.size := by have : b < B := hbB; omega
  have HP := Lib.hid (fun (j : Nat) (y : Brn) (hy : t.brs[j]? = some y) (W : World) (hW : Below w.heap.size w W) => (brn_cells h.brs hB hy hW).2.2.1)
  clear g5 hkr
  by_cases h0 : x.parent = 0
  · have he0 : (x.parent == 0) = true := by simp [h0]
    by_cases h1 : x.level = 1
    · have he1 : (x.level != 1) = false := by simp [h1]
      have HX := Lib.hid (show placedF t.brs x = 0 by unfold placedF; rw [if_pos h0, if_neg (by simp [h1])])
      clear h0 h1
      go_enter Tryz.func47, Tryz.ntmps47
      go_wp2
      go_ret
      exact ⟨ret_int HX.out.symm, b2⟩
    · have he1 : (x.level != 1) = true := by simp [h1]
      have HX := Lib.hid (show placedF t.brs x = 18 by unfold placedF; rw [if_pos h0, if_pos h1])
      clear h0 h1
      go_enter Tryz.func47, Tryz.ntmps47
      go_wp2
      go_ret
      exact ⟨ret_int HX.out.symm, b2⟩
  · have he0 : (x.parent == 0) = false := by simpa using h0
    rcases ix_find t.brs x.parent with ⟨hi, hf⟩ | ⟨k, p, hi, hp, hf⟩
    · have HX := Lib.hid (show placedF t.brs x = 7 by unfold placedF; rw [if_neg h0, hf])
      rw [hi] at HIX
      clear h0 hi hf
      go_enter Tryz.func47, Tryz.ntmps47
      go_wp2_with fail
      refine (HIX.out _ b2).mono ?_
      rintro e w1 ⟨rfl, hb1⟩
      go_wp2
      go_ret
      exact ⟨ret_int HX.out.symm, b2.trans (hb1.mono b2.size)⟩
    · have hkl := lt_of_at hp
      have hkk : (k : Int) < (t.brs.length : Int) := by omega
      have hkn : ¬ (k : Int) < 0 := by omega
      rw [hi] at HIX
      clear hi
      by_cases h1 : x.level = 1
      · have he1 : (x.level == 1) = true := by simp [h1]
        have HX := Lib.hid (show placedF t.brs x = 18 by unfold placedF; rw [if_neg h0, hf]; simp [h1])
        clear h0 h1 hf
        go_enter Tryz.func47, Tryz.ntmps47
        go_wp2_with fail
        refine (HIX.out _ b2).mono ?_
        rintro e w1 ⟨rfl, hb1⟩
        have hb := bnd_call (Below.refl (w.heap.size + 2) _) (Nat.le_of_eq hs2.symm) hb1
        obtain ⟨⟨z0, z1, zl⟩, u0, u1, u2, u3, u4, ul⟩ := KC.out _ hb
        clear g0 g1 g2 g3 g4
        go_wp2
        go_quiet (fail)
        go_wp2
        go_ret
        exact ⟨ret_int HX.out.symm, below_drewN (b2.trans (hb.mono (by omega))) _⟩
      · have he1 : (x.level == 1) = false := by simpa using h1
        have HF := Lib.hid (fun (W : World) => fits_c p.level x.level W)
        have HX := Lib.hid (show placedF t.brs x = if fitB p.level x.level = false then 18 else 0 by unfold placedF; rw [if_neg h0, hf]; simp [h1])
        clear h0 h1 hf
        go_enter Tryz.func47, Tryz.ntmps47
        go_wp2_with fail
        refine (HIX.out _ b2).mono ?_
        rintro e w1 ⟨rfl, hb1⟩
        have hb := bnd_call (Below.refl (w.heap.size + 2) _) (Nat.le_of_eq hs2.symm) hb1
        obtain ⟨⟨z0, z1, zl⟩, u0, u1, u2, u3, u4, ul⟩ := KC.out _ hb
        have q2 := HP.out k p hp _ (b2.trans (hb.mono (by omega)))
        have hbk : b < w1.heap.size := by have := hb1.size; rw [hs2] at this; omega
        clear g0 g1 g2 g3 g4 hp
        go_wp2
        go_quiet ((go_at_call 16; refine (HF.out _).mono ?_; rintro e w3 ⟨rfl, rfl⟩; exact ⟨rfl, _, rfl⟩))
        cases hff : fitB p.level x.level
        all_goals
          go_wp2
          go_ret
          exact ⟨ret_int (by rw [HX.out, hff]; rfl), below_drewN (b2.trans (hb.mono (by omega))) _⟩

abbrev put5 (W : World) (g : Nat) (x : Brn) : World := ((((W.setCell ⟨g, 0, none⟩ (.int .i64 x.id)).setCell ⟨g, 1, none⟩ (.int .i64 x.parent)).setCell ⟨g, 2, none⟩ (.int .i64 x.level)).setCell ⟨g, 3, none⟩ (.string x.title)).setCell ⟨g, 4, none⟩ (.string x.mark)
theorem put5_off {W : World} {g b : Nat} {x : Brn} (h : b ≠ g) : (put5 W g x).heap[b]? = W.heap[b]? := by
  unfold put5
  rw [Below.heap_setCell _ _ _ _ h, Below.heap_setCell _ _ _ _ h, Below.heap_setCell _ _ _ _ h, Below.heap_setCell _ _ _ _ h, Below.heap_setCell _ _ _ _ h]
theorem put5_at {W : World} {g : Nat} {x y : Brn} (h : W.heap[g]? = some (untC y)) : (put5 W g x).heap[g]? = some (untC x) := by
  simp [put5, World.setCell, Array.getElem?_modify, h]
theorem put5_size (W : World) (g : Nat) (x : Brn) : (put5 W g x).heap.size = W.heap.size := by simp [put5, World.setCell]
theorem put5_below {B : Nat} {w0 W : World} {g : Nat} {x : Brn} (h : Below B w0 W) (hg : B ≤ g) : Below B w0 (put5 W g x) :=
  ((((h.setCell (p := ⟨g, 0, none⟩) hg _).setCell (p := ⟨g, 1, none⟩) hg _).setCell (p := ⟨g, 2, none⟩) hg _).setCell (p := ⟨g, 3, none⟩) hg _).setCell (p := ⟨g, 4, none⟩) hg _
theorem unt_cells {W : World} {g : Nat} {x : Brn} (h : W.heap[g]? = some (untC x)) : W.cell? ⟨g, 0, none⟩ = some (.int .i64 x.id) ∧ W.cell? ⟨g, 1, none⟩ = some (.int .i64 x.parent) ∧ W.cell? ⟨g, 2, none⟩ = some (.int .i64 x.level) ∧ W.cell? ⟨g, 3, none⟩ = some (.string x.title) ∧ W.cell? ⟨g, 4, none⟩ = some (.string x.mark) ∧ g < W.heap.size :=
  ⟨by rw [Lib.cell_of_heap h]; rfl, by rw [Lib.cell_of_heap h]; rfl, by rw [Lib.cell_of_heap h]; rfl, by rw [Lib.cell_of_heap h]; rfl, by rw [Lib.cell_of_heap h]; rfl, heap_ltT h⟩
set_option maxRecDepth 100000 in
set_option maxHeartbeats 8000000 in
theorem depth_c (t : Tre) (hP : Plcd t.brs) (hn : t.brs.length ≤ 100000) (i : Nat) (x : Brn) (hx : t.brs[i]? = some x) (vr vb : Value) (w : World) (B : Nat) (hB : B ≤ w.heap.size) (h : TreRep w B t vr vb) :
    Calls Tryz.prog 48 #[treV vr vb, .int .i64 i] w fun e w' => e = .returned (.int .i64 (depthF t.brs x)) ∧ Below w.heap.size w w' := by
  have hs2 : (unW w vr vb x).heap.size = w.heap.size + 2 := by simp
  have b2 : Below w.heap.size w (unW w vr vb x) := ((Below.refl _ _).alloc (Nat.le_refl _) _).alloc (by simp) _
  have hil := lt_of_at hx
  have hii : (i : Int) < (t.brs.length : Int) := by omega
  have hrep := h
  obtain ⟨Ar, cr, rfl, -⟩ := id h.tops
  obtain ⟨A, ca, rfl, hc1, hc2, _⟩ := id h.brs
  have KC := Lib.hid (fun (W : World) (hW : Below (w.heap.size + 1) (w.alloc (treC (.slice Ar t.roots.length cr) (.slice A t.brs.length ca))) W) => treW_at hW)
  obtain ⟨b, off, vk, rfl, hbB, g0, g1, g2, g3, g4, g5, hkr⟩ := Brns.at_ h.brs hx
  have hbw : b < w.heap.size := by have : b < B := hbB; omega
  have HIP := Lib.hid (fun (u : Int) (W : World) (hW : Below w.heap.size w W) => index_c t u (.slice Ar t.roots.length cr) (.slice (some ⟨b, off, none⟩) t.brs.length ca) W B (Nat.le_trans hB hW.size) (hrep.below (hW.mono hB)))
  have HP := Lib.hid (fun (j : Nat) (y : Brn) (hy : t.brs[j]? = some y) (W : World) (hW : Below w.heap.size w W) => brn_cells h.brs hB hy hW)
  have HD0 := Lib.hid (show depthF t.brs x = depthG t.brs (t.brs.length + 1) 1 x from rfl)
  have b1 := tre_new w (.slice Ar t.roots.length cr) (.slice (some ⟨b, off, none⟩) t.brs.length ca)
  have hbT0 : Below (w.heap.size + 1) (w.alloc (treC (.slice Ar t.roots.length cr) (.slice (some ⟨b, off, none⟩) t.brs.length ca))) (unW w (.slice Ar t.roots.length cr) (.slice (some ⟨b, off, none⟩) t.brs.length ca) x) := (Below.refl _ _).alloc (by simp) _
  have hg0 : (unW w (.slice Ar t.roots.length cr) (.slice (some ⟨b, off, none⟩) t.brs.length ca) x).heap[w.heap.size + 1]? = some (untC x) := by
    have := heap_newT (w.alloc (treC (.slice Ar t.roots.length cr) (.slice (some ⟨b, off, none⟩) t.brs.length ca))) (untC x)
    rwa [show (w.alloc (treC (.slice Ar t.roots.length cr) (.slice (some ⟨b, off, none⟩) t.brs.length ca))).heap.size = w.heap.size + 1 by simp] at this
  have hxm := List.mem_of_getElem? hx
  clear g5 hkr
  go_enter Tryz.func48, Tryz.ntmps48
  go_wp2
  clear g0 g1 g2 g3 g4
  go_loopw [5, 6] (fun t5 t6 wr => ∃ (m g : Nat) (cur : Brn), t5 = .int .i64 m ∧ t6 = .pointer (some ⟨g, 0, none⟩) ∧ cur ∈ t.brs ∧ 1 ≤ m ∧ m ≤ t.brs.length + 1 ∧ Hid (depthF t.brs x = depthG t.brs (t.brs.length + 2 - m) m cur) ∧ Below (w.heap.size + 1) (w.alloc (treC (.slice Ar t.roots.length cr) (.slice (some ⟨b, off, none⟩) t.brs.length ca))) wr ∧ wr.heap[g]? = some (untC cur) ∧ w.heap.size + 1 ≤ g) (fun t5 _ _ => t.brs.length + 2 - (intOf t5).toNat)
  case atStart => exact ⟨1, w.heap.size + 1, x, rfl, rfl, hxm, Nat.le_refl _, by omega, HD0, hbT0, hg0, Nat.le_refl _⟩
  case round =>
    clear HD0 hbT0 hg0
    obtain ⟨m, g, cur, rfl, rfl, hcm, hm1, hm2, HS, hbT, hg, hgw⟩ := hrel
    obtain ⟨z0, z1, zl⟩ := KC.out _ hbT
    obtain ⟨u0, u1, u2, u3, u4, hgl⟩ := unt_cells hg
    have hsT : w.heap.size + 1 ≤ wr.heap.size := by have := hbT.size; simp at this; omega
    have hbw0 := b1.trans (hbT.mono (Nat.le_succ _))
    have HF := Lib.hid (show depthG t.brs (t.brs.length + 2 - m) m cur = depthG t.brs ((t.brs.length + 1 - m) + 1) m cur by rw [show t.brs.length + 2 - m = (t.brs.length + 1 - m) + 1 by omega])
    by_cases h0 : cur.parent = 0
    · have he : (cur.parent != 0) = false := by simp [h0]
      by_cases h12 : 12 < m
      · have h12' : (12 : Int) < (m : Int) := by omega
        have HX := Lib.hid (show depthF t.brs x = 15 by rw [HS.out, HF.out]; unfold depthG; rw [if_pos h0, if_pos h12])
        clear h0 HS HF
        go_wp2
        go_ret
        exact ⟨ret_int HX.out.symm, hbw0⟩
      · have h12' : ¬ (12 : Int) < (m : Int) := by omega
        have HX := Lib.hid (show depthF t.brs x = 0 by rw [HS.out, HF.out]; unfold depthG; rw [if_pos h0, if_neg h12])
        clear h0 HS HF
        go_wp2
        go_ret
        exact ⟨ret_int HX.out.symm, hbw0⟩
    · have he : (cur.parent != 0) = true := by simp [h0]
      by_cases hl : t.brs.length < m
      · have hl' : (t.brs.length : Int) < (m : Int) := by omega
        have HX := Lib.hid (show depthF t.brs x = 17 by rw [HS.out, HF.out]; unfold depthG; rw [if_neg h0, if_pos hl])
        clear h0 HS HF
        go_wp2
        go_ret
        exact ⟨ret_int HX.out.symm, hbw0⟩
      · have hl' : ¬ (t.brs.length : Int) < (m : Int) := by omega
        obtain ⟨p0, hp0⟩ := hP cur hcm h0
        obtain ⟨k, p, hi, hpk, hf⟩ : ∃ (k : Nat) (p : Brn), ixB t.brs cur.parent = (k : Int) ∧ t.brs[k]? = some p ∧ findB t.brs cur.parent = some p := by
          rcases ix_find t.brs cur.parent with ⟨_, h2⟩ | h2
          · rw [hp0] at h2; cases h2
          · exact h2
        have hpm := List.mem_of_getElem? hpk
        have hkl := lt_of_at hpk
        have hkk : (k : Int) < (t.brs.length : Int) := by omega
        have hwm : IntKind.i64.wrap ((m : Int) + 1) = (m : Int) + 1 := IntWalk.i64_in _ (by omega)
        have HN := Lib.hid (show depthF t.brs x = depthG t.brs (t.brs.length + 2 - (m + 1)) (m + 1) p by
          rw [HS.out, HF.out]
          conv => lhs; unfold depthG
          rw [if_neg h0, if_neg hl, hf, show t.brs.length + 2 - (m + 1) = t.brs.length + 1 - m by omega])
        have HIX := Lib.hid (fun (W : World) (hW : Below wr.heap.size wr W) => HIP.out cur.parent W (hbw0.trans (hW.mono hbw0.size)))
        rw [hi] at HIX
        have HPK := Lib.hid (HP.out k p hpk)
        have KEEP := Lib.hid (fun (W : World) (hW : Below wr.heap.size wr W) => (by
          have hWT := hbT.trans (hW.mono hsT)
          obtain ⟨q0, q1, -⟩ := KC.out _ hWT
          exact ⟨q0, q1, HPK.out _ (b1.trans (hWT.mono (Nat.le_succ _)))⟩ : W.cell? ⟨w.heap.size, 0, none⟩ = some (.slice Ar t.roots.length cr) ∧ W.cell? ⟨w.heap.size, 1, none⟩ = some (.slice (some ⟨b, off, none⟩) t.brs.length ca) ∧ W.cell? ⟨b, off + k * 6, none⟩ = some (.int .i64 p.id) ∧ W.cell? ⟨b, off + k * 6 + 1, none⟩ = some (.int .i64 p.parent) ∧ W.cell? ⟨b, off + k * 6 + 2, none⟩ = some (.int .i64 p.level) ∧ W.cell? ⟨b, off + k * 6 + 3, none⟩ = some (.string p.title) ∧ W.cell? ⟨b, off + k * 6 + 4, none⟩ = some (.string p.mark)))
        have KEEPP := Lib.hid (fun (W : World) (hW : Below wr.heap.size wr W) => (by
          obtain ⟨q0, q1, q2, q3, q4, q5, q6⟩ := KEEP.out W hW
          have o1 : w.heap.size ≠ g := by omega
          have o2 : b ≠ g := by omega
          have hc : ∀ (a : Addr), a.block ≠ g → (put5 W g p).cell? a = W.cell? a := fun a ha => World.cell?_of_block (w := W) (put5_off ha)
          exact ⟨(hc _ o1).trans q0, (hc _ o1).trans q1, (hc _ o2).trans q2, (hc _ o2).trans q3, (hc _ o2).trans q4, (hc _ o2).trans q5, (hc _ o2).trans q6⟩ : (put5 W g p).cell? ⟨w.heap.size, 0, none⟩ = some (.slice Ar t.roots.length cr) ∧ (put5 W g p).cell? ⟨w.heap.size, 1, none⟩ = some (.slice (some ⟨b, off, none⟩) t.brs.length ca) ∧ (put5 W g p).cell? ⟨b, off + k * 6, none⟩ = some (.int .i64 p.id) ∧ (put5 W g p).cell? ⟨b, off + k * 6 + 1, none⟩ = some (.int .i64 p.parent) ∧ (put5 W g p).cell? ⟨b, off + k * 6 + 2, none⟩ = some (.int .i64 p.level) ∧ (put5 W g p).cell? ⟨b, off + k * 6 + 3, none⟩ = some (.string p.title) ∧ (put5 W g p).cell? ⟨b, off + k * 6 + 4, none⟩ = some (.string p.mark)))
        have hbX : Below wr.heap.size wr wr.drew := (Below.refl _ _).drew
        have hbk : b < wr.heap.size := by have := hbw0.size; omega
        clear h0 HS HF hi hpk hf hp0
        go_wp2
        refine wp_region_held_drew (S := fun W => W.cell? ⟨w.heap.size, 0, none⟩ = some (.slice Ar t.roots.length cr) ∧ W.cell? ⟨w.heap.size, 1, none⟩ = some (.slice (some ⟨b, off, none⟩) t.brs.length ca) ∧ W.cell? ⟨b, off + k * 6, none⟩ = some (.int .i64 p.id) ∧ W.cell? ⟨b, off + k * 6 + 1, none⟩ = some (.int .i64 p.parent) ∧ W.cell? ⟨b, off + k * 6 + 2, none⟩ = some (.int .i64 p.level) ∧ W.cell? ⟨b, off + k * 6 + 3, none⟩ = some (.string p.title) ∧ W.cell? ⟨b, off + k * 6 + 4, none⟩ = some (.string p.mark)) (by kernel_rfl) (by with_reducible exact KEEP.out _ hbX) (fun hHeld0 => ?_)
        refine wpAnyH_take (i := 0) (oi := { dst := some 23, op := Go.Op.fieldAddr 25 (Go.Operand.tmp 2) 1, type := 0, pos := "tree.go:99", after := #[], guard := none }) (v := ?_) rfl (by kernel_rfl) (by kernel_rfl) (by kernel_rfl) (fun _ _ _ h => h) (Or.inl ⟨by rfl, ?_⟩) hHeld0 ?_
        rotate_left
        · intro w hSw
          (try dsimp only at hSw)
          go_simp
          (try with_reducible rfl)
        (try simp only [Act.put, List.setIfInBounds_toArray, List.set_cons_zero, List.set_cons_succ])
        refine wpAnyH_take (i := 1) (oi := { dst := some 24, op := Go.Op.load 23 (Go.Operand.tmp 23), type := 23, pos := "tree.go:99", after := #[{ on := 0, ground := Go.Ground.data }], guard := none }) (v := ?_) rfl (by kernel_rfl) (by kernel_rfl) (by kernel_rfl) (fun _ _ _ h => h) (Or.inl ⟨by rfl, ?_⟩) hHeld0 ?_
        rotate_left
        · intro w hSw
          (try dsimp only at hSw)
          go_simp
          (try with_reducible rfl)
        (try simp only [Act.put, List.setIfInBounds_toArray, List.set_cons_zero, List.set_cons_succ])
        refine wpAnyH_take (i := 2) (oi := { dst := some 25, op := Go.Op.load 25 (Go.Operand.tmp 2), type := 25, pos := "tree.go:99", after := #[], guard := none }) (v := ?_) rfl (by kernel_rfl) (by kernel_rfl) (by kernel_rfl) (fun _ _ _ h => h) (Or.inl ⟨by rfl, ?_⟩) hHeld0 ?_
        rotate_left
        · intro w hSw
          (try dsimp only at hSw)
          go_simp
          (try with_reducible rfl)
        (try simp only [Act.put, List.setIfInBounds_toArray, List.set_cons_zero, List.set_cons_succ])
        refine wpAnyH_take (i := 3) (oi := { dst := some 26, op := Go.Op.fieldAddr 35 (Go.Operand.tmp 6) 1, type := 0, pos := "tree.go:99", after := #[], guard := none }) (v := ?_) rfl (by kernel_rfl) (by kernel_rfl) (by kernel_rfl) (fun _ _ _ h => h) (Or.inl ⟨by rfl, ?_⟩) hHeld0 ?_
        rotate_left
        · intro w hSw
          (try dsimp only at hSw)
          go_simp
          (try with_reducible rfl)
        (try simp only [Act.put, List.setIfInBounds_toArray, List.set_cons_zero, List.set_cons_succ])
        refine wpAnyH_ready (rs := [4]) (by kernel_rfl) (by simp) ?_
        refine AllReadyH.cons (o := { dst := some 27, op := Go.Op.load 3 (Go.Operand.tmp 26), type := 3, pos := "tree.go:99", after := #[{ on := 3, ground := Go.Ground.data }], guard := none }) rfl (fun K hK => ?_) AllReadyH.nil
        go_simp
        refine hK.out _ _ (by first | with_reducible exact KEEP.out _ hbX | with_reducible exact KEEPP.out _ hbX) (fun hHeld1 => ?_)
        clear hK K hHeld0
        (try simp only [Act.put, List.setIfInBounds_toArray, List.set_cons_zero, List.set_cons_succ])
        refine wpAnyH_ready (rs := [5]) (by kernel_rfl) (by simp) ?_
        refine AllReadyH.cons (o := { dst := some 28, op := Go.Op.call { callee := Go.Callee.value (Go.Operand.func 57), args := #[Go.Operand.tmp 25, Go.Operand.tmp 27], argTypes := #[25, 3] }, type := 3, pos := "tree.go:99", after := #[{ on := 2, ground := Go.Ground.data }, { on := 4, ground := Go.Ground.data }], guard := none }) rfl (fun K hK => ?_) AllReadyH.nil
        go_simp
        (go_at_call 57; (with_reducible refine (HIX.out _ hbX).mono ?_); rintro e w3 ⟨rfl, hb3⟩; have hbX := hbX.trans (hb3.mono hbX.size); have hg3 := (hbX.block _ hgl).trans hg; have c0 : w3.cell? ⟨g, 0, none⟩ = some (.int .i64 cur.id) := (by rw [Lib.cell_of_heap hg3]; rfl); have c1 : w3.cell? ⟨g, 1, none⟩ = some (.int .i64 cur.parent) := (by rw [Lib.cell_of_heap hg3]; rfl); have c2 : w3.cell? ⟨g, 2, none⟩ = some (.int .i64 cur.level) := (by rw [Lib.cell_of_heap hg3]; rfl); have c3 : w3.cell? ⟨g, 3, none⟩ = some (.string cur.title) := (by rw [Lib.cell_of_heap hg3]; rfl); have c4 : w3.cell? ⟨g, 4, none⟩ = some (.string cur.mark) := (by rw [Lib.cell_of_heap hg3]; rfl); have f0 := Lib.frozen_of_heap hg3 0; have f1 := Lib.frozen_of_heap hg3 1; have f2 := Lib.frozen_of_heap hg3 2; have f3 := Lib.frozen_of_heap hg3 3; have f4 := Lib.frozen_of_heap hg3 4; have hgl3 := heap_ltT hg3)
        go_wp2_with fail
        refine hK.out _ _ (by first | with_reducible exact KEEP.out _ hbX | with_reducible exact KEEPP.out _ hbX) (fun hHeld2 => ?_)
        clear hK K hHeld1
        (try simp only [Act.put, List.setIfInBounds_toArray, List.set_cons_zero, List.set_cons_succ])
        refine wpAnyH_take (i := 6) (oi := { dst := some 29, op := Go.Op.indexAddr 23 (Go.Operand.tmp 24) (Go.Operand.tmp 28), type := 0, pos := "tree.go:99", after := #[{ on := 1, ground := Go.Ground.data }, { on := 5, ground := Go.Ground.data }], guard := none }) (v := ?_) rfl (by kernel_rfl) (by kernel_rfl) (by kernel_rfl) (fun _ _ _ h => h) (Or.inl ⟨by rfl, ?_⟩) hHeld2 ?_
        rotate_left
        · intro w hSw
          (try dsimp only at hSw)
          go_simp
          (try with_reducible rfl)
        (try simp only [Act.put, List.setIfInBounds_toArray, List.set_cons_zero, List.set_cons_succ])
        refine wpAnyH_take (i := 7) (oi := { dst := some 30, op := Go.Op.fieldAddr 60 (Go.Operand.tmp 29) 0, type := 0, pos := "tree.go:99", after := #[{ on := 6, ground := Go.Ground.data }], guard := none }) (v := ?_) rfl (by kernel_rfl) (by kernel_rfl) (by kernel_rfl) (fun _ _ _ h => h) (Or.inl ⟨by rfl, ?_⟩) hHeld2 ?_
        rotate_left
        · intro w hSw
          (try dsimp only at hSw)
          go_simp
          (try with_reducible rfl)
        (try simp only [Act.put, List.setIfInBounds_toArray, List.set_cons_zero, List.set_cons_succ])
        refine wpAnyH_take (i := 8) (oi := { dst := some 31, op := Go.Op.load 35 (Go.Operand.tmp 30), type := 35, pos := "tree.go:99", after := #[{ on := 7, ground := Go.Ground.data }], guard := none }) (v := ?_) rfl (by kernel_rfl) (by kernel_rfl) (by kernel_rfl) (fun _ _ _ h => h) (Or.inl ⟨by rfl, ?_⟩) hHeld2 ?_
        rotate_left
        · intro w hSw
          (try dsimp only at hSw)
          go_simp
          (try with_reducible rfl)
        (try simp only [Act.put, List.setIfInBounds_toArray, List.set_cons_zero, List.set_cons_succ])
        refine wpAnyH_ready (rs := [9]) (by kernel_rfl) (by simp) ?_
        refine AllReadyH.cons (o := { dst := none, op := Go.Op.store 35 (Go.Operand.tmp 6) (Go.Operand.tmp 31), type := 0, pos := "tree.go:99", after := #[{ on := 8, ground := Go.Ground.data }, { on := 5, ground := Go.Ground.chain }, { on := 0, ground := Go.Ground.phase }, { on := 1, ground := Go.Ground.phase }, { on := 2, ground := Go.Ground.phase }, { on := 3, ground := Go.Ground.phase }, { on := 4, ground := Go.Ground.phase }, { on := 5, ground := Go.Ground.phase }, { on := 6, ground := Go.Ground.phase }, { on := 7, ground := Go.Ground.phase }, { on := 8, ground := Go.Ground.phase }], guard := none }) rfl (fun K hK => ?_) AllReadyH.nil
        go_simp
        refine hK.out _ _ (by first | with_reducible exact KEEP.out _ hbX | with_reducible exact KEEPP.out _ hbX) (fun hHeld3 => ?_)
        clear hK K hHeld2
        (try simp only [Act.put, List.setIfInBounds_toArray, List.set_cons_zero, List.set_cons_succ])
        refine wpAnyH_done (by kernel_rfl) ?_ _
        have hbY := hbT.trans (hbX.mono hsT)
        have hpa := put5_at (x := p) hg3
        obtain ⟨d0, d1, d2, d3, d4, dl⟩ := unt_cells hpa
        have hbZ := put5_below (x := p) hbY (show w.heap.size + 1 ≤ g from hgw)
        have hs3 : w.heap.size + 1 ≤ w3.heap.size := Nat.le_trans hsT hbX.size
        have hbN : Below (w.heap.size + 1) (w.alloc (treC (.slice Ar t.roots.length cr) (.slice (some ⟨b, off, none⟩) t.brs.length ca))) ((put5 w3 g p).alloc (untC p)) := hbZ.alloc (by rw [put5_size]; exact hs3) _
        have hnw : ((put5 w3 g p).alloc (untC p)).heap[w3.heap.size]? = some (untC p) := by have := heap_newT (put5 w3 g p) (untC p); rwa [put5_size] at this
        clear c0 c1 c2 c3 c4 f0 f1 f2 f3 f4
        go_wp2
        go_roundw
        case rel => exact ⟨m + 1, w3.heap.size, p, by go_num, rfl, hpm, by omega, by omega, HN, hbN, hnw, hs3⟩
        case measure => simp [intOf]; omega
end Go.Proofs.YthbccfchjgihgaaGreatDoor
