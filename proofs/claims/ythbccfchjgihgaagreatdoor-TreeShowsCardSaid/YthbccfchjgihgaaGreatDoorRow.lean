/- The program: Rows. -/
import Derived.Test.YthbccfchjgihgaaGreatDoorPck
import Derived.Test.YthbccfchjgihgaaGreatDoorChk
namespace Go.Proofs.YthbccfchjgihgaaGreatDoor
open Go.RowKit

theorem rowsF_snoc {t : Tre} {k : Nat} {x : Brn} (l : List Came) (h : t.brs[k]? = some x) : (rowsF t l).take (k + 1) = (rowsF t l).take k ++ [⟨x.id, x.parent, accF l x.id⟩] := by
  unfold rowsF
  rw [← List.map_take, take_at h, List.map_append, ← List.map_take]
  rfl
theorem rows_no {t : Tre} {l : List Came} (h : ¬ (prightB l = true ∧ rightT t = true)) : rowsE t l = 1 ∧ rowsR t l = [] := by
  have : rowsE t l = 1 := by unfold rowsE; rw [if_neg h]
  exact ⟨this, by unfold rowsR; rw [this]; rfl⟩
theorem rows_yes {t : Tre} {l : List Came} (h : prightB l = true ∧ rightT t = true) : rowsE t l = 0 ∧ rowsR t l = rowsF t l := by
  have : rowsE t l = 0 := by unfold rowsE; rw [if_pos h]
  exact ⟨this, by unfold rowsR; rw [this]; rfl⟩
def rowsQ (t : Tre) (l : List Came) (w : World) (e : Ending) (w' : World) : Prop := ∃ v', e = .returned (.tuple #[v', .int .i64 (rowsE t l)]) ∧ OwnRep 3 (flat RowT.enc) 89 w.heap.size w' (rowsR t l) v' ∧ Below w.heap.size w w'
set_option maxRecDepth 100000 in
set_option maxHeartbeats 8000000 in
theorem rows_c (t : Tre) (hz : SizT t) (l : List Came) (vr vb vl : Value) (w : World) (B : Nat) (hB : B ≤ w.heap.size) (h : TreRep w B t vr vb) (hl : Cames w B l vl) (hV : VarOk w) :
    Calls Tryz.prog 32 #[treV vr vb, vl] w (rowsQ t l w) := by
  have b1 := tre_new w vr vb
  have hs1 : (w.alloc (treC vr vb)).heap.size = w.heap.size + 1 := by simp
  have HPC := Lib.hid (pcheck_c l vl (w.alloc (treC vr vb)) B (Nat.le_trans hB b1.size) (hl.below camS (b1.mono hB)))
  have HRT := Lib.hid (fun (W : World) (hW : Below w.heap.size w W) => right_c t hz vr vb W B (Nat.le_trans hB hW.size) (h.below (hW.mono hB)) (hV.below hW))
  have KC := Lib.hid (fun (W : World) (hW : Below (w.heap.size + 1) (w.alloc (treC vr vb)) W) => treW_at hW)
  have HOF := Lib.hid (fun (u : Int) (W : World) (hW : Below w.heap.size w W) => of_c l u vl W B (Nat.le_trans hB hW.size) (hl.below camS (hW.mono hB)))
  have HBR := Lib.hid (fun (W : World) (hW : Below w.heap.size w W) => h.brs.below brnS (hW.mono hB))
  have hbn := hz.brs
  obtain ⟨Ar, cr, rfl, -⟩ := id h.tops
  obtain ⟨A, ca, rfl, -⟩ := id h.brs
  obtain ⟨Al, cl, rfl, -⟩ := id hl
  cases hp : prightB l
  · have HX := Lib.hid (rows_no (t := t) (l := l) (fun c => by rw [hp] at c; exact absurd c.1 (by decide)))
    have hne : ((pchkF l).2 != 0) = true := by
      unfold prightB at hp
      simpa using hp
    clear hp
    go_enter Tryz.func32, Tryz.ntmps32
    go_wp2_with fail
    refine HPC.out.mono ?_
    rintro e w1 ⟨rfl, hb1⟩
    go_wp2
    go_ret2
    exact ⟨.slice none 0 0, by rw [HX.out.1]; rfl, by rw [HX.out.2]; exact OwnRep.nil_, b1.trans (hb1.mono b1.size)⟩
  · have hne : ((pchkF l).2 != 0) = false := by
      unfold prightB at hp
      simpa using hp
    cases hr : rightT t
    · have HX := Lib.hid (rows_no (t := t) (l := l) (fun c => by rw [hr] at c; exact absurd c.2 (by decide)))
      rw [hr] at HRT
      clear hp hr
      go_enter Tryz.func32, Tryz.ntmps32
      go_wp2_with fail
      refine HPC.out.mono ?_
      rintro e w1 ⟨rfl, hb1⟩
      have hb := bnd_call (Below.refl (w.heap.size + 1) _) (Nat.le_of_eq hs1.symm) hb1
      obtain ⟨z0, z1, zl⟩ := KC.out _ hb
      have hbw := b1.trans (hb.mono (Nat.le_succ _))
      go_wp2_with fail
      refine (HRT.out _ hbw).mono ?_
      rintro e w2 ⟨rfl, hb2⟩
      go_wp2
      go_ret2
      exact ⟨.slice none 0 0, by rw [HX.out.1]; rfl, by rw [HX.out.2]; exact OwnRep.nil_, hbw.trans (hb2.mono hbw.size)⟩
    · have HX := Lib.hid (rows_yes (t := t) (l := l) ⟨hp, hr⟩)
      rw [hr] at HRT
      clear hp hr
      go_enter Tryz.func32, Tryz.ntmps32
      go_wp2_with fail
      refine HPC.out.mono ?_
      rintro e w1 ⟨rfl, hb1⟩
      have hb := bnd_call (Below.refl (w.heap.size + 1) _) (Nat.le_of_eq hs1.symm) hb1
      obtain ⟨z0, z1, zl⟩ := KC.out _ hb
      go_wp2_with fail
      refine (HRT.out _ (b1.trans (hb.mono (Nat.le_succ _)))).mono ?_
      rintro e w2 ⟨rfl, hb2⟩
      have hb := bnd_call hb (Nat.le_of_eq hs1.symm) hb2
      clear z0 z1 zl hb1 hb2
      obtain ⟨z0, z1, zl⟩ := KC.out _ hb
      go_wp2
      go_loopw [8, 28] (fun t8 t28 wr => ∃ k : Nat, k ≤ t.brs.length ∧ t28 = .int .i64 k ∧ OwnRep 3 (flat RowT.enc) 89 (w.heap.size + 1) wr ((rowsF t l).take k) t8 ∧ Below (w.heap.size + 1) (w.alloc (treC (.slice Ar t.roots.length cr) (.slice A t.brs.length ca))) wr) (fun _ t28 _ => t.brs.length - (intOf t28).toNat)
      case atStart => exact ⟨0, Nat.zero_le _, rfl, OwnRep.nil_, hb⟩
      case round v _ wr =>
        obtain ⟨k, hkl, rfl, hown, hbT⟩ := hrel
        clear z0 z1 zl hb
        obtain ⟨z0, z1, zl⟩ := KC.out _ hbT
        have hsT : w.heap.size + 1 ≤ wr.heap.size := by have := hbT.size; simp at this; omega
        have hbw0 := b1.trans (hbT.mono (Nat.le_succ _))
        by_cases hlt : k < t.brs.length
        · obtain ⟨x, hx⟩ := get_at t.brs hlt
          have HN := Lib.hid (rowsF_snoc l hx)
          obtain ⟨b, off, vx, rfl, hbB, g0, g1, g2, g3, g4, g5, hkr⟩ := Brns.at_ (HBR.out _ hbw0) hx
          obtain ⟨Ax, cx, rfl, -⟩ := id hkr
          have hbw : b < wr.heap.size := by have : b < B := hbB; omega
          have hkk : (k : Int) < (t.brs.length : Int) := by omega
          have hwk : IntKind.i64.wrap ((k : Int) + 1) = (k : Int) + 1 := IntWalk.i64_in _ (by omega)
          have bx := (Below.refl wr.heap.size wr).alloc (Nat.le_refl _) (brnC x (.slice Ax x.kids.length cx))
          have hsx : (wr.alloc (brnC x (.slice Ax x.kids.length cx))).heap.size = wr.heap.size + 1 := by simp
          have KX := Lib.hid (fun (W : World) (hW : Below (wr.heap.size + 1) (wr.alloc (brnC x (.slice Ax x.kids.length cx))) W) => (by
            have hh := (hW.block wr.heap.size (by omega)).trans (heap_newT wr (brnC x (.slice Ax x.kids.length cx)))
            exact ⟨by rw [Lib.cell_of_heap hh]; rfl, by rw [Lib.cell_of_heap hh]; rfl, heap_ltT hh⟩ : W.cell? ⟨wr.heap.size, 0, none⟩ = some (.int .i64 x.id) ∧ W.cell? ⟨wr.heap.size, 1, none⟩ = some (.int .i64 x.parent) ∧ wr.heap.size < W.heap.size))
          have hbY := hbT.trans (bx.mono hsT)
          have HO := Lib.hid (HOF.out x.id _ (b1.trans (hbY.mono (Nat.le_succ _))))
          have hownX := hown.below rwtS bx
          have HAC := Lib.hid (acc_of l x.id)
          have hrk : ((rowsF t l).take k).length ≤ t.brs.length := by rw [List.length_take]; unfold rowsF; rw [List.length_map]; omega
          rw [HAC.out] at HN
          obtain ⟨pre, hpre⟩ : ∃ p, (rowsF t l).take k = p := ⟨_, rfl⟩
          rw [hpre] at HN hownX hrk hown
          clear hx hkr hpre
          obtain ⟨Ao, co, rfl, -⟩ := id (hown.toSl rwtS)
          clear hown
          go_wp2_with fail
          refine HO.out.mono ?_
          rintro e w4 ⟨rfl, hb4⟩
          generalize (ofF l x.id).1 = y at HN ⊢
          generalize (ofF l x.id).2 = yb
          have hb4y : Below wr.heap.size wr (w4.alloc (orgC y)) := (bx.trans (hb4.mono (by rw [hsx]; omega))).alloc (by have := hb4.size; rw [hsx] at this; omega) _
          have hbZ := hbT.trans (hb4y.mono hsT)
          have hX4 := bnd_call (Below.refl (wr.heap.size + 1) _) (Nat.le_of_eq hsx.symm) hb4
          have h4s := hX4.size
          have hX5 : Below (wr.heap.size + 1) (wr.alloc (brnC x (.slice Ax x.kids.length cx))) (w4.alloc (orgC y)) := hX4.alloc (by rw [hsx] at h4s; omega) _
          obtain ⟨q0, q1, ql⟩ := KX.out _ hX5
          obtain ⟨o0, o1, o2, ol⟩ := org_cells (heap_newT w4 (orgC y))
          have hown4 := hownX.below rwtS hb4
          have hown5 := hown4.below rwtS ((Below.refl w4.heap.size w4).alloc (Nat.le_refl _) (orgC y))
          have HXL := Lib.hid hown5.own_lt
          have HZ := Lib.hid (show (w4.alloc (orgC y)).heap.size = w4.heap.size + 1 by simp)
          go_wp2_with (at_builtin; refine stop_intro ?_)
          refine stop_elim ?_
          have kS : SlRep 3 (flat RowT.enc) ((w4.alloc (orgC y)).alloc (.cells (RowT.enc ⟨x.id, x.parent, y.accession⟩).toArray 89)) (fun b => False ∨ b = w4.heap.size + 1) [⟨x.id, x.parent, y.accession⟩] (.slice (some ⟨w4.heap.size + 1, 0, none⟩) 1 1) := by
            have := SlRep.one_new rwtS (w := w4.alloc (orgC y)) (t := 89) (F := fun _ => False) (x := (⟨x.id, x.parent, y.accession⟩ : RowT)) (cs := RowT.enc ⟨x.id, x.parent, y.accession⟩) rfl rfl (fun b hb => hb.elim)
            rwa [show (w4.alloc (orgC y)).heap.size = w4.heap.size + 1 by simp] at this
          refine wpList_append_rep (xs := pre) rfl rwtS rwtE_ (w.heap.size + 1) (.tmp 40) (.tmp 50) rfl rfl (hown5.below rwtS ((Below.refl _ _).alloc (Nat.le_refl _) (.cells (RowT.enc ⟨x.id, x.parent, y.accession⟩).toArray 89))) rfl (ys := [⟨x.id, x.parent, y.accession⟩]) kS (fun b hb => ?_) ?_ (by decide) ?_ ?_
          · rcases hb with hb | rfl
            · exact hb.elim
            · exact ⟨by simp, fun e => by have := (HXL.out _ e).2; rw [HZ.out] at this; omega⟩
          · simp only [List.length_cons, List.length_nil]; omega
          · have := hbZ.size; simp at this ⊢; omega
          intro v6 w6 hown6 hg6 hat6
          have hb6 : Below (w.heap.size + 1) (w.alloc (treC (.slice Ar t.roots.length cr) (.slice (some ⟨b, off, none⟩) t.brs.length ca))) w6 := (hbZ.alloc (by have := hbZ.size; simp at this ⊢; omega) _).grown hg6 (by have := hbZ.size; simp at this ⊢; omega) (fun k hk => (HXL.out _ hk).1)
          rw [← HN.out] at hown6
          clear hg6 hat6 hown5 hown4 hownX
          go_wp2
          go_roundw
          case rel => exact ⟨k + 1, by omega, by go_num, hown6, hb6⟩
          case measure => simp [intOf]; omega
        · have HL := Lib.hid (show (rowsF t l).take k = rowsF t l from List.take_of_length_le (by unfold rowsF; rw [List.length_map]; omega))
          have hkk : ¬ (k : Int) < (t.brs.length : Int) := by omega
          rw [HL.out] at hown
          obtain ⟨Ao, co, rfl, -⟩ := id (hown.toSl rwtS)
          have HW := Lib.hid hown
          clear hown
          go_wp2
          go_ret2
          exact ⟨.slice Ao (rowsF t l).length co, by rw [HX.out.1]; rfl, by rw [HX.out.2]; exact HW.out.base_le (Nat.le_succ _), hbw0⟩
end Go.Proofs.YthbccfchjgihgaaGreatDoor
