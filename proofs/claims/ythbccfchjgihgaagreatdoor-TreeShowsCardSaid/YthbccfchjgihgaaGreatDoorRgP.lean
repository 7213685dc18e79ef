/- The reference's Rows; two lists of rows; slices.Clone at evidence. -/
import Derived.Test.YthbccfchjgihgaaGreatDoorRgO
import Derived.Laws.StructEq
namespace Go.Proofs.YthbccfchjgihgaaGreatDoor
open Go.RowKit

theorem SlRep.none_nil {α : Type} {k : Nat} {R : CRep α} {w : World} {F : Nat → Prop} {xs : List α} {n c : Nat} (h : SlRep k R w F xs (.slice none n c)) : xs = [] ∧ n = 0 := by
  obtain ⟨A', c', e', _, _, h3⟩ := h
  injection e' with e1 e2
  rcases xs with _ | ⟨y, ys⟩
  · exact ⟨rfl, e2⟩
  · obtain ⟨_, _, _, hA, _⟩ := h3 0 y rfl
    rw [← e1] at hA
    cases hA
set_option maxHeartbeats 1000000 in
theorem cloneC_c (xs : List Came) (v : Value) (w : World) (B : Nat) (hB : B ≤ w.heap.size) (h : SlRep 4 (flat Came.enc) w (fun b => b < B) xs v) (hn : xs.length ≤ 100000) :
    Calls Tryz.prog 33 #[v] w fun e w' => ∃ v', e = .returned v' ∧ OwnRep 4 (flat Came.enc) 54 w.heap.size w' xs v' ∧ Below w.heap.size w w' := by
  obtain ⟨A, c, rfl, hc1, hc2, _⟩ := id h
  have HN := Lib.hid hn
  clear hn
  rcases A with _ | ad
  · obtain ⟨rfl, -⟩ := h.none_nil
    clear h
    have hq := fun (W : World) => Lib.run_eql_slice_nil (P := Tryz.prog) W 45 54 none 0 c 0 0 Tryz.underlying45
    go_enter Tryz.func33, Tryz.ntmps33
    go_wp2
    go_ret
    exact ⟨_, rfl, OwnRep.nil_, Below.refl _ _⟩
  · have hq := fun (W : World) => Lib.run_eql_slice_nil (P := Tryz.prog) W 45 54 (some ad) xs.length c 0 0 Tryz.underlying45
    go_enter Tryz.func33, Tryz.ntmps33
    go_wp2_with (at_builtin; refine stop_intro ?_)
    refine stop_elim ?_
    refine wpList_append_rep rfl camS camE_ w.heap.size (.tmp 5) (.tmp 6) rfl rfl (OwnRep.empty_new ?hg ?hb) rfl (ys := xs) (F := fun b => b < B) ?src ?F ?n (by decide) ?hbase ?_
    case hb => exact Nat.le_refl _
    case hg => rfl
    case src => exact h.below camS ((Below.refl _ _).alloc hB _)
    case F => intro b' (hb' : b' < B); exact ⟨by simp only [World.size_alloc]; omega, show some w.heap.size ≠ some b' by simp; omega⟩
    case hbase => simp only [World.size_alloc]; omega
    case n => have hn := HN.out; simp; omega
    intro v1 w1 hown1 hg1 hat1
    rw [List.nil_append] at hown1
    change World.grownBy _ w1 (some w.heap.size) at hg1
    have hb1 : Below w.heap.size w w1 := ((Below.refl _ _).alloc (Nat.le_refl _) _).grown hg1 (by simp only [World.size_alloc]; omega) (fun k hk => by injection hk; omega)
    go_wp2
    go_ret
    exact ⟨_, rfl, hown1, hb1⟩
theorem rwt_neq (x : RowT) (w : World) : (binOp .neq 89 (.agg #[.int .i64 x.unit, .int .i64 x.parent, .int .i64 x.accession]) (.agg #[.int .i64 x.unit, .int .i64 x.parent, .int .i64 x.accession])).run Tryz.prog w = .ok (.bool false) w := by
  have hs : ∀ (d : Nat) (xs ys : Array Value), (Op.equalIn (d + 1) 89 (.agg xs) (.agg ys)).run Tryz.prog w = (Op.eqFields d xs ys (Tryz.prog.fieldsOf 89).toList).run Tryz.prog w := fun d xs ys => run_equalIn_struct w d 89 xs ys (by kernel_rfl) (by kernel_rfl)
  simp only [binOp]
  simp [Op.equal, Op.maxDepth, hs 9999, Program.fieldsOf, Tryz.underlying89, go_sem]
set_option maxRecDepth 100000 in
set_option maxHeartbeats 2000000 in
theorem sameRows_c (l : List RowT) (hn : l.length ≤ 100000) (v v' : Value) (w : World) (B : Nat) (hB : B ≤ w.heap.size) (h : RowTs w B l v) (h' : RowTs w B l v') :
    Calls Tryz.prog 37 #[v, v'] w fun e w' => e = .returned (.bool true) ∧ Below w.heap.size w w' := by
  have HR := Lib.hid (fun (W : World) (hW : Below w.heap.size w W) => And.intro (h.below rwtS (hW.mono hB)) (h'.below rwtS (hW.mono hB)))
  obtain ⟨A, ca, rfl, hc1, hc2, -⟩ := id h
  obtain ⟨A', ca', rfl, hd1, hd2, -⟩ := id h'
  clear h h'
  go_enter Tryz.func37, Tryz.ntmps37
  go_wp2
  go_loopw [5] (fun i wr => ∃ k : Nat, k ≤ l.length ∧ i = .int .i64 k ∧ Below w.heap.size w wr) (fun i _ => l.length - (intOf i).toNat)
  case atStart => exact ⟨0, Nat.zero_le _, rfl, Below.refl _ _⟩
  case round =>
    obtain ⟨k, hk, rfl, hb⟩ := hrel
    have hs := hb.size
    by_cases hlt : k < l.length
    · obtain ⟨x, hx⟩ := get_at l hlt
      obtain ⟨b, off, rfl, hbB, g0, g1, g2⟩ := RowTs.at_ (HR.out _ hb).1 hx
      obtain ⟨b', off', rfl, hbB', q0, q1, q2⟩ := RowTs.at_ (HR.out _ hb).2 hx
      have hbw : b < wr.heap.size := by have : b < B := hbB; omega
      have hbw' : b' < wr.heap.size := by have : b' < B := hbB'; omega
      have hkk : (k : Int) < (l.length : Int) := by omega
      have hwk : IntKind.i64.wrap ((k : Int) + 1) = (k : Int) + 1 := IntWalk.i64_in _ (by omega)
      have hne := fun W : World => rwt_neq x W
      clear hx
      go_wp2
      go_quiet (fail)
      go_wp2
      go_roundw
      case rel => exact ⟨k + 1, by omega, by go_num, below_drewN hb _⟩
      case measure => simp [intOf]; omega
    · have hkk : ¬ (k : Int) < (l.length : Int) := by omega
      go_wp2
      go_ret
      exact ⟨rfl, hb⟩
set_option maxRecDepth 100000 in
set_option maxHeartbeats 8000000 in
theorem rRows_c (t : Tre) (hz : SizT t) (hmk : ∀ b ∈ t.brs, b.mark.size ≤ 100000) (l : List Came) (hln : l.length ≤ 100000) (vr vb vl : Value) (w : World) (B : Nat) (hB : B ≤ w.heap.size) (h : TreRep w B t vr vb) (hl : Cames w B l vl) :
    Calls Tryz.prog 34 #[treV vr vb, vl] w (rowsQ t l w) := by
  have b1 := tre_new w vr vb
  have hs1 : (w.alloc (treC vr vb)).heap.size = w.heap.size + 1 := by simp
  have HRT := Lib.hid (rright_c t hz hmk vr vb (w.alloc (treC vr vb)) B (Nat.le_trans hB b1.size) (h.below (b1.mono hB)))
  have HPC := Lib.hid (fun (W : World) (hW : Below w.heap.size w W) => rpright_c l vl W B (Nat.le_trans hB hW.size) (hl.below camS (hW.mono hB)))
  have KC := Lib.hid (fun (W : World) (hW : Below (w.heap.size + 1) (w.alloc (treC vr vb)) W) => treW_at hW)
  have HOF := Lib.hid (fun (u : Int) (W : World) (hW : Below w.heap.size w W) => rof_c l hln u vl W B (Nat.le_trans hB hW.size) (hl.below camS (hW.mono hB)))
  have HBR := Lib.hid (fun (W : World) (hW : Below w.heap.size w W) => h.brs.below brnS (hW.mono hB))
  have hbn := hz.brs
  obtain ⟨Ar, cr, rfl, -⟩ := id h.tops
  obtain ⟨A, ca, rfl, -⟩ := id h.brs
  obtain ⟨Al, cl, rfl, -⟩ := id hl
  cases hr : rightT t
  · have HX := Lib.hid (rows_no (t := t) (l := l) (fun c => by rw [hr] at c; exact absurd c.2 (by decide)))
    rw [hr] at HRT
    clear hr
    go_enter Tryz.func34, Tryz.ntmps34
    go_wp2_with fail
    refine HRT.out.mono ?_
    rintro e w1 ⟨rfl, hb1⟩
    go_wp2
    go_ret2
    exact ⟨.slice none 0 0, by rw [HX.out.1]; rfl, by rw [HX.out.2]; exact OwnRep.nil_, b1.trans (hb1.mono b1.size)⟩
  · cases hp : prightB l
    · have HX := Lib.hid (rows_no (t := t) (l := l) (fun c => by rw [hp] at c; exact absurd c.1 (by decide)))
      rw [hr] at HRT
      rw [hp] at HPC
      clear hp hr
      go_enter Tryz.func34, Tryz.ntmps34
      go_wp2_with fail
      refine HRT.out.mono ?_
      rintro e w1 ⟨rfl, hb1⟩
      have hb := bnd_call (Below.refl (w.heap.size + 1) _) (Nat.le_of_eq hs1.symm) hb1
      have hbw := b1.trans (hb.mono (Nat.le_succ _))
      go_wp2_with fail
      refine (HPC.out _ hbw).mono ?_
      rintro e w2 ⟨rfl, hb2⟩
      go_wp2
      go_ret2
      exact ⟨.slice none 0 0, by rw [HX.out.1]; rfl, by rw [HX.out.2]; exact OwnRep.nil_, hbw.trans (hb2.mono hbw.size)⟩
    · have HX := Lib.hid (rows_yes (t := t) (l := l) ⟨hp, hr⟩)
      rw [hr] at HRT
      rw [hp] at HPC
      clear hp hr
      go_enter Tryz.func34, Tryz.ntmps34
      go_wp2_with fail
      refine HRT.out.mono ?_
      rintro e w1 ⟨rfl, hb1⟩
      have hb := bnd_call (Below.refl (w.heap.size + 1) _) (Nat.le_of_eq hs1.symm) hb1
      go_wp2_with fail
      refine (HPC.out _ (b1.trans (hb.mono (Nat.le_succ _)))).mono ?_
      rintro e w2 ⟨rfl, hb2⟩
      have hb := bnd_call hb (Nat.le_of_eq hs1.symm) hb2
      clear hb1 hb2
      obtain ⟨z0, z1, zl⟩ := KC.out _ hb
      go_wp2
      go_loopw [6, 7] (fun t8 t28 wr => ∃ k : Nat, k ≤ t.brs.length ∧ t28 = .int .i64 k ∧ OwnRep 3 (flat RowT.enc) 89 (w.heap.size + 1) wr ((rowsF t l).take k) t8 ∧ Below (w.heap.size + 1) (w.alloc (treC (.slice Ar t.roots.length cr) (.slice A t.brs.length ca))) wr) (fun _ t28 _ => t.brs.length - (intOf t28).toNat)
      case atStart => exact ⟨0, Nat.zero_le _, rfl, OwnRep.nil_, hb⟩
      case round v _ wr =>
        obtain ⟨k, hkl, rfl, hown, hbT⟩ := hrel
        clear z0 z1 zl hb
        obtain ⟨z0, z1, zl⟩ := KC.out _ hbT
        have hsT : w.heap.size + 1 ≤ wr.heap.size := by have := hbT.size; simp at this; omega
        have hbw0 := b1.trans (hbT.mono (Nat.le_succ _))
        by_cases hlt : k < t.brs.length
        · obtain ⟨x, hx⟩ := get_at t.brs hlt
          have HN := Lib.hid (rowsF_snoc l hx)
          obtain ⟨b, off, vx, rfl, hbB, g0, g1, g2, g3, g4, g5, hkr⟩ := Brns.at_ (HBR.out _ hbw0) hx
          have hbw : b < wr.heap.size := by have : b < B := hbB; omega
          have hkk : (k : Int) < (t.brs.length : Int) := by omega
          have hwk : IntKind.i64.wrap ((k : Int) + 1) = (k : Int) + 1 := IntWalk.i64_in _ (by omega)
          have bx := (Below.refl wr.heap.size wr).alloc (Nat.le_refl _) (untC x)
          have hsx : (wr.alloc (untC x)).heap.size = wr.heap.size + 1 := by simp
          have KX := Lib.hid (fun (W : World) (hW : Below (wr.heap.size + 1) (wr.alloc (untC x)) W) => (by
            have hh := (hW.block wr.heap.size (by omega)).trans (heap_newT wr (untC x))
            exact ⟨by rw [Lib.cell_of_heap hh]; rfl, by rw [Lib.cell_of_heap hh]; rfl, heap_ltT hh⟩ : W.cell? ⟨wr.heap.size, 0, none⟩ = some (.int .i64 x.id) ∧ W.cell? ⟨wr.heap.size, 1, none⟩ = some (.int .i64 x.parent) ∧ wr.heap.size < W.heap.size))
          have hbY := hbT.trans (bx.mono hsT)
          have HO := Lib.hid (HOF.out x.id _ (b1.trans (hbY.mono (Nat.le_succ _))))
          have hownX := hown.below rwtS bx
          have HAC := Lib.hid (acc_of l x.id)
          have hrk : ((rowsF t l).take k).length ≤ t.brs.length := by rw [List.length_take]; unfold rowsF; rw [List.length_map]; omega
          rw [HAC.out] at HN
          obtain ⟨pre, hpre⟩ : ∃ p, (rowsF t l).take k = p := ⟨_, rfl⟩
          rw [hpre] at HN hownX hrk hown
          clear hx hkr hpre
          obtain ⟨Ao, co, rfl, -⟩ := id (hown.toSl rwtS)
          clear hown
          go_wp2_with fail
          refine HO.out.mono ?_
          rintro e w4 ⟨rfl, hb4⟩
          generalize (ofF l x.id).1 = y at HN ⊢
          generalize (ofF l x.id).2 = yb
          have hb4y : Below wr.heap.size wr (w4.alloc (orgC y)) := (bx.trans (hb4.mono (by rw [hsx]; omega))).alloc (by have := hb4.size; rw [hsx] at this; omega) _
          have hbZ := hbT.trans (hb4y.mono hsT)
          have hX4 := bnd_call (Below.refl (wr.heap.size + 1) _) (Nat.le_of_eq hsx.symm) hb4
          have h4s := hX4.size
          have hX5 : Below (wr.heap.size + 1) (wr.alloc (untC x)) (w4.alloc (orgC y)) := hX4.alloc (by rw [hsx] at h4s; omega) _
          obtain ⟨q0, q1, ql⟩ := KX.out _ hX5
          obtain ⟨o0, o1, o2, ol⟩ := org_cells (heap_newT w4 (orgC y))
          have hown4 := hownX.below rwtS hb4
          have hown5 := hown4.below rwtS ((Below.refl w4.heap.size w4).alloc (Nat.le_refl _) (orgC y))
          have HXL := Lib.hid hown5.own_lt
          have HZ := Lib.hid (show (w4.alloc (orgC y)).heap.size = w4.heap.size + 1 by simp)
          go_wp2_with (at_builtin; refine stop_intro ?_)
          refine stop_elim ?_
          have kS : SlRep 3 (flat RowT.enc) ((w4.alloc (orgC y)).alloc (.cells (RowT.enc ⟨x.id, x.parent, y.accession⟩).toArray 89)) (fun b => False ∨ b = w4.heap.size + 1) [⟨x.id, x.parent, y.accession⟩] (.slice (some ⟨w4.heap.size + 1, 0, none⟩) 1 1) := by
            have := SlRep.one_new rwtS (w := w4.alloc (orgC y)) (t := 89) (F := fun _ => False) (x := (⟨x.id, x.parent, y.accession⟩ : RowT)) (cs := RowT.enc ⟨x.id, x.parent, y.accession⟩) rfl rfl (fun b hb => hb.elim)
            rwa [show (w4.alloc (orgC y)).heap.size = w4.heap.size + 1 by simp] at this
          refine wpList_append_rep (xs := pre) rfl rwtS rwtE_ (w.heap.size + 1) (.tmp 39) (.tmp 47) rfl rfl (hown5.below rwtS ((Below.refl _ _).alloc (Nat.le_refl _) (.cells (RowT.enc ⟨x.id, x.parent, y.accession⟩).toArray 89))) rfl (ys := [⟨x.id, x.parent, y.accession⟩]) kS (fun b hb => ?_) ?_ (by decide) ?_ ?_
          · rcases hb with hb | rfl
            · exact hb.elim
            · exact ⟨by simp, fun e => by have := (HXL.out _ e).2; rw [HZ.out] at this; omega⟩
          · simp only [List.length_cons, List.length_nil]; omega
          · have := hbZ.size; simp at this ⊢; omega
          intro v6 w6 hown6 hg6 hat6
          have hb6 : Below (w.heap.size + 1) (w.alloc (treC (.slice Ar t.roots.length cr) (.slice (some ⟨b, off, none⟩) t.brs.length ca))) w6 := (hbZ.alloc (by have := hbZ.size; simp at this ⊢; omega) _).grown hg6 (by have := hbZ.size; simp at this ⊢; omega) (fun k hk => (HXL.out _ hk).1)
          rw [← HN.out] at hown6
          clear hg6 hat6 hown5 hown4 hownX
          go_wp2
          go_roundw
          case rel => exact ⟨k + 1, by omega, by go_num, hown6, hb6⟩
          case measure => simp [intOf]; omega
        · have HL := Lib.hid (show (rowsF t l).take k = rowsF t l from List.take_of_length_le (by unfold rowsF; rw [List.length_map]; omega))
          have hkk : ¬ (k : Int) < (t.brs.length : Int) := by omega
          rw [HL.out] at hown
          obtain ⟨Ao, co, rfl, -⟩ := id (hown.toSl rwtS)
          have HW := Lib.hid hown
          clear hown
          go_wp2
          go_ret2
          exact ⟨.slice Ao (rowsF t l).length co, by rw [HX.out.1]; rfl, by rw [HX.out.2]; exact HW.out.base_le (Nat.le_succ _), hbw0⟩
end Go.Proofs.YthbccfchjgihgaaGreatDoor
