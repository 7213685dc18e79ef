/- InvertComplete returns true. -/
import Derived.Test.YtpfngehledgkiaaAwI
import Derived.Test.YtpfngehledgkiaaRfG
import Derived.Test.YtpfngehledgkiaaFwI
import Derived.Test.YtpfngehledgkiaaCmQ
namespace Go.Proofs.Ytpfngehledgkiaa
open Go.RowKit

theorem cat_one {w : World} {B : Nat} {c : Cat} {v1 v2 v3 : Value} (hB : B ≤ w.heap.size) (h : CatRep w B c v1 v2 v3) {W : World} {g : Nat} (hb : Below w.heap.size w W) (hg : W.heap[g]? = some (.cells #[v1, v2, v3] 33)) : SlRep 3 catR W (fun b => b < W.heap.size) [c] (.slice (some ⟨g, 0, none⟩) 1 1) := by
  have h2 := (h.below (hb.mono hB)).mono (Nat.le_trans hB hb.size)
  refine sl_at (css := [[v1, v2, v3]]) (t := 33) catS rfl hg (fun i x cs hx hcs => ?_) (heap_ltQ hg) rfl (by simp)
  match i, hx, hcs with
  | 0, hx, hcs =>
    simp at hx hcs
    subst hx hcs
    exact ⟨v1, v2, v3, rfl, h2.langs, h2.labels, h2.sheets⟩
theorem sheet_ix {c : Cat} (h0 : catE c = 0) {k : Nat} {x : Sheet} (hx : c.sheets[k]? = some x) : shtIx c.sheets x.unit = (k : Int) := by
  rcases idxF_cases (fun y : Sheet => decide (y.unit = x.unit)) c.sheets with ⟨-, h2⟩ | ⟨j, y, h1, h2, h3, -⟩
  · have := h2 x (List.mem_of_getElem? hx)
    simp at this
  · have hy : y.unit = x.unit := by simpa using h3
    have hj : j = k := by
      refine (List.getElem?_inj (by rw [List.length_map]; exact lt_of_at h2) (units_nodup h0)).1 ?_
      rw [List.getElem?_map, List.getElem?_map, h2, hx]
      simp [hy]
    subst hj
    exact h1
theorem raw_sheet {c : Cat} {s : ByteArray} (h0 : catE c = 0) {k : Nat} {x : Sheet} (hx : c.sheets[k]? = some x) : rawF c s x.unit = putF x.unit (-1) x.title ++ (chooseR c x.unit s).flatMap fun f => putF x.unit f.el f.text :=
  raw_at (sheet_ix h0 hx) hx
def cntS (c : Cat) (s : ByteArray) (l : List Sheet) : Nat := (l.flatMap fun x => rawF c s x.unit).length
def cntF (u : Int) (l : List Fact) : Nat := (l.flatMap fun f => putF u f.el f.text).length
theorem putF_words (u n : Int) (t : ByteArray) : (putF u n t).length = (wordsF t).length := putG_len u n (wordsF t) 0
theorem cntF_step {u : Int} {l : List Fact} {j : Nat} {f : Fact} (h : l[j]? = some f) : cntF u (l.take (j + 1)) = cntF u (l.take j) + (wordsF f.text).length := by
  unfold cntF
  rw [take_at h, List.flatMap_append, List.length_append, List.flatMap_singleton, putF_words]
theorem cntS_step {c : Cat} {s : ByteArray} (h0 : catE c = 0) {k : Nat} {x : Sheet} (h : c.sheets[k]? = some x) : cntS c s (c.sheets.take (k + 1)) = cntS c s (c.sheets.take k) + (wordsF x.title).length + cntF x.unit (chooseR c x.unit s) := by
  unfold cntS
  rw [take_at h, List.flatMap_append, List.length_append, List.flatMap_singleton, raw_sheet h0 h, List.length_append, putF_words]
  unfold cntF
  omega
theorem all_len (c : Cat) (s : ByteArray) : ∀ l : List Sheet, (l.flatMap fun x => ofF c s x.unit).length = cntS c s l
  | [] => rfl
  | x :: l => by
    have ih := all_len c s l
    unfold cntS at ih ⊢
    rw [List.flatMap_cons, List.length_append, ih, List.flatMap_cons, List.length_append]
    unfold ofF
    rw [sortP_len]
theorem build_cnt {c : Cat} {s : ByteArray} (he : buildE c s = 0) : (buildF c s).length = cntS c s c.sheets := by
  rw [build_list he, sortP_len]
  exact all_len c s c.sheets
theorem build_has {c : Cat} {s : ByteArray} (he : buildE c s = 0) {k : Nat} {x : Sheet} (hx : c.sheets[k]? = some x) : (∀ p ∈ putF x.unit (-1) x.title, p ∈ buildF c s) ∧ ∀ f ∈ chooseR c x.unit s, ∀ p ∈ putF x.unit f.el f.text, p ∈ buildF c s := by
  have h0 := (buildE_zero he).1
  have key : ∀ p ∈ rawF c s x.unit, p ∈ buildF c s := fun p hp => by
    rw [build_list he]
    exact sortP_mem.2 (List.mem_flatMap.2 ⟨x, List.mem_of_getElem? hx, sortP_mem.2 hp⟩)
  rw [raw_sheet h0 hx] at key
  exact ⟨fun p hp => key p (List.mem_append_left _ hp), fun f hf p hp => key p (List.mem_append_right _ (List.mem_flatMap.2 ⟨f, hf, hp⟩))⟩
theorem cnt_bound {c : Cat} {s : ByteArray} (he : buildE c s = 0) (k : Nat) : cntS c s (c.sheets.take k) ≤ 65536 := by
  have h1 := build_cnt he
  have h2 := (chkL_zero (build_right he)).1
  have h3 : cntS c s (c.sheets.take k) ≤ cntS c s c.sheets := by
    have : c.sheets = c.sheets.take k ++ c.sheets.drop k := (List.take_append_drop k c.sheets).symm
    conv => rhs; rw [this]
    unfold cntS
    rw [List.flatMap_append, List.length_append]
    omega
  omega
theorem cnt_boundF {c : Cat} {s : ByteArray} (he : buildE c s = 0) {k : Nat} {x : Sheet} (hx : c.sheets[k]? = some x) (j : Nat) : cntS c s (c.sheets.take k) + (wordsF x.title).length + cntF x.unit ((chooseR c x.unit s).take j) ≤ 65536 := by
  have h1 := cntS_step (s := s) (buildE_zero he).1 hx
  have h2 := cnt_bound he (k + 1)
  have h3 : cntF x.unit ((chooseR c x.unit s).take j) ≤ cntF x.unit (chooseR c x.unit s) := by
    have : chooseR c x.unit s = (chooseR c x.unit s).take j ++ (chooseR c x.unit s).drop j := (List.take_append_drop j _).symm
    conv => rhs; rw [this]
    unfold cntF
    rw [List.flatMap_append, List.length_append]
    omega
  omega
theorem grown_mono {B : Nat} {w W : World} {g : Nat} (h : w.grownBy W (some g)) (hB : B ≤ w.heap.size) (hg : B ≤ g) : Below B w W := below_of_grown h hB (fun k hk => by injection hk with hk; omega)
set_option maxRecDepth 100000 in
set_option maxHeartbeats 16000000 in
theorem complete_law (c : Cat) (s : ByteArray) (v1 v2 v3 : Value) (w : World) (B : Nat) (hB : B ≤ w.heap.size) (h : CatRep w B c v1 v2 v3) :
    Calls Try.prog 4 #[.agg #[v1, v2, v3], .string s] w fun e w' => e = .returned (.bool true) ∧ Below w.heap.size w w' := by
  have HA := Lib.hid (fun (W : World) => awake5_c W)
  have HFW := Lib.hid (fun (v : Value) (W : World) (hv : SlRep 3 catR W (fun b => b < W.heap.size) [c] v) => few5_c [c] v W W.heap.size (Nat.le_refl _) hv)
  have HCP := Lib.hid (fun (hF : FewOk c) (W : World) (hW : Below w.heap.size w W) => rcopy_c c v1 v2 v3 W B (Nat.le_trans hB hW.size) (h.below (hW.mono hB)) hF)
  have HB := Lib.hid (fun (a1 a2 a3 : Value) (W : World) (hr : CatRep W W.heap.size c a1 a2 a3) => iBuild_c c s a1 a2 a3 W W.heap.size (Nat.le_refl _) hr)
  have b0 : Below w.heap.size w (w.alloc (catC v1 v2 v3)) := (Below.refl _ _).alloc (Nat.le_refl _) _
  have hb0 : Below (w.heap.size + 1) (w.alloc (catC v1 v2 v3)) (w.alloc (catC v1 v2 v3)) := Below.refl _ _
  have KC := Lib.hid (fun (W : World) (hW : Below (w.heap.size + 1) (w.alloc (catC v1 v2 v3)) W) => catW_at hW)
  have HONE := Lib.hid (fun (W : World) (hW : Below w.heap.size w W) => cat_one hB h (W := W.alloc (catC v1 v2 v3)) (g := W.heap.size) (hW.alloc hW.size _) (heap_newL W _))
  obtain ⟨A1, c1, rfl, -⟩ := id h.langs
  obtain ⟨A2, c2, rfl, -⟩ := id h.labels
  obtain ⟨A3, c3, rfl, hc3, hc4, -⟩ := id h.sheets
  by_cases hl : 10 < s.size
  · have hl' : (10 : Int) < (s.size : Int) := by omega
    go_enter Try.func4, Try.ntmps4
    go_wp2_with fail
    refine (HA.out _).mono ?_
    rintro e w1 ⟨rfl, b1⟩
    have bX := bnd_call hb0 (by simp) b1
    have bW := b0.trans (bX.mono (Nat.le_succ _))
    obtain ⟨z0, z1, z2, zl⟩ := KC.out _ bX
    go_wp2_with fail
    refine (HFW.out _ _ (HONE.out _ bW)).mono ?_
    rintro e w2 ⟨⟨b, rfl, -⟩, hb2⟩
    cases b
    all_goals
      go_wp2
      go_ret
      exact ⟨rfl, (bW.alloc bW.size _).trans (hb2.mono (by have := bW.size; simp; omega))⟩
  · have hl' : ¬ (10 : Int) < (s.size : Int) := by omega
    go_enter Try.func4, Try.ntmps4
    go_wp2_with fail
    refine (HA.out _).mono ?_
    rintro e w1 ⟨rfl, b1⟩
    have bX := bnd_call hb0 (by simp) b1
    have bW := b0.trans (bX.mono (Nat.le_succ _))
    obtain ⟨z0, z1, z2, zl⟩ := KC.out _ bX
    go_wp2_with fail
    refine (HFW.out _ _ (HONE.out _ bW)).mono ?_
    rintro e w2 ⟨⟨b, rfl, hfew⟩, hb2⟩
    cases b
    · go_wp2
      go_ret
      exact ⟨rfl, (bW.alloc bW.size _).trans (hb2.mono (by have := bW.size; simp; omega))⟩
    · have hF := hfew rfl c (by simp)
      have bX := (bX.alloc (by have := bX.size; simp at this; exact this) (catC (.slice A1 c.langs.length c1) (.slice A2 c.labels.length c2) (.slice A3 c.sheets.length c3))).trans (hb2.mono (by have := bX.size; simp at this; simp; omega))
      clear hfew b1 hb2 z0 z1 z2 zl bW
      have bW := b0.trans (bX.mono (Nat.le_succ _))
      obtain ⟨z0, z1, z2, zl⟩ := KC.out _ bX
      go_wp2_with fail
      refine (HCP.out hF _ bW).mono ?_
      rintro e w3 ⟨a1, a2, a3, rfl, hra, -, hb3⟩
      have bX := bnd_call bX (by simp) hb3
      go_wp2_with fail
      refine (HB.out _ _ _ _ hra).mono ?_
      rintro e w4 ⟨vl, rfl, hol, hb4⟩
      have bX := bnd_call bX (by simp) hb4
      have hlp := hol.toSl pstS
      obtain ⟨Al, nl, cl, rfl, hnl⟩ := own_form pstS hol
      have hnl' := hnl.out
      subst hnl'
      clear z0 z1 z2 zl bW hb3 hb4 hra hol hnl
      have bW := b0.trans (bX.mono (Nat.le_succ _))
      obtain ⟨z0, z1, z2, zl⟩ := KC.out _ bX
      by_cases he : buildE c s = 0
      · have he2 : (buildE c s != 0) = false := by simp [he]
        obtain ⟨h0, -, -⟩ := buildE_zero he
        have hchk := build_right he
        have hcnt := Lib.hid (build_cnt he)
        have HST := Lib.hid (fun (k : Nat) (x : Sheet) (hx : c.sheets[k]? = some x) => cntS_step (s := s) h0 hx)
        have HBD := Lib.hid (fun (k : Nat) (x : Sheet) (hx : c.sheets[k]? = some x) (j : Nat) => cnt_boundF he hx j)
        have HHS := Lib.hid (fun (k : Nat) (x : Sheet) (hx : c.sheets[k]? = some x) => build_has he hx)
        have HCF := Lib.hid (fun (k : Nat) (x : Sheet) (hx : c.sheets[k]? = some x) => chosen_facts h0 (s := s) (sheet_ix h0 hx) hx)
        have HTI := Lib.hid (fun (x : Sheet) (hx : x ∈ c.sheets) => ((catE_zero h0).2.2.2 x hx).2.1.2.2)
        have hln : (buildF c s).length ≤ 65536 := (chkL_zero hchk).1
        have hwd : ∀ p ∈ buildF c s, p.word.size ≤ 1000000 := fun p hp => by
          have := (chkL_zero hchk).2.1 p hp
          unfold rightP at this
          simp only [Bool.and_eq_true, decide_eq_true_eq] at this
          omega
        have HFD := Lib.hid (fun (u n : Int) (t : ByteArray) (cnt : Nat) (W : World) (hl : SlRep 4 (flat Post.enc) W (fun b => b < W.heap.size ∧ b ≠ w4.heap.size + 1) (buildF c s) (.slice Al (buildF c s).length cl)) (h5 : W.cell? ⟨w4.heap.size, 0, none⟩ = some (.slice Al (buildF c s).length cl)) (hg5 : w4.heap.size < W.heap.size) (h7 : W.heap[w4.heap.size + 1]? = some (cntC cnt)) (hcn : cnt ≤ 100000000) (ht : t.size ≤ 1000000) (hm : ∀ p ∈ putF u n t, p ∈ buildF c s) => cfind_c (buildF c s) (.slice Al (buildF c s).length cl) u n t w4.heap.size (w4.heap.size + 1) cnt W hl h5 hg5 (by omega) h7 hcn ht hchk hm)
        have HCK := Lib.hid (fun (W : World) (hW : Posts W W.heap.size (buildF c s) (.slice Al (buildF c s).length cl)) => show Calls Try.prog 13 #[.slice Al (buildF c s).length cl] W fun e w' => e = .returned (.int .i64 0) ∧ Below W.heap.size W w' by
          have := icheck_c (buildF c s) _ W W.heap.size (Nat.le_refl _) hW hwd
          rwa [hchk] at this)
        have HCH := Lib.hid (fun (u : Int) (W : World) (hW : Below w.heap.size w W) => Choose_c c u s _ _ _ W B (Nat.le_trans hB hW.size) (h.below (hW.mono hB)))
        have hbC : Below w4.heap.size w4 ((w4.alloc (.cells #[.slice Al (buildF c s).length cl] 25)).alloc (cntC 0)) := ((Below.refl _ _).alloc (Nat.le_refl _) _).alloc (by simp) _
        have HR := Lib.hid (fun (W : World) (hg : ((w4.alloc (.cells #[.slice Al (buildF c s).length cl] 25)).alloc (cntC 0)).grownBy W (some (w4.heap.size + 1))) => (have hb := hbC.trans (grown_mono hg (by simp; omega) (Nat.le_succ _)); ⟨bW.trans (hb.mono bW.size), bX.trans (hb.mono (by have := bX.size; simp at this; exact this)), (cell_grown hg (p := ⟨w4.heap.size, 0, none⟩) (by simp; omega) (by simp)).trans (by simp), by have := hg.size; simp at this; omega, (hlp.frame pstS (fun b hb' => hb.block b hb')).monoF pstS (fun b (hb' : b < w4.heap.size) => ⟨Nat.lt_of_lt_of_le hb' hb.size, by omega⟩)⟩ : Below w.heap.size w W ∧ Below (w.heap.size + 1) (w.alloc (catC (.slice A1 c.langs.length c1) (.slice A2 c.labels.length c2) (.slice A3 c.sheets.length c3))) W ∧ W.cell? ⟨w4.heap.size, 0, none⟩ = some (.slice Al (buildF c s).length cl) ∧ w4.heap.size + 1 < W.heap.size ∧ SlRep 4 (flat Post.enc) W (fun b => b < W.heap.size ∧ b ≠ w4.heap.size + 1) (buildF c s) (.slice Al (buildF c s).length cl)))
        generalize buildF c s = L at *
        have hwc := bW.size
        have HI0 := Lib.hid (show ((w4.alloc (.cells #[.slice Al L.length cl] 25)).alloc (cntC 0)).heap[w4.heap.size + 1]? = some (cntC (cntS c s (c.sheets.take 0))) by
          have := heap_newL (w4.alloc (.cells #[.slice Al L.length cl] 25)) (cntC 0)
          rwa [show (w4.alloc (.cells #[.slice Al L.length cl] 25)).heap.size = w4.heap.size + 1 by simp] at this)
        clear hbC hlp he hchk hwd h0
        go_wp2
        go_loopw [40] (fun i wr => ∃ k : Nat, k ≤ c.sheets.length ∧ i = .int .i64 k ∧ ((w4.alloc (.cells #[.slice Al L.length cl] 25)).alloc (cntC 0)).grownBy wr (some (w4.heap.size + 1)) ∧ wr.heap[w4.heap.size + 1]? = some (cntC (cntS c s (c.sheets.take k)))) (fun i _ => c.sheets.length - (intOf i).toNat)
        case atStart => exact ⟨0, Nat.zero_le _, rfl, World.grownBy.refl _ _, HI0.out⟩
        case round =>
          clear z0 z1 z2 zl bW bX
          obtain ⟨k, hk, rfl, hgr, hcr⟩ := hrel
          obtain ⟨bR, bX, z5, zg, hlr⟩ := HR.out _ hgr
          obtain ⟨z0, z1, z2, zl⟩ := KC.out _ bX
          have hsR := bR.size
          by_cases hlt : k < c.sheets.length
          · obtain ⟨x, hx⟩ := get_at c.sheets hlt
            obtain ⟨hm1, hm2⟩ := HHS.out k x hx
            have hst := Lib.hid (HST.out k x hx)
            have HBX := Lib.hid (HBD.out k x hx)
            obtain ⟨hcl, hcf⟩ := HCF.out k x hx
            have htz := HTI.out x (List.mem_of_getElem? hx)
            obtain ⟨b, off, vf, e9, hbB, g0, g1, g2, g3, g4, g5, hvf⟩ := Sheets.at_ (h.sheets.below shtS (bR.mono hB)) hx
            subst e9
            have hbw : b < wr.heap.size := by have : b < B := hbB; omega
            obtain ⟨Af, cf, rfl, -⟩ := id hvf
            have hki : (k : Int) < (c.sheets.length : Int) := by omega
            have hb1 : Below wr.heap.size wr (wr.alloc (shtC x (.slice Af x.facts.length cf))) := (Below.refl _ _).alloc (Nat.le_refl _) _
            have hg1 := hgr.trans (grown_of_below hb1 (some (w4.heap.size + 1)))
            obtain ⟨bR1, -, y5, yg, hl1⟩ := HR.out _ hg1
            have hc1 : (wr.alloc (shtC x (.slice Af x.facts.length cf))).heap[w4.heap.size + 1]? = some (cntC (cntS c s (c.sheets.take k))) := (hb1.block _ zg).trans hcr
            have HF1 := Lib.hid (HFD.out x.unit (-1) x.title _ _ hl1 y5 (by omega) hc1 (by have := HBX.out 0; omega) (by omega) hm1)
            clear hm1 hc1 hx
            go_wp2_with fail
            refine HF1.out.mono ?_
            rintro e w5 ⟨rfl, hg5, hc5⟩
            have hg5' := hg1.trans hg5
            clear z0 z1 z2 zl bR1 y5 yg hl1
            obtain ⟨bR5, bX5, z5', zg5, hl5⟩ := HR.out _ hg5'
            obtain ⟨z0, z1, z2, zl⟩ := KC.out _ bX5
            have q0 : w5.cell? ⟨wr.heap.size, 0, none⟩ = some (.int .i64 x.unit) := (cell_grown hg5 (p := ⟨wr.heap.size, 0, none⟩) (by simp) (by simp; omega)).trans (by simp)
            have hql : wr.heap.size < w5.heap.size := by have := hg5.size; simp at this; omega
            go_wp2_with fail
            refine (HCH.out x.unit _ bR5).mono ?_
            rintro e w6 ⟨vch, rfl, hoc, hb6⟩
            have hol := hoc.own_lt
            have HOC := Lib.hid (hoc.toFlat fctS)
            obtain ⟨Ac, nc, cc, rfl, hnc⟩ := own_form fctS hoc
            have hnc' := hnc.out
            subst hnc'
            have hg6 := hg5'.trans (grown_of_below hb6 (some (w4.heap.size + 1)))
            have hc6 := (hb6.block _ zg5).trans hc5
            have q0 := (hb6.cell (p := ⟨wr.heap.size, 0, none⟩) hql).trans q0
            have hql := Nat.lt_of_lt_of_le hql hb6.size
            have HQ := Lib.hid (fun (W : World) (hW : w6.grownBy W (some (w4.heap.size + 1))) => (⟨(cell_grown hW (p := ⟨wr.heap.size, 0, none⟩) hql (by simp; omega)).trans q0, Nat.lt_of_lt_of_le hql hW.size⟩ : W.cell? ⟨wr.heap.size, 0, none⟩ = some (.int .i64 x.unit) ∧ wr.heap.size < W.heap.size))
            have HSR := Lib.hid (fun (W : World) (hW : w6.grownBy W (some (w4.heap.size + 1))) => HOC.out.frame fctS (fun b hb => hW.block b (hol b hb).2 (fun e => by injection e with e; have := (hol b hb).1; omega)))
            clear z0 z1 z2 zl hoc hnc z5' hl5 g0 g1 g2 g3 g4 g5 hvf
            generalize hCL : chooseR c x.unit s = CL at *
            obtain ⟨wo, rfl⟩ : ∃ wo : World, wo = wr := ⟨_, rfl⟩
            go_wp2
            go_loopw [57] (fun i wr => ∃ j : Nat, j ≤ CL.length ∧ i = .int .i64 j ∧ w6.grownBy wr (some (w4.heap.size + 1)) ∧ wr.heap[w4.heap.size + 1]? = some (cntC (cntS c s (c.sheets.take k) + (wordsF x.title).length + cntF x.unit (CL.take j)))) (fun i _ => CL.length - (intOf i).toNat)
            case atStart => exact ⟨0, Nat.zero_le _, rfl, World.grownBy.refl _ _, hc6⟩
            case round =>
              clear q0 hql
              obtain ⟨j, hj, rfl, hg7, hc7⟩ := hrel
              obtain ⟨q0, hql⟩ := HQ.out _ hg7
              have hgW := hg6.trans hg7
              by_cases hlt2 : j < CL.length
              · obtain ⟨f, hf⟩ := get_at CL hlt2
                have hfs := hcf f (List.mem_of_getElem? hf)
                have hmf := hm2 f (List.mem_of_getElem? hf)
                have hstf := Lib.hid (cntF_step (u := x.unit) hf)
                obtain ⟨bf, offf, rfl, hbf, p0, p1, p2⟩ := Facts.at_ (HSR.out _ hg7) hf
                have hbfw : bf < wr.heap.size := Nat.lt_of_lt_of_le (hol bf hbf).2 hg7.size
                have hji : (j : Int) < (CL.length : Int) := by omega
                have hb8 : Below wr.heap.size wr (wr.alloc (fctO f)) := (Below.refl _ _).alloc (Nat.le_refl _) _
                have hg8 := hgW.trans (grown_of_below hb8 (some (w4.heap.size + 1)))
                obtain ⟨-, -, y5, yg, hl8⟩ := HR.out _ hg8
                have hzg : w4.heap.size + 1 < wr.heap.size := (HR.out _ hgW).2.2.2.1
                have hc8 : (wr.alloc (fctO f)).heap[w4.heap.size + 1]? = some (cntC (cntS c s (c.sheets.take k) + (wordsF x.title).length + cntF x.unit (CL.take j))) := (hb8.block _ hzg).trans hc7
                have HF2 := Lib.hid (HFD.out x.unit f.el f.text _ _ hl8 y5 (by omega) hc8 (by have := HBX.out j; omega) (by omega) hmf)
                have hst2 := hstf.out
                clear hc8 hf hmf
                go_wp2_with fail
                refine HF2.out.mono ?_
                rintro e w9 ⟨rfl, hg9, hc9⟩
                have hgN := (hg7.trans (grown_of_below hb8 (some (w4.heap.size + 1)))).trans hg9
                rw [Nat.add_assoc, ← hst2] at hc9
                clear y5 yg hl8 hst2
                go_wp2
                go_roundw
                case rel => exact ⟨j + 1, by omega, by go_num, hgN, hc9⟩
                case measure => simp [intOf]; omega
              · have hji : ¬ (j : Int) < (CL.length : Int) := by omega
                have hj2 : j = CL.length := by omega
                subst hj2
                rw [List.take_length] at hc7
                rw [← hst.out] at hc7
                go_wp2
                go_roundw
                case rel => exact ⟨k + 1, by omega, by go_num, hgW, hc7⟩
                case measure => simp [intOf]; omega
          · have hki : ¬ (k : Int) < (c.sheets.length : Int) := by omega
            have hk2 : k = c.sheets.length := by omega
            subst hk2
            rw [List.take_length, ← hcnt.out] at hcr
            have s0 : wr.cell? ⟨w4.heap.size + 1, 0, none⟩ = some (.int .i64 (L.length : Int)) := by rw [Lib.cell_of_heap hcr]; rfl
            have hee : ((L.length : Int) == (L.length : Int)) = true := by simp
            have HK := Lib.hid (HCK.out wr (hlr.monoF pstS (fun b hb => hb.1)))
            go_wp2_with fail
            refine HK.out.mono ?_
            rintro e w9 ⟨rfl, hb9⟩
            go_wp2
            go_ret
            exact ⟨rfl, bR.trans (hb9.mono hsR)⟩
      · have he2 : (buildE c s != 0) = true := by simpa using he
        have hnil : buildF c s = [] := build_none he
        rw [hnil]
        simp only [List.length_nil]
        clear he
        go_wp2
        go_ret
        exact ⟨rfl, bW.alloc bW.size _⟩
end Go.Proofs.Ytpfngehledgkiaa
