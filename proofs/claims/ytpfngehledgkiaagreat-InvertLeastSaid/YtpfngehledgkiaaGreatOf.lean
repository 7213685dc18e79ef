/- The program: of. -/
import Derived.Test.YtpfngehledgkiaaGreatPut
import Derived.Test.YtpfngehledgkiaaGreatOfP
import Derived.Test.YtpfngehledgkiaaGreatIxf
import Derived.Test.YtpfngehledgkiaaGreatSoP
namespace Go.Proofs.YtpfngehledgkiaaGreat
open Go.RowKit

theorem of1_c (u : Int) (g : Nat) (x : Sheet) (vf : Value) (hvf : ∃ A n c, vf = .slice A n c) (w : World) (h0 : w.cell? ⟨g, 0, none⟩ = some (.int .i64 u)) (hg : g < w.heap.size) :
    Calls Tryz.prog 90 #[.agg #[.int .i64 x.unit, .int .i64 x.parent, .int .i64 x.level, .string x.mark, .string x.title, vf], .pointer (some ⟨g, 0, none⟩)] w fun e w' => e = .returned (.bool (decide (x.unit = u))) ∧ Below w.heap.size w w' := by
  obtain ⟨A, n, c, rfl⟩ := hvf
  have hb : ∀ o, Below w.heap.size w (w.alloc o) := fun o => (Below.refl _ _).alloc (Nat.le_refl _) o
  have h1 := fun o => (hb o).cell (p := ⟨g, 0, none⟩) hg |>.trans h0
  have HE := Lib.hid (show decide (x.unit = u) = (x.unit == u) by rw [Bool.eq_iff_iff]; simp)
  have h2 := h1 (shtC x (.slice A n c))
  go_enter Tryz.func90, Tryz.ntmps90
  go_wp2
  go_ret
  exact ⟨ret_bool HE.out.symm, hb _⟩
abbrev fctO (f : Fact) : Obj := .cells #[.int .i64 f.el, .string f.lang, .string f.text] 55
set_option maxRecDepth 100000 in
set_option maxHeartbeats 8000000 in
theorem of_c (c : Cat) (s : ByteArray) (u : Int) (v1 v2 v3 : Value) (w : World) (B : Nat) (hB : B ≤ w.heap.size) (h : CatRep w B c v1 v2 v3) (hz : catE c = 0) :
    Calls Tryz.prog 52 #[.agg #[v1, v2, v3], .string s, .int .i64 u] w fun e w' => ∃ v', e = .returned v' ∧ OwnRep 4 (flat Post.enc) 43 w.heap.size w' (ofF c s u) v' ∧ Below w.heap.size w w' := by
  have b1 : Below w.heap.size w ((w.alloc (catC v1 v2 v3)).alloc (.cells #[.int .i64 u] 3)) := ((Below.refl _ _).alloc (Nat.le_refl _) _).alloc (by simp) _
  have hb0 : Below (w.heap.size + 2) ((w.alloc (catC v1 v2 v3)).alloc (.cells #[.int .i64 u] 3)) ((w.alloc (catC v1 v2 v3)).alloc (.cells #[.int .i64 u] 3)) := Below.refl _ _
  have KC := Lib.hid (fun (W : World) (hW : Below (w.heap.size + 2) ((w.alloc (catC v1 v2 v3)).alloc (.cells #[.int .i64 u] 3)) W) => (⟨(hW.cell (p := ⟨w.heap.size, 0, none⟩) (by simp)).trans (by simp), (hW.cell (p := ⟨w.heap.size, 1, none⟩) (by simp)).trans (by simp), (hW.cell (p := ⟨w.heap.size, 2, none⟩) (by simp)).trans (by simp), (hW.cell (p := ⟨w.heap.size + 1, 0, none⟩) (by simp)).trans (by simp), by have := hW.size; simp at this; omega⟩ : W.cell? ⟨w.heap.size, 0, none⟩ = some v1 ∧ W.cell? ⟨w.heap.size, 1, none⟩ = some v2 ∧ W.cell? ⟨w.heap.size, 2, none⟩ = some v3 ∧ W.cell? ⟨w.heap.size + 1, 0, none⟩ = some (.int .i64 u) ∧ w.heap.size + 1 < W.heap.size))
  have HIX := Lib.hid (fun (W : World) (hW : Below (w.heap.size + 2) ((w.alloc (catC v1 v2 v3)).alloc (.cells #[.int .i64 u] 3)) W) => shtIdx1_c 90 (.pointer (some ⟨w.heap.size + 1, 0, none⟩)) (fun x => decide (x.unit = u)) c.sheets v3 W B (Nat.le_trans hB (b1.trans (hW.mono (Nat.le_add_right _ _))).size) (h.sheets.below shtS ((b1.trans (hW.mono (Nat.le_add_right _ _))).mono hB)) (fun _ _ => by kernel_rfl) (fun x vf W' _ hW' hvf _ => by
    obtain ⟨_, _, _, k3, k4⟩ := KC.out _ (hW.trans (hW'.mono (by have := hW.size; simp at this; omega)))
    exact of1_c u (w.heap.size + 1) x vf hvf W' k3 k4))
  rcases idxF_cases (fun x : Sheet => decide (x.unit = u)) c.sheets with ⟨h1, -⟩ | ⟨k, x, h1, h2, -, -⟩
  · have hi : shtIx c.sheets u = -1 := h1
    have HE := Lib.hid (show ofF c s u = [] by unfold ofF; rw [raw_none (by omega)]; rfl)
    rw [h1] at HIX
    clear h1 hi
    obtain ⟨A3, c3, rfl, -⟩ := id h.sheets
    go_enter Tryz.func52, Tryz.ntmps52
    go_wp2_with fail
    refine (HIX.out _ hb0).mono ?_
    rintro e w1 ⟨rfl, hb1⟩
    go_wp2
    go_ret
    exact ⟨_, rfl, by rw [HE.out]; exact OwnRep.nil_, b1.trans (hb1.mono (by simp; omega))⟩
  · have hi : shtIx c.sheets u = (k : Int) := h1
    rw [h1] at HIX
    have hkl := lt_of_at h2
    have hki0 : (0 : Int) ≤ (k : Int) := by omega
    have hki1 : (k : Int) < (c.sheets.length : Int) := by omega
    have hki2 : decide ((k : Int) < 0) = false := by simp
    obtain ⟨hc32, hcm⟩ := chosen_facts (s := s) hz hi h2
    have HRAW := Lib.hid (raw_at (s := s) hi h2)
    have htl := ((catE_zero hz).2.2.2 x (List.mem_of_getElem? h2)).2.1.2.2
    have HCH := Lib.hid (fun (W : World) (hW : Below w.heap.size w W) => Choose_c c u s v1 v2 v3 W B (Nat.le_trans hB hW.size) (h.below (hW.mono hB)))
    obtain ⟨A1, c1, rfl, -⟩ := id h.langs
    obtain ⟨A2, c2, rfl, -⟩ := id h.labels
    obtain ⟨A3, c3, rfl, -⟩ := id h.sheets
    have HX := Lib.hid (fun (W : World) (hW : Below w.heap.size w W) => Sheets.at_ (h.sheets.below shtS (hW.mono hB)) h2)
    have HPT := Lib.hid (fun (W : World) (hW : w.heap.size + 2 ≤ W.heap.size) => put_c [] (.slice none 0 0) u (-1) x.title (w.heap.size + 2) W OwnRep.nil_ hW (by omega) (by simp))
    generalize chooseR c u s = fs at *
    clear h1 hi h2 h
    go_enter Tryz.func52, Tryz.ntmps52
    go_wp2_with fail
    refine (HIX.out _ hb0).mono ?_
    rintro e w1 ⟨rfl, hb1⟩
    have hbX := bnd_call hb0 (by simp) hb1
    obtain ⟨z0, z1, z2, z3, zl⟩ := KC.out _ hbX
    have zl0 := Nat.lt_of_succ_lt zl
    have B1 := b1.trans (hbX.mono (Nat.le_add_right _ 2))
    obtain ⟨b, off, vf, e9, hbB, g0, g1, g2, g3, g4, g5, hvf⟩ := HX.out _ B1
    cases e9
    have hbw : b < w1.heap.size := by have := B1.size; omega
    clear HIX hb1 z0 z1 g0 g1 g2 g3 g5
    have hb1 : Below w1.heap.size w1 w1.drew := (Below.refl _ _).drew
    have KEEP := Lib.hid (fun (W : World) (hW : Below w1.heap.size w1 W) => (⟨(hW.cell (p := ⟨w.heap.size + 1, 0, none⟩) zl).trans z3, (hW.cell (p := ⟨w.heap.size, 2, none⟩) zl0).trans z2, (hW.cell (p := ⟨b, off + k * 6 + 4, none⟩) hbw).trans g4⟩ : W.cell? ⟨w.heap.size + 1, 0, none⟩ = some (.int .i64 u) ∧ W.cell? ⟨w.heap.size, 2, none⟩ = some (.slice (some ⟨b, off, none⟩) c.sheets.length c3) ∧ W.cell? ⟨b, off + k * 6 + 4, none⟩ = some (.string x.title)))
    have hs1 : w.heap.size + 2 ≤ w1.heap.size := by omega
    go_wp2
    go_region_held3 (fun W => W.cell? ⟨w.heap.size + 1, 0, none⟩ = some (.int .i64 u) ∧ W.cell? ⟨w.heap.size, 2, none⟩ = some (.slice (some ⟨b, off, none⟩) c.sheets.length c3) ∧ W.cell? ⟨b, off + k * 6 + 4, none⟩ = some (.string x.title)) (with_reducible exact KEEP.out _ hb1) (first
      | (go_at_call 91; (with_reducible refine (HPT.out _ (Nat.le_trans hs1 hb1.size)).mono ?_); rintro e w2 ⟨vl, rfl, hown2, hg2, -⟩; have hb1 := hb1.trans (below_of_grown hg2 hb1.size (fun j hj => by simp [Value.ownBlock] at hj))))
    have hbX2 := hbX.trans (hb1.mono hs1)
    clear hbX KEEP HPT z2 z3 zl zl0 g4 hbw
    have hs2 := hbX2.size
    simp at hs2
    obtain ⟨z0, z1, z2, z3, zl⟩ := KC.out _ hbX2
    have zl0 := Nat.lt_of_succ_lt zl
    rw [List.nil_append] at hown2
    obtain ⟨Al, nl, cl, rfl, hnl⟩ := own_form pstS hown2
    have hlo := hown2.own_lt
    go_wp2_with fail
    refine (HCH.out _ (b1.trans (hbX2.mono (Nat.le_add_right _ 2)))).mono ?_
    rintro e w3 ⟨vfs, rfl, hown3, hb3⟩
    have hlf := hown3.own_lt
    have HFS := Lib.hid (hown3.toFlat fctS)
    obtain ⟨Af, nf, cf, rfl, hnf⟩ := own_form fctS hown3
    have hbX3 := bnd_call hbX2 (by simp) hb3
    have hs3 := hb3.size
    have hr3 := hown2.below pstS hb3
    have HL0 := Lib.hid (show putF u (-1) x.title = putF u (-1) x.title ++ (fs.take 0).flatMap (fun f => putF u f.el f.text) by simp)
    have HNF := Lib.hid hnf
    rw [hnf.out]
    clear hbX2 hb1 hg2 hb3 hown2 z0 z1 z2 z3 zl zl0 hown3
    go_wp2
    go_loopw [8, 30] (fun s i wr => ∃ (k2 : Nat) (v' : Value), k2 ≤ fs.length ∧ i = .int .i64 k2 ∧ s = v' ∧ OwnRep 4 (flat Post.enc) 43 (w.heap.size + 2) wr (putF u (-1) x.title ++ (fs.take k2).flatMap fun f => putF u f.el f.text) v' ∧ w3.grownBy wr (Value.ownBlock (.slice Al nl cl)) ∧ NewOr w3.heap.size (.slice Al nl cl) v') (fun _ i _ => fs.length - (intOf i).toNat)
    case atStart => exact ⟨0, _, Nat.zero_le _, rfl, rfl, by rw [← HL0.out]; exact hr3, ⟨rfl, rfl, rfl, Nat.le_refl _, fun _ _ _ => rfl⟩, .inl rfl⟩
    case round =>
      clear hr3 HL0
      obtain ⟨k2, v', hk2, rfl, rfl, hr, hg, hnw⟩ := hrel
      have hsr := hg.size
      have hbr := hbX3.trans (below_of_grown hg (by omega) (fun j hj => (hlo j hj).1))
      have hbase : w.heap.size + 2 ≤ wr.heap.size := by omega
      have hro := hr.own_lt
      have hlen : (putF u (-1) x.title ++ (fs.take k2).flatMap fun f => putF u f.el f.text).length ≤ 1000000 := by
        rw [List.length_append]
        have := putF_len u (-1) x.title
        have := flat_len (m := 4096) (fun f : Fact => putF u f.el f.text) (fs.take k2) (fun f hf => Nat.le_trans (putF_len _ _ _) (hcm f (List.take_subset _ _ hf)).2.2.2)
        rw [List.length_take] at this
        have : min k2 fs.length * 4096 ≤ 32 * 4096 := Nat.mul_le_mul_right _ (by omega)
        omega
      obtain ⟨z0, z1, z2, z3, zl⟩ := KC.out _ hbr
      obtain ⟨As, ns, cs, rfl, hns⟩ := own_form pstS hr
      by_cases hlt : k2 < fs.length
      · obtain ⟨f, hf⟩ := get_at fs hlt
        have HT := Lib.hid (show (fs.take (k2 + 1)).flatMap (fun f => putF u f.el f.text) = (fs.take k2).flatMap (fun f => putF u f.el f.text) ++ putF u f.el f.text by rw [take_at hf, List.flatMap_append]; simp)
        have hft := (hcm f (List.mem_of_getElem? hf)).2.2.2
        have hsf : SlRep 3 (flat Fact.enc) wr (fun b => Value.ownBlock (.slice Af nf cf) = some b) fs (.slice Af nf cf) := HFS.out.frame fctS (fun b' hb' => hg.block b' (hlf b' hb').2 (fun e => by
          have := (hlf b' hb').1
          have := (hlo b' e.symm).2
          omega))
        rw [HNF.out] at hsf
        obtain ⟨bf, of_, rfl, hbF, q0, q1, q2⟩ := Facts.at_ hsf hf
        have hbw : bf < wr.heap.size := by
          have := (hlf bf hbF).2
          omega
        have hki : (k2 : Int) < (fs.length : Int) := by omega
        have hbx : Below wr.heap.size wr (wr.alloc (fctO f)) := (Below.refl _ _).alloc (Nat.le_refl _) _
        have zx := (hbx.cell (p := ⟨w.heap.size + 1, 0, none⟩) zl).trans z3
        have HPU := Lib.hid (put_c _ (.slice As ns cs) u f.el f.text (w.heap.size + 2) (wr.alloc (fctO f)) (hr.below pstS hbx) (Nat.le_trans hbase hbx.size) (by omega) hlen)
        clear hf
        go_wp2_with fail
        refine HPU.out.mono ?_
        rintro e w5 ⟨v5, rfl, hown5, hg5, hnw5⟩
        have hg6 : wr.grownBy w5 (Value.ownBlock (.slice As ns cs)) := (grown_of_below hbx _).andThen hg5 (fun j hj => .inr hj)
        have hnw6 : NewOr wr.heap.size (.slice As ns cs) v5 := hnw5.mono (by simp)
        have hga : w3.grownBy w5 (Value.ownBlock (.slice Al nl cl)) := hnw.row hg hg6
        have hnw7 : NewOr w3.heap.size (.slice Al nl cl) v5 := hnw.both (hnw6.mono hsr)
        rw [List.append_assoc, ← HT.out] at hown5
        obtain ⟨A5, n5, c5, rfl, hn5⟩ := own_form pstS hown5
        clear hr HT HPU hlen hns
        go_wp2
        go_roundw
        case rel => exact ⟨k2 + 1, _, by omega, by go_num, rfl, hown5, hga, hnw7⟩
        case measure => simp [intOf]; omega
      · have HE := Lib.hid (show putF u (-1) x.title ++ (fs.take k2).flatMap (fun f => putF u f.el f.text) = rawF c s u by rw [HRAW.out, List.take_of_length_le (by omega)])
        rw [HE.out] at hr
        rw [HE.out] at hlen
        have HSO := Lib.hid (sortPosts_c (rawF c s u) (.slice As ns cs) (w.heap.size + 2) wr hr (by omega))
        have hbB := b1.trans (hbr.mono (Nat.le_add_right _ 2))
        clear HE
        go_wp2_with fail
        refine HSO.out.mono ?_
        rintro e w5 ⟨rfl, hown5, hg5⟩
        have hb5 := hbB.trans (below_of_grown hg5 hbB.size (fun j hj => by have := (hro j hj).1; omega))
        go_wp2
        go_ret
        exact ⟨_, rfl, hown5.base_le (Nat.le_add_right _ 2), hb5⟩
end Go.Proofs.YtpfngehledgkiaaGreat
