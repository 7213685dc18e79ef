/- The program: of. The program: Clone, Equal at postings; Concat at sheets; merged. The program: merged. -/
import Derived.Test.YtngodakkdhdmjaaGreatDoorPus
import Derived.Test.YtngodakkdhdmjaaGreatDoorOfs
import Derived.Test.YtngodakkdhdmjaaGreatDoorIxs
import Derived.Test.YtngodakkdhdmjaaGreatDoorSos
import Derived.Deep.RegionLaw
import Derived.Laws.MakeOwn
namespace Go.Proofs.YtngodakkdhdmjaaGreatDoor
section
open Go.RowKit

theorem of1_c (u : Int) (g : Nat) (x : Sheet) (vf : Value) (hvf : ∃ A n c, vf = .slice A n c) (w : World) (h0 : w.cell? ⟨g, 0, none⟩ = some (.int .i64 u)) (hg : g < w.heap.size) :
    Calls Tryz.prog 96 #[.agg #[.int .i64 x.unit, .int .i64 x.parent, .int .i64 x.level, .string x.mark, .string x.title, vf], .pointer (some ⟨g, 0, none⟩)] w fun e w' => e = .returned (.bool (decide (x.unit = u))) ∧ Below w.heap.size w w' := by
  obtain ⟨A, n, c, rfl⟩ := hvf
  have hb : ∀ o, Below w.heap.size w (w.alloc o) := fun o => (Below.refl _ _).alloc (Nat.le_refl _) o
  have h1 := fun o => (hb o).cell (p := ⟨g, 0, none⟩) hg |>.trans h0
  have HE := Lib.hid (show decide (x.unit = u) = (x.unit == u) by rw [Bool.eq_iff_iff]; simp)
  have h2 := h1 (shtC x (.slice A n c))
  go_enter Tryz.func96, Tryz.ntmps96
  go_wp2
  go_ret
  exact ⟨ret_bool HE.out.symm, hb _⟩
abbrev fctO (f : Fact) : Obj := .cells #[.int .i64 f.el, .string f.lang, .string f.text] 93
set_option maxRecDepth 100000 in
set_option maxHeartbeats 8000000 in
theorem of_c (c : Cat) (s : ByteArray) (u : Int) (v1 v2 v3 : Value) (w : World) (B : Nat) (hB : B ≤ w.heap.size) (h : CatRep w B c v1 v2 v3) (hz : catE c = 0) :
    Calls Tryz.prog 57 #[.agg #[v1, v2, v3], .string s, .int .i64 u] w fun e w' => ∃ v', e = .returned v' ∧ OwnRep 4 (flat Post.enc) 36 w.heap.size w' (ofF c s u) v' ∧ Below w.heap.size w w' := by
  have b1 : Below w.heap.size w ((w.alloc (catC v1 v2 v3)).alloc (.cells #[.int .i64 u] 3)) := ((Below.refl _ _).alloc (Nat.le_refl _) _).alloc (by simp) _
  have hb0 : Below (w.heap.size + 2) ((w.alloc (catC v1 v2 v3)).alloc (.cells #[.int .i64 u] 3)) ((w.alloc (catC v1 v2 v3)).alloc (.cells #[.int .i64 u] 3)) := Below.refl _ _
  have KC := Lib.hid (fun (W : World) (hW : Below (w.heap.size + 2) ((w.alloc (catC v1 v2 v3)).alloc (.cells #[.int .i64 u] 3)) W) => (⟨(hW.cell (p := ⟨w.heap.size, 0, none⟩) (by simp)).trans (by simp), (hW.cell (p := ⟨w.heap.size, 1, none⟩) (by simp)).trans (by simp), (hW.cell (p := ⟨w.heap.size, 2, none⟩) (by simp)).trans (by simp), (hW.cell (p := ⟨w.heap.size + 1, 0, none⟩) (by simp)).trans (by simp), by have := hW.size; simp at this; omega⟩ : W.cell? ⟨w.heap.size, 0, none⟩ = some v1 ∧ W.cell? ⟨w.heap.size, 1, none⟩ = some v2 ∧ W.cell? ⟨w.heap.size, 2, none⟩ = some v3 ∧ W.cell? ⟨w.heap.size + 1, 0, none⟩ = some (.int .i64 u) ∧ w.heap.size + 1 < W.heap.size))
  have HIX := Lib.hid (fun (W : World) (hW : Below (w.heap.size + 2) ((w.alloc (catC v1 v2 v3)).alloc (.cells #[.int .i64 u] 3)) W) => shtIdx1_c 96 (.pointer (some ⟨w.heap.size + 1, 0, none⟩)) (fun x => decide (x.unit = u)) c.sheets v3 W B (Nat.le_trans hB (b1.trans (hW.mono (Nat.le_add_right _ _))).size) (h.sheets.below shtS ((b1.trans (hW.mono (Nat.le_add_right _ _))).mono hB)) (fun _ _ => by kernel_rfl) (fun x vf W' _ hW' hvf _ => by
    obtain ⟨_, _, _, k3, k4⟩ := KC.out _ (hW.trans (hW'.mono (by have := hW.size; simp at this; omega)))
    exact of1_c u (w.heap.size + 1) x vf hvf W' k3 k4))
  rcases idxF_cases (fun x : Sheet => decide (x.unit = u)) c.sheets with ⟨h1, -⟩ | ⟨k, x, h1, h2, -, -⟩
  · have hi : shtIx c.sheets u = -1 := h1
    have HE := Lib.hid (show ofF c s u = [] by unfold ofF; rw [raw_none (by omega)]; rfl)
    rw [h1] at HIX
    clear h1 hi
    obtain ⟨A3, c3, rfl, -⟩ := id h.sheets
    go_enter Tryz.func57, Tryz.ntmps57
    go_wp2_with fail
    refine (HIX.out _ hb0).mono ?_
    rintro e w1 ⟨rfl, hb1⟩
    go_wp2
    go_ret
    exact ⟨_, rfl, by rw [HE.out]; exact OwnRep.nil_, b1.trans (hb1.mono (by simp; omega))⟩
  · have hi : shtIx c.sheets u = (k : Int) := h1
    rw [h1] at HIX
    have hkl := lt_of_at h2
    have hki0 : (0 : Int) ≤ (k : Int) := by omega
    have hki1 : (k : Int) < (c.sheets.length : Int) := by omega
    have hki2 : decide ((k : Int) < 0) = false := by simp
    obtain ⟨hc32, hcm⟩ := chosen_facts (s := s) hz hi h2
    have HRAW := Lib.hid (raw_at (s := s) hi h2)
    have htl := ((catE_zero hz).2.2.2 x (List.mem_of_getElem? h2)).2.1.2.2
    have HCH := Lib.hid (fun (W : World) (hW : Below w.heap.size w W) => Choose_c c u s v1 v2 v3 W B (Nat.le_trans hB hW.size) (h.below (hW.mono hB)))
    obtain ⟨A1, c1, rfl, -⟩ := id h.langs
    obtain ⟨A2, c2, rfl, -⟩ := id h.labels
    obtain ⟨A3, c3, rfl, -⟩ := id h.sheets
    have HX := Lib.hid (fun (W : World) (hW : Below w.heap.size w W) => Sheets.at_ (h.sheets.below shtS (hW.mono hB)) h2)
    have HPT := Lib.hid (fun (W : World) (hW : w.heap.size + 2 ≤ W.heap.size) => put_c [] (.slice none 0 0) u (-1) x.title (w.heap.size + 2) W OwnRep.nil_ hW (by omega) (by simp))
    generalize chooseR c u s = fs at *
    clear h1 hi h2 h
    go_enter Tryz.func57, Tryz.ntmps57
    go_wp2_with fail
    refine (HIX.out _ hb0).mono ?_
    rintro e w1 ⟨rfl, hb1⟩
    have hbX := bnd_call hb0 (by simp) hb1
    obtain ⟨z0, z1, z2, z3, zl⟩ := KC.out _ hbX
    have zl0 := Nat.lt_of_succ_lt zl
    have B1 := b1.trans (hbX.mono (Nat.le_add_right _ 2))
    obtain ⟨b, off, vf, e9, hbB, g0, g1, g2, g3, g4, g5, hvf⟩ := HX.out _ B1
    cases e9
    have hbw : b < w1.heap.size := by have := B1.size; omega
    clear HIX hb1 z0 z1 g0 g1 g2 g3 g5
    have hb1 : Below w1.heap.size w1 w1.drew := (Below.refl _ _).drew
    have KEEP := Lib.hid (fun (W : World) (hW : Below w1.heap.size w1 W) => (⟨(hW.cell (p := ⟨w.heap.size + 1, 0, none⟩) zl).trans z3, (hW.cell (p := ⟨w.heap.size, 2, none⟩) zl0).trans z2, (hW.cell (p := ⟨b, off + k * 6 + 4, none⟩) hbw).trans g4⟩ : W.cell? ⟨w.heap.size + 1, 0, none⟩ = some (.int .i64 u) ∧ W.cell? ⟨w.heap.size, 2, none⟩ = some (.slice (some ⟨b, off, none⟩) c.sheets.length c3) ∧ W.cell? ⟨b, off + k * 6 + 4, none⟩ = some (.string x.title)))
    have hs1 : w.heap.size + 2 ≤ w1.heap.size := by omega
    go_wp2
    go_region_held3 (fun W => W.cell? ⟨w.heap.size + 1, 0, none⟩ = some (.int .i64 u) ∧ W.cell? ⟨w.heap.size, 2, none⟩ = some (.slice (some ⟨b, off, none⟩) c.sheets.length c3) ∧ W.cell? ⟨b, off + k * 6 + 4, none⟩ = some (.string x.title)) (with_reducible exact KEEP.out _ hb1) (first
      | (go_at_call 97; (with_reducible refine (HPT.out _ (Nat.le_trans hs1 hb1.size)).mono ?_); rintro e w2 ⟨vl, rfl, hown2, hg2, -⟩; have hb1 := hb1.trans (below_of_grown hg2 hb1.size (fun j hj => by simp [Value.ownBlock] at hj))))
    have hbX2 := hbX.trans (hb1.mono hs1)
    clear hbX KEEP HPT z2 z3 zl zl0 g4 hbw
    have hs2 := hbX2.size
    simp at hs2
    obtain ⟨z0, z1, z2, z3, zl⟩ := KC.out _ hbX2
    have zl0 := Nat.lt_of_succ_lt zl
    rw [List.nil_append] at hown2
    obtain ⟨Al, nl, cl, rfl, hnl⟩ := own_form pstS hown2
    have hlo := hown2.own_lt
    go_wp2_with fail
    refine (HCH.out _ (b1.trans (hbX2.mono (Nat.le_add_right _ 2)))).mono ?_
    rintro e w3 ⟨vfs, rfl, hown3, hb3⟩
    have hlf := hown3.own_lt
    have HFS := Lib.hid (hown3.toFlat fctS)
    obtain ⟨Af, nf, cf, rfl, hnf⟩ := own_form fctS hown3
    have hbX3 := bnd_call hbX2 (by simp) hb3
    have hs3 := hb3.size
    have hr3 := hown2.below pstS hb3
    have HL0 := Lib.hid (show putF u (-1) x.title = putF u (-1) x.title ++ (fs.take 0).flatMap (fun f => putF u f.el f.text) by simp)
    have HNF := Lib.hid hnf
    rw [hnf.out]
    clear hbX2 hb1 hg2 hb3 hown2 z0 z1 z2 z3 zl zl0 hown3
    go_wp2
    go_loopw [8, 30] (fun s i wr => ∃ (k2 : Nat) (v' : Value), k2 ≤ fs.length ∧ i = .int .i64 k2 ∧ s = v' ∧ OwnRep 4 (flat Post.enc) 36 (w.heap.size + 2) wr (putF u (-1) x.title ++ (fs.take k2).flatMap fun f => putF u f.el f.text) v' ∧ w3.grownBy wr (Value.ownBlock (.slice Al nl cl)) ∧ NewOr w3.heap.size (.slice Al nl cl) v') (fun _ i _ => fs.length - (intOf i).toNat)
    case atStart => exact ⟨0, _, Nat.zero_le _, rfl, rfl, by rw [← HL0.out]; exact hr3, ⟨rfl, rfl, rfl, Nat.le_refl _, fun _ _ _ => rfl⟩, .inl rfl⟩
    case round =>
      clear hr3 HL0
      obtain ⟨k2, v', hk2, rfl, rfl, hr, hg, hnw⟩ := hrel
      have hsr := hg.size
      have hbr := hbX3.trans (below_of_grown hg (by omega) (fun j hj => (hlo j hj).1))
      have hbase : w.heap.size + 2 ≤ wr.heap.size := by omega
      have hro := hr.own_lt
      have hlen : (putF u (-1) x.title ++ (fs.take k2).flatMap fun f => putF u f.el f.text).length ≤ 1000000 := by
        rw [List.length_append]
        have := putF_len u (-1) x.title
        have := flat_len (m := 4096) (fun f : Fact => putF u f.el f.text) (fs.take k2) (fun f hf => Nat.le_trans (putF_len _ _ _) (hcm f (List.take_subset _ _ hf)).2.2.2)
        rw [List.length_take] at this
        have : min k2 fs.length * 4096 ≤ 32 * 4096 := Nat.mul_le_mul_right _ (by omega)
        omega
      obtain ⟨z0, z1, z2, z3, zl⟩ := KC.out _ hbr
      obtain ⟨As, ns, cs, rfl, hns⟩ := own_form pstS hr
      by_cases hlt : k2 < fs.length
      · obtain ⟨f, hf⟩ := get_at fs hlt
        have HT := Lib.hid (show (fs.take (k2 + 1)).flatMap (fun f => putF u f.el f.text) = (fs.take k2).flatMap (fun f => putF u f.el f.text) ++ putF u f.el f.text by rw [take_at hf, List.flatMap_append]; simp)
        have hft := (hcm f (List.mem_of_getElem? hf)).2.2.2
        have hsf : SlRep 3 (flat Fact.enc) wr (fun b => Value.ownBlock (.slice Af nf cf) = some b) fs (.slice Af nf cf) := HFS.out.frame fctS (fun b' hb' => hg.block b' (hlf b' hb').2 (fun e => by
          have := (hlf b' hb').1
          have := (hlo b' e.symm).2
          omega))
        rw [HNF.out] at hsf
        obtain ⟨bf, of_, rfl, hbF, q0, q1, q2⟩ := Facts.at_ hsf hf
        have hbw : bf < wr.heap.size := by
          have := (hlf bf hbF).2
          omega
        have hki : (k2 : Int) < (fs.length : Int) := by omega
        have hbx : Below wr.heap.size wr (wr.alloc (fctO f)) := (Below.refl _ _).alloc (Nat.le_refl _) _
        have zx := (hbx.cell (p := ⟨w.heap.size + 1, 0, none⟩) zl).trans z3
        have HPU := Lib.hid (put_c _ (.slice As ns cs) u f.el f.text (w.heap.size + 2) (wr.alloc (fctO f)) (hr.below pstS hbx) (Nat.le_trans hbase hbx.size) (by omega) hlen)
        clear hf
        go_wp2_with fail
        refine HPU.out.mono ?_
        rintro e w5 ⟨v5, rfl, hown5, hg5, hnw5⟩
        have hg6 : wr.grownBy w5 (Value.ownBlock (.slice As ns cs)) := (grown_of_below hbx _).andThen hg5 (fun j hj => .inr hj)
        have hnw6 : NewOr wr.heap.size (.slice As ns cs) v5 := hnw5.mono (by simp)
        have hga : w3.grownBy w5 (Value.ownBlock (.slice Al nl cl)) := hnw.row hg hg6
        have hnw7 : NewOr w3.heap.size (.slice Al nl cl) v5 := hnw.both (hnw6.mono hsr)
        rw [List.append_assoc, ← HT.out] at hown5
        obtain ⟨A5, n5, c5, rfl, hn5⟩ := own_form pstS hown5
        clear hr HT HPU hlen hns
        go_wp2
        go_roundw
        case rel => exact ⟨k2 + 1, _, by omega, by go_num, rfl, hown5, hga, hnw7⟩
        case measure => simp [intOf]; omega
      · have HE := Lib.hid (show putF u (-1) x.title ++ (fs.take k2).flatMap (fun f => putF u f.el f.text) = rawF c s u by rw [HRAW.out, List.take_of_length_le (by omega)])
        rw [HE.out] at hr
        rw [HE.out] at hlen
        have HSO := Lib.hid (sortPosts_c (rawF c s u) (.slice As ns cs) (w.heap.size + 2) wr hr (by omega))
        have hbB := b1.trans (hbr.mono (Nat.le_add_right _ 2))
        clear HE
        go_wp2_with fail
        refine HSO.out.mono ?_
        rintro e w5 ⟨rfl, hown5, hg5⟩
        have hb5 := hbB.trans (below_of_grown hg5 hbB.size (fun j hj => by have := (hro j hj).1; omega))
        go_wp2
        go_ret
        exact ⟨_, rfl, hown5.base_le (Nat.le_add_right _ 2), hb5⟩
end
section
open Go.RowKit

set_option maxHeartbeats 1000000 in
theorem clonePosts_c (xs : List Post) (v : Value) (w : World) (B : Nat) (hB : B ≤ w.heap.size) (h : SlRep 4 (flat Post.enc) w (fun b => b < B) xs v) (hn : xs.length ≤ 100000) :
    Calls Tryz.prog 16 #[v] w fun e w' => ∃ v', e = .returned v' ∧ OwnRep 4 (flat Post.enc) 36 w.heap.size w' xs v' ∧ Below w.heap.size w w' := by
  obtain ⟨A, c, rfl, hc1, hc2, _⟩ := id h
  have HN := Lib.hid hn
  clear hn
  rcases A with _ | ad
  · obtain ⟨rfl, -⟩ := h.none_nil
    clear h
    have hq := fun (W : World) => Lib.run_eql_slice_nil (P := Tryz.prog) W 23 36 none 0 c 0 0 Tryz.underlying23
    go_enter Tryz.func16, Tryz.ntmps16
    go_wp2
    go_ret
    exact ⟨_, rfl, OwnRep.nil_, Below.refl _ _⟩
  · have hq := fun (W : World) => Lib.run_eql_slice_nil (P := Tryz.prog) W 23 36 (some ad) xs.length c 0 0 Tryz.underlying23
    go_enter Tryz.func16, Tryz.ntmps16
    go_wp2_with (at_builtin; refine stop_intro ?_)
    refine stop_elim ?_
    refine wpList_append_rep rfl pstS pstE_ w.heap.size (.tmp 5) (.tmp 6) rfl rfl (OwnRep.empty_new ?hg ?hb) rfl (ys := xs) (F := fun b => b < B) ?src ?F ?n (by decide) ?hbase ?_
    case hb => exact Nat.le_refl _
    case hg => rfl
    case src => exact h.below pstS ((Below.refl _ _).alloc hB _)
    case F => intro b' (hb' : b' < B); exact ⟨by simp only [World.size_alloc]; omega, show some w.heap.size ≠ some b' by simp; omega⟩
    case hbase => simp only [World.size_alloc]; omega
    case n => have hn := HN.out; simp; omega
    intro v1 w1 hown1 hg1 hat1
    rw [List.nil_append] at hown1
    change World.grownBy _ w1 (some w.heap.size) at hg1
    have hb1 : Below w.heap.size w w1 := ((Below.refl _ _).alloc (Nat.le_refl _) _).grown hg1 (by simp only [World.size_alloc]; omega) (fun k hk => by injection hk; omega)
    go_wp2
    go_ret
    exact ⟨_, rfl, hown1, hb1⟩

def eqPost (x y : Post) : Bool := decide (x.word = y.word) && decide (x.unit = y.unit) && decide (x.field = y.field) && decide (x.place = y.place)
theorem eqPost_iff (x y : Post) : eqPost x y = true ↔ x = y := by
  cases x; cases y
  simp [eqPost, and_assoc]
theorem Post.neq (x y : Post) (w : World) : (binOp .neq 36 (.agg #[.string x.word, .int .i64 x.unit, .int .i64 x.field, .int .i64 x.place]) (.agg #[.string y.word, .int .i64 y.unit, .int .i64 y.field, .int .i64 y.place])).run Tryz.prog w = .ok (.bool (!eqPost x y)) w := by
  have hs : ∀ (d : Nat) (xs ys : Array Value), (Op.equalIn (d + 1) 36 (.agg xs) (.agg ys)).run Tryz.prog w = (Op.eqFields d xs ys (Tryz.prog.fieldsOf 36).toList).run Tryz.prog w := fun d xs ys => run_equalIn_struct w d 36 xs ys (by kernel_rfl) (by kernel_rfl)
  simp only [binOp]
  simp [Op.equal, Op.maxDepth, hs 9999, Program.fieldsOf, Tryz.underlying36, go_sem, eqPost, str_eq]
  by_cases h0 : x.word = y.word <;> by_cases h1 : x.unit = y.unit <;> by_cases h2 : x.field = y.field <;> by_cases h3 : x.place = y.place <;> simp [h0, h1, h2, h3]
set_option maxHeartbeats 2000000 in
theorem equalPosts_c (xs ys : List Post) (v v' : Value) (w : World) (B : Nat) (hB : B ≤ w.heap.size) (h : SlRep 4 (flat Post.enc) w (fun b => b < B) xs v) (h' : SlRep 4 (flat Post.enc) w (fun b => b < B) ys v') :
    Calls Tryz.prog 38 #[v, v'] w fun e w' => e = .returned (.bool (eqL eqPost xs ys)) ∧ ∃ n, w' = w.drewN n := by
  obtain ⟨A, c, rfl, hc1, hc2, _⟩ := id h
  obtain ⟨A', c', rfl, hd1, hd2, _⟩ := id h'
  by_cases hl : xs.length = ys.length
  · have HL := Lib.hid hl
    have hl1 : ((xs.length : Int) != (ys.length : Int)) = false := by simp [hl]
    have hl2 : ((xs.length : Int) == (ys.length : Int)) = true := by simp [hl]
    have hl3 : (xs.length : Int) ≤ ys.length := by omega
    clear hl
    have HF := Lib.hid (show eqL eqPost xs ys = eqL eqPost (xs.drop 0) (ys.drop 0) from rfl)
    go_enter Tryz.func38, Tryz.ntmps38
    go_wp2
    go_loopw [13] (fun i wr => ∃ k : Nat, k ≤ xs.length ∧ i = .int .i64 k ∧ Hid (eqL eqPost xs ys = eqL eqPost (xs.drop k) (ys.drop k)) ∧ ∃ n, wr = w.drewN n) (fun i _ => xs.length - (intOf i).toNat)
    case atStart => exact ⟨0, Nat.zero_le _, rfl, HF, 0, rfl⟩
    case round =>
      obtain ⟨k, hk, rfl, HS, nd, rfl⟩ := hrel
      clear HF
      by_cases hlt : k < xs.length
      · have hlt' : k < ys.length := by have := HL.out; omega
        obtain ⟨x, hx⟩ := get_at xs hlt
        obtain ⟨y, hy⟩ := get_at ys hlt'
        have HD := Lib.hid (drop_at hx)
        have HD' := Lib.hid (drop_at hy)
        obtain ⟨b, off, rfl, hbB, g0, g1, g2, g3⟩ := Posts.at_ h hx
        obtain ⟨b', off', rfl, hbB', q0, q1, q2, q3⟩ := Posts.at_ h' hy
        have hbw : b < w.heap.size := by have : b < B := hbB; omega
        have hbw' : b' < w.heap.size := by have : b' < B := hbB'; omega
        clear hx hy hl1 hl2
        have hne := fun W : World => Post.neq x y W
        cases he : eqPost x y
        · have HE := Lib.hid (show eqL eqPost xs ys = false by rw [HS.out, HD.out, HD'.out]; simp [eqL, he])
          rw [he] at hne; simp only [Bool.not_false] at hne
          clear he
          go_wp2
          go_quiet (fail)
          go_wp2
          go_ret
          exact ⟨ret_bool HE.out.symm, _, World.drewN_drewN _ _ _⟩
        · have HE := Lib.hid (show eqL eqPost xs ys = eqL eqPost (xs.drop (k + 1)) (ys.drop (k + 1)) by rw [HS.out, HD.out, HD'.out]; simp [eqL, he])
          rw [he] at hne; simp only [Bool.not_true] at hne
          clear he
          go_wp2
          go_quiet (fail)
          go_wp2
          go_roundw
          case rel => exact ⟨k + 1, by omega, by go_num, HE, _, rfl⟩
          case measure => simp [intOf]; omega
      · go_wp2
        go_ret
        exact ⟨ret_bool (by rw [HS.out, List.drop_of_length_le (by omega), List.drop_of_length_le (by have := HL.out; omega)]; rfl), _, rfl⟩
  · have HE := Lib.hid (eqL_len eqPost xs ys hl)
    have hl1 : ((xs.length : Int) != (ys.length : Int)) = true := by simpa using fun h => hl (by omega)
    have hl2 : ((xs.length : Int) == (ys.length : Int)) = false := by simpa using fun h => hl (by omega)
    go_enter Tryz.func38, Tryz.ntmps38
    go_wp2
    go_ret
    exact ⟨ret_bool HE.out.symm, 0, rfl⟩
/-- slices.Grow of the nil slice -/
theorem growNil_c (n : Nat) (w : World) (hn : n ≤ 2000) :
    Calls Tryz.prog 118 #[.slice none 0 0, .int .i64 n] w fun e w' => ∃ v, e = .returned v ∧ OwnRep 6 shtR 59 w.heap.size w' ([] : List Sheet) v ∧ Below w.heap.size w w' := by
  by_cases h0 : n = 0
  · subst h0
    have hc := Any8.slices_Grow_room Tryz.growSht none 0 0 0 w (Nat.le_refl _) (by omega) (by omega) (Nat.le_refl _)
    change Calls Tryz.prog 118 _ _ _ at hc
    refine hc.mono ?_
    rintro e w' ⟨rfl, rfl⟩
    exact ⟨_, rfl, OwnRep.nil_, Below.refl _ _⟩
  · obtain ⟨i, h1, h2, h3, h4⟩ := info_parts (P := Tryz.prog) (e := 59) (z := .agg #[.int .i64 0, .int .i64 0, .int .i64 0, .string ⟨#[]⟩, .string ⟨#[]⟩, .slice none 0 0]) (size := 6) (bytes := 80) (by kernel_rfl)
    have hc := Any8.slices_Grow_grow Tryz.growSht i _ h1 h2 (by rw [h3]; omega) none 0 0 n [] w (Nat.le_refl _) (by omega) (by rw [h4]; omega) (by omega) (by simp) (fun _ => rfl) (fun a ha => by cases ha)
    change Calls Tryz.prog 118 _ _ _ at hc
    refine hc.mono ?_
    rintro e w' ⟨rfl, rfl⟩
    refine ⟨_, rfl, ?_, ((Below.refl _ _).drew).alloc (Nat.le_refl _) _⟩
    have hG := grownCap_ge w (0 + n) 0 (Tryz.growSht_ren.t 25)
    have hM := grownCap_le_maxLen w (0 + n) 0 (Tryz.growSht_ren.t 25) (by unfold maxLen; omega)
    refine ⟨[], rfl, fun j x cs hx => by simp at hx, by simp, .inr ⟨w.heap.size, _, _, rfl, Nat.le_refl _, by show (w.heap.push _)[w.heap.size]? = _; exact Array.getElem?_push_size, Nat.zero_le _, hM, ?_, by simp⟩⟩
    simp only [Array.size_append, size_zeroCells, List.size_toArray, List.length_nil]
    generalize grownCap w (0 + n) 0 (Tryz.growSht_ren.t 25) = G at *
    have : (Value.cells (.agg #[.int .i64 0, .int .i64 0, .int .i64 0, .string ⟨#[]⟩, .string ⟨#[]⟩, .slice none 0 0])).size = 6 := rfl
    rw [this]
    omega
set_option maxRecDepth 100000 in
set_option maxHeartbeats 4000000 in
/-- slices.Concat of two lists of sheets -/
theorem concatSh_c (xs ys : List Sheet) (v v' : Value) (g : Nat) (w : World) (B : Nat) (hB : B ≤ w.heap.size) (h : Sheets w B xs v) (h' : Sheets w B ys v') (hn : xs.length ≤ 1000) (hm : ys.length ≤ 1000) (z0 : w.cell? ⟨g, 0, none⟩ = some v) (z1 : w.cell? ⟨g, 1, none⟩ = some v') :
    Calls Tryz.prog 80 #[.slice (some ⟨g, 0, none⟩) 2 2] w fun e w' => ∃ v', e = .returned v' ∧ OwnRep 6 shtR 59 w.heap.size w' (xs ++ ys) v' ∧ Below w.heap.size w w' := by
  obtain ⟨A, c, rfl, hc1, hc2, _⟩ := id h
  obtain ⟨A', c', rfl, hd1, hd2, _⟩ := id h'
  have hgl := World.block_lt_of_cell? w ⟨g, 0, none⟩ z0
  have hq1 : ¬ ((xs.length : Int) < 0) := by omega
  have hq2 : ¬ ((xs.length : Int) + (ys.length : Int) < 0) := by omega
  have hw2 : IntKind.i64.wrap ((xs.length : Int) + (ys.length : Int)) = (xs.length : Int) + (ys.length : Int) := IntWalk.i64_in _ (by omega)
  have HG := Lib.hid (growNil_c (xs.length + ys.length) w (by omega))
  go_enter Tryz.func80, Tryz.ntmps80
  go_wp2
  refine wp_loop_rounds 3 ?_
  rw [rounds_succ]
  go_wp2_with fail
  rw [rounds_succ]
  go_wp2_with fail
  rw [rounds_succ]
  go_wp2_with fail
  refine HG.out.mono ?_
  rintro e w1 ⟨vg, rfl, hown, hb1⟩
  have y0 := (hb1.cell (p := ⟨g, 0, none⟩) hgl).trans z0
  have y1 := (hb1.cell (p := ⟨g, 1, none⟩) hgl).trans z1
  have yl := Nat.lt_of_lt_of_le hgl hb1.size
  have hlo := hown.own_lt
  have hs1 := hb1.size
  obtain ⟨Ag, ng, cg, rfl, hng⟩ := own_form shtS hown
  go_wp2
  refine wp_loop_rounds 3 ?_
  rw [rounds_succ]
  go_wp2_with (at_builtin; refine stop_intro ?_)
  refine stop_elim ?_
  refine wpList_append_rep rfl shtS shtE_ w.heap.size (.tmp 31) (.tmp 32) rfl rfl hown rfl (ys := xs) (h.below shtS (hb1.mono hB)) (fun b (hb : b < B) => ⟨by omega, fun e => by have := (hlo b e).1; omega⟩) (by simp; omega) (by decide) hs1 ?_
  intro v2 w2 hown2 hg2 hat2
  have hb2 := hb1.grown hg2 hs1 (fun j hj => (hlo j hj).1)
  have y0 := (hb2.cell (p := ⟨g, 0, none⟩) hgl).trans z0
  have y1 := (hb2.cell (p := ⟨g, 1, none⟩) hgl).trans z1
  have yl := Nat.lt_of_lt_of_le hgl hb2.size
  have hlo2 := hown2.own_lt
  have hs2 := hb2.size
  rw [List.nil_append] at hown2
  obtain ⟨Ah, nh, ch, rfl, hnh⟩ := own_form shtS hown2
  go_wp2
  rw [rounds_succ]
  go_wp2_with (at_builtin; refine stop_intro ?_)
  refine stop_elim ?_
  refine wpList_append_rep rfl shtS shtE_ w.heap.size (.tmp 31) (.tmp 32) rfl rfl hown2 rfl (ys := ys) (h'.below shtS (hb2.mono hB)) (fun b (hb : b < B) => ⟨by omega, fun e => by have := (hlo2 b e).1; omega⟩) (by omega) (by decide) hs2 ?_
  intro v3 w3 hown3 hg3 hat3
  have hb3 := hb2.grown hg3 hs2 (fun j hj => (hlo2 j hj).1)
  obtain ⟨Ai, ni, ci, rfl, hni⟩ := own_form shtS hown3
  go_wp2
  rw [rounds_succ]
  go_wp2
  go_ret
  exact ⟨_, rfl, hown3, hb3⟩

theorem beq_strTS {a b : ByteArray} (h : a = b) : (a.toList == b.toList) = true := by rw [str_eq, decide_eq_true h]
theorem beq_strFS {a b : ByteArray} (h : a ≠ b) : (a.toList == b.toList) = false := by rw [str_eq, decide_eq_false h]
theorem bne_intS {a b : Int} (h : a ≠ b) : (a != b) = true := by simpa using h
theorem eqPost_refl (l : List Post) : eqL eqPost l l = true := by
  induction l with
  | nil => rfl
  | cons x l ih =>
    show (eqPost x x && eqL eqPost l l) = true
    rw [ih, (eqPost_iff x x).2 rfl]
    rfl
end
section
open Go.RowKit

theorem pcmp_self (a : Post) : pcmp a a = 0 := by
  unfold pcmp
  simp [orF, cmpS_zero.2 rfl, cmpI_zero.2 rfl]
theorem pcmp_zero {a b : Post} (h : pcmp a b = 0) : a = b := by
  unfold pcmp at h
  simp only [orF] at h
  by_cases h1 : cmpS a.word b.word = 0
  · rw [if_neg (by simpa using h1)] at h
    by_cases h2 : cmpI a.unit b.unit = 0
    · rw [if_neg (by simpa using h2)] at h
      by_cases h3 : cmpI a.field b.field = 0
      · rw [if_neg (by simpa using h3)] at h
        by_cases h4 : cmpI a.place b.place = 0
        · exact Post.ext_ (cmpS_zero.1 h1) (cmpI_zero.1 h2) (cmpI_zero.1 h3) (cmpI_zero.1 h4)
        · rw [if_pos h4] at h; exact absurd h h4
      · rw [if_pos h3] at h; exact absurd h h3
    · rw [if_pos h2] at h; exact absurd h h2
  · rw [if_pos h1] at h; exact absurd h h1
theorem pcmp_le (a b : Post) : pcmp a b ≤ 0 ↔ pltB b a = false := by
  rcases pltB_tri a b with h | rfl | h
  · have := (pcmp_neg a b).2 h
    exact ⟨fun _ => pltB_asymm h, fun _ => by omega⟩
  · exact ⟨fun _ => pltB_irrefl _, fun _ => by rw [pcmp_self]; omega⟩
  · constructor
    · intro hle
      have h1 : ¬ pcmp a b < 0 := fun e => by have := (pcmp_neg a b).1 e; rw [pltB_asymm h] at this; cases this
      have h2 := pcmp_zero (show pcmp a b = 0 by omega)
      subst h2
      exact pltB_irrefl _
    · intro e; rw [e] at h; cases h
theorem mergeP_step (x : Post) (a : List Post) (y : Post) (b : List Post) : mergeP (x :: a) (y :: b) = if pltB y x = true then y :: mergeP (x :: a) b else x :: mergeP a (y :: b) := by
  unfold mergeP
  have e1 : (x :: a).length + (y :: b).length = ((x :: a).length + b.length) + 1 := by simp only [List.length_cons]; omega
  have e2 : (x :: a).length + b.length = a.length + (y :: b).length := by simp only [List.length_cons]; omega
  rw [e1, mergeG]
  split
  · rfl
  · rw [e2]
theorem mergeP_nil_left (b : List Post) : mergeP [] b = b := by
  unfold mergeP
  cases b with
  | nil => rfl
  | cons y b => simp only [List.length_cons, List.length_nil, Nat.zero_add]; rfl
theorem mergeP_nil_right (a : List Post) : mergeP a [] = a := by
  unfold mergeP
  cases a with
  | nil => rfl
  | cons y b => simp only [List.length_cons, List.length_nil, Nat.add_zero]; rfl
theorem SlRep.tail {α : Type} {k : Nat} {R : CRep α} {w : World} {F : Nat → Prop} {x : α} {xs : List α} {b o n c : Nat} (h : SlRep k R w F (x :: xs) (.slice (some ⟨b, o, none⟩) n c)) : SlRep k R w F xs (.slice (if c = 1 then some ⟨b, o, none⟩ else some ⟨b, o + k, none⟩) xs.length (c - 1)) := by
  obtain ⟨A, c', e, h1, h2, h3⟩ := h
  injection e with e1 e2 e3
  subst e1 e3
  simp only [List.length_cons] at h1
  refine ⟨_, c - 1, rfl, by omega, by omega, fun i y hy => ?_⟩
  have hi := lt_of_at hy
  obtain ⟨b', off, cs, hA, hF, hr, hc⟩ := h3 (i + 1) y (by simpa using hy)
  injection hA with hA
  injection hA with e4 e5
  subst e4 e5
  have hc1 : ¬ c = 1 := by omega
  rw [if_neg hc1]
  refine ⟨b, o + k, cs, rfl, hF, hr, fun j u hu => ?_⟩
  have := hc j u hu
  rw [show o + k + i * k + j = o + (i + 1) * k + j by rw [Nat.add_mul]; omega]
  exact this
theorem sl_form {α : Type} {k : Nat} {R : CRep α} {w : World} {F : Nat → Prop} {xs : List α} {v : Value} (h : SlRep k R w F xs v) : ∃ A n c, v = .slice A n c ∧ Hid (n = xs.length ∧ n ≤ c ∧ c ≤ 9223372036854775807) := by
  obtain ⟨A, c, e, h1, h2, -⟩ := h
  exact ⟨A, _, c, e, Lib.hid ⟨rfl, h1, h2⟩⟩
def sliLen : Value → Nat
  | .slice _ n _ => n
  | _ => 0
set_option maxRecDepth 100000 in
set_option maxHeartbeats 8000000 in
theorem merged_c (xs ys : List Post) (v v' : Value) (w : World) (B : Nat) (hB : B ≤ w.heap.size) (h : Posts w B xs v) (h' : Posts w B ys v') (hn : xs.length + ys.length ≤ 1000000) :
    Calls Tryz.prog 84 #[v, v', .func (.func 59) #[] #[]] w fun e w' => ∃ vr, e = .returned vr ∧ OwnRep 4 (flat Post.enc) 36 w.heap.size w' (mergeP xs ys) vr ∧ Below w.heap.size w w' := by
  obtain ⟨A, c, rfl, hc1, hc2, _⟩ := id h
  obtain ⟨A', c', rfl, hd1, hd2, _⟩ := id h'
  have hw2 : IntKind.i64.wrap ((xs.length : Int) + (ys.length : Int)) = (xs.length : Int) + (ys.length : Int) := IntWalk.i64_in _ (by omega)
  obtain ⟨ti, k1, k2, k3, k4⟩ := info_parts (P := Tryz.prog) (e := 36) (z := .agg #[.string ⟨#[]⟩, .int .i64 0, .int .i64 0, .int .i64 0]) (size := 4) (bytes := 40) (by kernel_rfl)
  obtain ⟨w0, hrun, hown0, hg0⟩ := run_make_own w w.heap.size 23 36 ti _ 4 Tryz.underlying23 k1 k2 k3 .i64 .i64 (xs.length + ys.length) (by rw [k4]; omega) (by unfold maxLen; omega) (Nat.le_refl _)
  rw [Int.natCast_add] at hrun
  have hr0 : OwnRep 4 (flat Post.enc) 36 w.heap.size w0 ([] : List Post) (.slice (some ⟨w.heap.size, 0, none⟩) 0 (xs.length + ys.length)) := OwnRep.of_rows hown0
  have hb0 : Below w.heap.size w w0 := below_of_grown hg0 (Nat.le_refl _) (fun j hj => by cases hj)
  clear k1 k2 k3 k4 hown0 hg0
  have H0 := Lib.hid (show mergeP xs ys = [] ++ mergeP xs ys from rfl)
  go_enter Tryz.func84, Tryz.ntmps84
  go_wp2
  go_loopw [0, 1, 7] (fun sa sb so wr => ∃ (a b o : List Post), SlRep 4 (flat Post.enc) wr (fun b => b < B) a sa ∧ SlRep 4 (flat Post.enc) wr (fun b => b < B) b sb ∧ OwnRep 4 (flat Post.enc) 36 w.heap.size wr o so ∧ Hid (mergeP xs ys = o ++ mergeP a b) ∧ a.length + b.length + o.length = xs.length + ys.length ∧ Below w.heap.size w wr) (fun sa sb _ _ => sliLen sa + sliLen sb)
  case atStart => exact ⟨xs, ys, [], h.below pstS (hb0.mono hB), h'.below pstS (hb0.mono hB), hr0, H0, by simp, hb0⟩
  case round =>
    clear H0 hr0 hb0 hrun hw2 h h'
    obtain ⟨a, b, o, ha, hb, ho, hh, hl, hbw⟩ := hrel
    have hsr := hbw.size
    have hlo := ho.own_lt
    rcases a with _ | ⟨x, a⟩
    · have HN := Lib.hid (show mergeP xs ys = (o ++ []) ++ b by rw [hh.out, mergeP_nil_left, List.append_nil])
      obtain ⟨Aa, ca, rfl, ha1, ha2, -⟩ := id ha
      obtain ⟨Ab, cb, rfl, hb1, hb2, -⟩ := id hb
      obtain ⟨Ao, no, co, rfl, hno⟩ := own_form pstS ho
      have hoL : o.length + ([] : List Post).length + (b).length ≤ 1000000 := by omega
      clear hh
      go_wp2_with (at_builtin; refine stop_intro ?_)
      refine stop_elim ?_
      refine wpList_append_rep rfl pstS pstE_ w.heap.size (.tmp 47) (.tmp 48) rfl rfl ho rfl (ys := []) ha (fun b' (hb' : b' < B) => ⟨by omega, fun e => by have := (hlo b' e).1; omega⟩) (by omega) (by decide) hsr ?_
      intro v2 w2 hown2 hg2 hat2
      have hb2' := hbw.grown hg2 hsr (fun j hj => (hlo j hj).1)
      have hlo2 := hown2.own_lt
      have hs2 := hb2'.size
      have hbl := hb.frame (w' := w2) pstS (fun b' (hb' : b' < B) => hg2.block b' (by omega) (fun e => by have := (hlo b' e.symm).1; omega))
      obtain ⟨Ap, np, cp, rfl, hnp⟩ := own_form pstS hown2
      have hL2 : (o ++ []).length + (b).length ≤ 4294967296 := by rw [List.length_append]; omega
      go_wp2_with (at_builtin; refine stop_intro ?_)
      refine stop_elim ?_
      refine wpList_append_rep rfl pstS pstE_ w.heap.size (.tmp 49) (.tmp 50) rfl rfl hown2 rfl (ys := b) hbl (fun b' (hb' : b' < B) => ⟨by omega, fun e => by have := (hlo2 b' e).1; omega⟩) hL2 (by decide) hs2 ?_
      intro v3 w3 hown3 hg3 hat3
      have hb3' := hb2'.grown hg3 hs2 (fun j hj => (hlo2 j hj).1)
      rw [← HN.out] at hown3
      obtain ⟨Aq, nq, cq, rfl, hnq⟩ := own_form pstS hown3
      go_wp2
      go_ret
      exact ⟨_, rfl, hown3, hb3'⟩
    · rcases b with _ | ⟨y, b⟩
      · have HN := Lib.hid (show mergeP xs ys = (o ++ (x :: a)) ++ [] by rw [hh.out, mergeP_nil_right, List.append_nil])
        obtain ⟨Aa, ca, rfl, ha1, ha2, -⟩ := id ha
        obtain ⟨Ab, cb, rfl, hb1, hb2, -⟩ := id hb
        obtain ⟨Ao, no, co, rfl, hno⟩ := own_form pstS ho
        have hoL : o.length + ((x :: a)).length + ([] : List Post).length ≤ 1000000 := by omega
        clear hh
        go_wp2_with (at_builtin; refine stop_intro ?_)
        refine stop_elim ?_
        refine wpList_append_rep rfl pstS pstE_ w.heap.size (.tmp 47) (.tmp 48) rfl rfl ho rfl (ys := (x :: a)) ha (fun b' (hb' : b' < B) => ⟨by omega, fun e => by have := (hlo b' e).1; omega⟩) (by omega) (by decide) hsr ?_
        intro v2 w2 hown2 hg2 hat2
        have hb2' := hbw.grown hg2 hsr (fun j hj => (hlo j hj).1)
        have hlo2 := hown2.own_lt
        have hs2 := hb2'.size
        have hbl := hb.frame (w' := w2) pstS (fun b' (hb' : b' < B) => hg2.block b' (by omega) (fun e => by have := (hlo b' e.symm).1; omega))
        obtain ⟨Ap, np, cp, rfl, hnp⟩ := own_form pstS hown2
        have hL2 : (o ++ (x :: a)).length + ([] : List Post).length ≤ 4294967296 := by rw [List.length_append]; omega
        go_wp2_with (at_builtin; refine stop_intro ?_)
        refine stop_elim ?_
        refine wpList_append_rep rfl pstS pstE_ w.heap.size (.tmp 49) (.tmp 50) rfl rfl hown2 rfl (ys := []) hbl (fun b' (hb' : b' < B) => ⟨by omega, fun e => by have := (hlo2 b' e).1; omega⟩) hL2 (by decide) hs2 ?_
        intro v3 w3 hown3 hg3 hat3
        have hb3' := hb2'.grown hg3 hs2 (fun j hj => (hlo2 j hj).1)
        rw [← HN.out] at hown3
        obtain ⟨Aq, nq, cq, rfl, hnq⟩ := own_form pstS hown3
        go_wp2
        go_ret
        exact ⟨_, rfl, hown3, hb3'⟩
      · obtain ⟨Aa, na, ca, rfl, hna⟩ := sl_form ha
        obtain ⟨Ab, nb, cb, rfl, hnb⟩ := sl_form hb
        obtain ⟨b1, o1, rfl, hbB1, p0, p1, p2, p3⟩ := Posts.at_ ha (show (x :: a)[0]? = some x from rfl)
        obtain ⟨b2, o2, rfl, hbB2, q0, q1, q2, q3⟩ := Posts.at_ hb (show (y :: b)[0]? = some y from rfl)
        have hbw1 : b1 < wr.heap.size := by have : b1 < B := hbB1; omega
        have hbw2 : b2 < wr.heap.size := by have : b2 < B := hbB2; omega
        rw [Nat.zero_mul, Nat.add_zero] at p0 p1 p2 p3 q0 q1 q2 q3
        obtain ⟨Ao, no, co, rfl, hno⟩ := own_form pstS ho
        have KEEP := Lib.hid (fun (W : World) (hW : Below wr.heap.size wr W) => (⟨(hW.cell (p := ⟨b1, o1, none⟩) hbw1).trans p0, (hW.cell (p := ⟨b1, o1 + 1, none⟩) hbw1).trans p1, (hW.cell (p := ⟨b1, o1 + 2, none⟩) hbw1).trans p2, (hW.cell (p := ⟨b1, o1 + 3, none⟩) hbw1).trans p3, (hW.cell (p := ⟨b2, o2, none⟩) hbw2).trans q0, (hW.cell (p := ⟨b2, o2 + 1, none⟩) hbw2).trans q1, (hW.cell (p := ⟨b2, o2 + 2, none⟩) hbw2).trans q2, (hW.cell (p := ⟨b2, o2 + 3, none⟩) hbw2).trans q3⟩ : W.cell? ⟨b1, o1, none⟩ = some (.string x.word) ∧ W.cell? ⟨b1, o1 + 1, none⟩ = some (.int .i64 x.unit) ∧ W.cell? ⟨b1, o1 + 2, none⟩ = some (.int .i64 x.field) ∧ W.cell? ⟨b1, o1 + 3, none⟩ = some (.int .i64 x.place) ∧ W.cell? ⟨b2, o2, none⟩ = some (.string y.word) ∧ W.cell? ⟨b2, o2 + 1, none⟩ = some (.int .i64 y.unit) ∧ W.cell? ⟨b2, o2 + 2, none⟩ = some (.int .i64 y.field) ∧ W.cell? ⟨b2, o2 + 3, none⟩ = some (.int .i64 y.place)))
        have hbX : Below wr.heap.size wr wr.drew := (Below.refl _ _).drew
        have HCM := Lib.hid (fun (W : World) => compare_b x y W)
        have hle := pcmp_le x y
        have HST := Lib.hid (mergeP_step x a y b)
        generalize pcmp x y = z at *
        obtain ⟨n1, rfl⟩ : ∃ n1, na = n1 + 1 := ⟨a.length, hna.out.1⟩
        obtain ⟨n2, rfl⟩ : ∃ n2, nb = n2 + 1 := ⟨b.length, hnb.out.1⟩
        have hk3 : n1 + 1 ≤ ca := hna.out.2.1
        have hk5 : (1 : Int) ≤ (n1 : Int) + 1 := by omega
        have hk6 : (1 : Int) ≤ (n2 : Int) + 1 := by omega
        obtain ⟨P1, hP1⟩ : ∃ P1 : Option Addr, (if ca = 1 then some ⟨b1, o1, none⟩ else some ⟨b1, o1 + 4, none⟩) = P1 := ⟨_, rfl⟩
        obtain ⟨P2, hP2⟩ : ∃ P2 : Option Addr, (if cb = 1 then some ⟨b2, o2, none⟩ else some ⟨b2, o2 + 4, none⟩) = P2 := ⟨_, rfl⟩
        have HTA := Lib.hid (show SlRep 4 (flat Post.enc) wr (fun b => b < B) a (.slice P1 n1 (ca - 1)) by
          have e : n1 = a.length := by have := hna.out.1; rw [List.length_cons] at this; omega
          rw [e, ← hP1]
          exact ha.tail)
        have HTB := Lib.hid (show SlRep 4 (flat Post.enc) wr (fun b => b < B) b (.slice P2 n2 (cb - 1)) by
          have e : n2 = b.length := by have := hnb.out.1; rw [List.length_cons] at this; omega
          rw [e, ← hP2]
          exact hb.tail)
        have HA := Lib.hid ha
        have HB := Lib.hid hb
        have hk4 : n2 + 1 ≤ cb := hnb.out.2.1
        go_wp2
        go_region_held3 (fun W => W.cell? ⟨b1, o1, none⟩ = some (.string x.word) ∧ W.cell? ⟨b1, o1 + 1, none⟩ = some (.int .i64 x.unit) ∧ W.cell? ⟨b1, o1 + 2, none⟩ = some (.int .i64 x.field) ∧ W.cell? ⟨b1, o1 + 3, none⟩ = some (.int .i64 x.place) ∧ W.cell? ⟨b2, o2, none⟩ = some (.string y.word) ∧ W.cell? ⟨b2, o2 + 1, none⟩ = some (.int .i64 y.unit) ∧ W.cell? ⟨b2, o2 + 2, none⟩ = some (.int .i64 y.field) ∧ W.cell? ⟨b2, o2 + 3, none⟩ = some (.int .i64 y.place)) (with_reducible exact KEEP.out _ hbX) (first
          | (go_at_call 59; (with_reducible refine (HCM.out _).mono ?_); rintro e w2 ⟨rfl, hb2⟩; have hbX := bnd_call hbX (Nat.le_refl _) hb2))
        cases hlt : pltB y x
        · have HN := Lib.hid (show mergeP xs ys = (o ++ [x]) ++ mergeP a (y :: b) by rw [hh.out, HST.out, if_neg (by rw [hlt]; simp), List.append_assoc]; rfl)
          have hz : z ≤ 0 := hle.2 hlt
          clear hle hlt hh HST p0 p1 p2 p3 q0 q1 q2 q3
          have hs2 := hbX.size
          have hsd : wr.heap.size ≤ w2.drew.heap.size := hs2
          have hbX1 := hbX.drew
          obtain ⟨p0, p1, p2, p3, q0, q1, q2, q3⟩ := KEEP.out _ hbX1
          have hbA := hbX1.alloc hsd (pstC x)
          have hA := ho.below pstS hbA
          have kS : SlRep 4 (flat Post.enc) (w2.drew.alloc (pstC x)) (fun b => False ∨ b = w2.drew.heap.size) [x] (.slice (some ⟨w2.drew.heap.size, 0, none⟩) 1 1) := SlRep.one_new pstS (w := w2.drew) (F := fun _ => False) (x := x) (cs := Post.enc x) rfl rfl (fun _ hb => hb.elim)
          have kF : ∀ b, (False ∨ b = w2.drew.heap.size) → b < (w2.drew.alloc (pstC x)).heap.size ∧ Value.ownBlock (.slice Ao no co) ≠ some b := fun b hb => by
            rcases hb with hb | rfl
            · exact hb.elim
            · exact ⟨by simp, fun e => by have := (hlo _ e).2; omega⟩
          have kN : o.length + [x].length ≤ 4294967296 := by simp only [List.length_cons, List.length_nil]; omega
          have kB : w.heap.size ≤ (w2.drew.alloc (pstC x)).heap.size := Nat.le_trans hsr hbA.size
          go_wp2
          go_region_law (first
            | (refine step_append_rep rfl pstS pstE_ _ (.tmp 31) (.tmp 35) rfl rfl hA rfl (ys := [x]) kS kF kN (by decide) kB ?_; intro v6 w6 hown6 hg6 hat6; have fr6 := fun (b' : Nat) (hb' : b' < B) => (hg6.block b' (Nat.lt_of_lt_of_le hb' (Nat.le_trans hB kB)) (fun e => Nat.lt_irrefl _ (Nat.lt_of_lt_of_le (Nat.lt_of_lt_of_le hb' hB) (hlo b' e.symm).1))).trans (hbA.block b' (Nat.lt_of_lt_of_le hb' (Nat.le_trans hB hsr))); have hb6 := (hbw.trans (hbA.mono hsr)).grown hg6 kB (fun j hj => (hlo j hj).1); obtain ⟨A6, n6, c6, rfl, hn6⟩ := own_form pstS hown6))
          go_wp2
          go_roundw
          case rel => (repeat apply Exists.intro); exact ⟨⟨a, y :: b, o ++ [x], HTA.out.frame pstS fr6, HB.out.frame pstS fr6, hown6, HN, by simp only [List.length_append, List.length_cons, List.length_nil] at hl ⊢; omega, hb6⟩, rfl⟩
          case measure => (show sliLen (.slice P1 n1 (ca - 1)) + sliLen (.slice (some ⟨b2, o2, none⟩) (n2 + 1) cb) < sliLen (.slice (some ⟨b1, o1, none⟩) (n1 + 1) ca) + sliLen (.slice (some ⟨b2, o2, none⟩) (n2 + 1) cb)); simp [sliLen]
        · have HN := Lib.hid (show mergeP xs ys = (o ++ [y]) ++ mergeP (x :: a) b by rw [hh.out, HST.out, if_pos hlt, List.append_assoc]; rfl)
          have hz : ¬ z ≤ 0 := fun e => by have := hle.1 e; rw [hlt] at this; cases this
          clear hle hlt hh HST p0 p1 p2 p3 q0 q1 q2 q3
          have hs2 := hbX.size
          have hsd : wr.heap.size ≤ w2.drew.heap.size := hs2
          have hbX1 := hbX.drew
          obtain ⟨p0, p1, p2, p3, q0, q1, q2, q3⟩ := KEEP.out _ hbX1
          have hbA := hbX1.alloc hsd (pstC y)
          have hA := ho.below pstS hbA
          have kS : SlRep 4 (flat Post.enc) (w2.drew.alloc (pstC y)) (fun b => False ∨ b = w2.drew.heap.size) [y] (.slice (some ⟨w2.drew.heap.size, 0, none⟩) 1 1) := SlRep.one_new pstS (w := w2.drew) (F := fun _ => False) (x := y) (cs := Post.enc y) rfl rfl (fun _ hb => hb.elim)
          have kF : ∀ b, (False ∨ b = w2.drew.heap.size) → b < (w2.drew.alloc (pstC y)).heap.size ∧ Value.ownBlock (.slice Ao no co) ≠ some b := fun b hb => by
            rcases hb with hb | rfl
            · exact hb.elim
            · exact ⟨by simp, fun e => by have := (hlo _ e).2; omega⟩
          have kN : o.length + [y].length ≤ 4294967296 := by simp only [List.length_cons, List.length_nil]; omega
          have kB : w.heap.size ≤ (w2.drew.alloc (pstC y)).heap.size := Nat.le_trans hsr hbA.size
          go_wp2
          go_region_law (first
            | (refine step_append_rep rfl pstS pstE_ _ (.tmp 39) (.tmp 43) rfl rfl hA rfl (ys := [y]) kS kF kN (by decide) kB ?_; intro v6 w6 hown6 hg6 hat6; have fr6 := fun (b' : Nat) (hb' : b' < B) => (hg6.block b' (Nat.lt_of_lt_of_le hb' (Nat.le_trans hB kB)) (fun e => Nat.lt_irrefl _ (Nat.lt_of_lt_of_le (Nat.lt_of_lt_of_le hb' hB) (hlo b' e.symm).1))).trans (hbA.block b' (Nat.lt_of_lt_of_le hb' (Nat.le_trans hB hsr))); have hb6 := (hbw.trans (hbA.mono hsr)).grown hg6 kB (fun j hj => (hlo j hj).1); obtain ⟨A6, n6, c6, rfl, hn6⟩ := own_form pstS hown6))
          go_wp2
          go_roundw
          case rel => (repeat apply Exists.intro); exact ⟨⟨x :: a, b, o ++ [y], HA.out.frame pstS fr6, HTB.out.frame pstS fr6, hown6, HN, by simp only [List.length_append, List.length_cons, List.length_nil] at hl ⊢; omega, hb6⟩, rfl⟩
          case measure => (show sliLen (.slice (some ⟨b1, o1, none⟩) (n1 + 1) ca) + sliLen (.slice P2 n2 (cb - 1)) < sliLen (.slice (some ⟨b1, o1, none⟩) (n1 + 1) ca) + sliLen (.slice (some ⟨b2, o2, none⟩) (n2 + 1) cb)); simp [sliLen]
end
end Go.Proofs.YtngodakkdhdmjaaGreatDoor
