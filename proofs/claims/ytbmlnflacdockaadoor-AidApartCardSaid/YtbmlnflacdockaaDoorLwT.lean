/- AidApart returns true. -/
import Derived.Test.YtbmlnflacdockaaDoorAwk
import Derived.Test.YtbmlnflacdockaaDoorSmA
import Derived.Test.YtbmlnflacdockaaDoorTuC
import Derived.Test.YtbmlnflacdockaaDoorPcA
import Derived.Outline
namespace Go.Proofs.YtbmlnflacdockaaDoor
open Go.RowKit

theorem cat_atT {w W : World} {v1 v2 v3 : Value} (hW : Below (w.heap.size + 1) (w.alloc (catC v1 v2 v3)) W) : W.cell? ⟨w.heap.size, 0, none⟩ = some v1 ∧ W.cell? ⟨w.heap.size, 1, none⟩ = some v2 ∧ W.cell? ⟨w.heap.size, 2, none⟩ = some v3 ∧ w.heap.size < W.heap.size := by
  have k0 := (hW.block _ (by omega)).trans (heap_newT w (catC v1 v2 v3))
  exact ⟨by rw [Lib.cell_of_heap k0]; rfl, by rw [Lib.cell_of_heap k0]; rfl, by rw [Lib.cell_of_heap k0]; rfl, heap_ltT k0⟩
theorem few14T {c : Cat} (hF : FewOk c) (h : catE c = 0) : c.sheets.length ≤ 14 := by
  have := (catE_zero h).2.2.1
  rcases hF.small with h1 | h1 <;> omega
def TextFree (x : Int) (t : ByteArray) (n : Nat) : Prop := ∀ j, j < n → j < t.size → t.data.toList.getD j 0 = 91 → ((pieceF (t.extract j t.size)).1 : Int) ≠ x
def FactsFree (x : Int) (l : List Fact) (n : Nat) : Prop := ∀ (j : Nat) f, j < n → l[j]? = some f → TextFree x f.text f.text.size
def SheetsFree (x : Int) (l : List Sheet) (n : Nat) : Prop := ∀ (j : Nat) s, j < n → l[j]? = some s → FactsFree x s.facts s.facts.length
theorem free_next {x : Int} {t : ByteArray} {n : Nat} (hn : n < t.size) (h : TextFree x t n) (hx : ((pieceF (t.extract n t.size)).1 : Int) ≠ x) : TextFree x t (n + (Utf8.decode t n).2) := by
  intro j hj hs h91
  rcases Nat.lt_trichotomy j n with h1 | h1 | h1
  · exact h j h1 hs h91
  · subst h1; exact hx
  · exact absurd h91 (decode_skip t n j h1 hj)
theorem free_all {x : Int} {t : ByteArray} {n : Nat} (hn : t.size ≤ n) (h : TextFree x t n) : TextFree x t t.size := fun j hj => h j (by omega)
theorem facts_next {x : Int} {l : List Fact} {n : Nat} {f : Fact} (hf : l[n]? = some f) (h : FactsFree x l n) (ht : TextFree x f.text f.text.size) : FactsFree x l (n + 1) := by
  intro j g hj hg
  rcases Nat.lt_or_ge j n with h1 | h1
  · exact h j g h1 hg
  · obtain rfl : j = n := by omega
    rw [hf] at hg
    injection hg with hg
    subst hg
    exact ht
theorem sheets_next {x : Int} {l : List Sheet} {n : Nat} {s : Sheet} (hs : l[n]? = some s) (h : SheetsFree x l n) (ht : FactsFree x s.facts s.facts.length) : SheetsFree x l (n + 1) := by
  intro j g hj hg
  rcases Nat.lt_or_ge j n with h1 | h1
  · exact h j g h1 hg
  · obtain rfl : j = n := by omega
    rw [hs] at hg
    injection hg with hg
    subst hg
    exact ht
theorem nocite_of {c : Cat} {x : Int} (h : SheetsFree x c.sheets c.sheets.length) : NoCite c x := by
  intro s hs f hf j hj h91
  obtain ⟨a, ha⟩ := List.getElem?_of_mem hs
  obtain ⟨b, hb⟩ := List.getElem?_of_mem hf
  exact h a s (lt_of_at ha) ha b f (lt_of_at hb) hb j hj hj h91
theorem own_cur {α : Type} {k n cap g base : Nat} {R : CRep α} {e : TypeId} {W : World} {xs : List α} (h : OwnRep k R e base W xs (.slice (some ⟨g, 0, none⟩) n cap)) : ∃ cur, W.heap[g]? = some (.cells cur e (0, 0)) := by
  obtain ⟨css, hl, hr, hown⟩ := h
  rcases hown.2 with ⟨h1, _⟩ | ⟨g', cap', cur, hv, hbg, hg, _⟩
  · cases h1
  · injection hv with e1
    injection e1 with e1
    injection e1 with e1
    subst e1
    exact ⟨cur, hg⟩
theorem aid_is {c : Cat} {u : Int} {s : ByteArray} (h : cmpE c u s = 0) : aidU c u s = u ∧ aidS c u s = s := by
  unfold aidU aidS
  rw [if_pos h, if_pos h]
  exact ⟨rfl, rfl⟩
set_option maxRecDepth 100000 in
set_option maxHeartbeats 8000000 in
theorem apart_law (c : Cat) (u : Int) (s : ByteArray) (m : Int) (t : ByteArray) (v1 v2 v3 : Value) (w : World) (B : Nat) (hB : B ≤ w.heap.size) (h : CatRep w B c v1 v2 v3) (hm : 0 ≤ m ∧ m < 256) (hS : SynOk w) :
    Calls Tryd.prog 5 #[.agg #[v1, v2, v3], .int .i64 u, .string s, .int .u8 m, .string t] w fun e w' => e = .returned (.bool true) ∧ Below w.heap.size w w' := by
  have HA := Lib.hid (fun (W : World) (hW : Below w.heap.size w W) => awake_c W (hS.below hS.1 hW))
  have b1 : Below w.heap.size w (w.alloc (catC v1 v2 v3)) := (Below.refl _ _).alloc (Nat.le_refl _) _
  have hb0 : Below (w.heap.size + 1) (w.alloc (catC v1 v2 v3)) (w.alloc (catC v1 v2 v3)) := Below.refl _ _
  have KC := Lib.hid (fun (W : World) (hW : Below (w.heap.size + 1) (w.alloc (catC v1 v2 v3)) W) => (cat_atT hW))
  have HFW := Lib.hid (fun (W : World) (hW : Below w.heap.size w W) => few_c c v1 v2 v3 W B (Nat.le_trans hB hW.size) (h.below (hW.mono hB)))
  have HCP := Lib.hid (fun (hF : FewOk c) (W : World) (hW : Below w.heap.size w W) => rcopy_lo c v1 v2 v3 W B (Nat.le_trans hB hW.size) (h.below (hW.mono hB)) hF)
  have HCM := Lib.hid (fun (d : Cat) (h14 : catE d = 0 → d.sheets.length ≤ 14) (y1 y2 y3 : Value) (W : World) (B' : Nat) (hB' : B' ≤ W.heap.size) (hW : Below w.heap.size w W) (hc : CatRep W B' d y1 y2 y3) => Compile_c d u s y1 y2 y3 W B' hB' hc h14 (hS.below hS.1 hW))
  have HNM := Lib.hid (fun (hF : FewOk c) (x : Int) (y1 y2 y3 : Value) (W : World) (hc : CatRep W W.heap.size c y1 y2 y3) => Number_c c u x y1 y2 y3 W W.heap.size (Nat.le_refl _) hc (few14T hF))
  have hRep := h
  obtain ⟨A1, c1, rfl, ha1, ha2, _⟩ := id h.langs
  obtain ⟨A2, c2, rfl, hb1, hb2, _⟩ := id h.labels
  obtain ⟨A3, c3, rfl, hd1, hd2, _⟩ := id h.sheets
  by_cases hcond : s.size ≤ 10 ∧ 1 ≤ t.size ∧ t.size ≤ 64 ∧ 0 < c.sheets.length
  · obtain ⟨h10, ht1, ht2, hne⟩ := hcond
    have d2 : decide ((10 : Int) < (s.size : Int)) = false := decide_eq_false (by omega)
    have d3 : ((t.size : Int) == 0) = false := by rw [beq_eq_false_iff_ne]; omega
    have d4 : decide ((64 : Int) < (t.size : Int)) = false := decide_eq_false (by omega)
    have d5 : ((c.sheets.length : Int) == 0) = false := by rw [beq_eq_false_iff_ne]; omega
    go_enter Tryd.func5, Tryd.ntmps5
    go_wp2_with fail
    refine (HA.out _ b1).mono ?_
    rintro e w1 ⟨rfl, hb1⟩
    have hbX := bnd_call hb0 (by simp) hb1
    obtain ⟨z0, z1, z2, zl⟩ := KC.out _ hbX
    go_wp2_with fail
    refine (HFW.out _ (b1.trans (hbX.mono (by omega)))).mono ?_
    rintro e w2 ⟨⟨b, rfl, hF⟩, hb2⟩
    have hbX := bnd_call hbX (by simp) hb2
    clear hb1 hb2 z0 z1 z2 zl
    obtain ⟨z0, z1, z2, zl⟩ := KC.out _ hbX
    cases b
    · go_wp2
      go_ret
      exact ⟨rfl, b1.trans (hbX.mono (by omega))⟩
    · have hF := hF rfl
      have HFE := Lib.hid hF
      have HCC := Lib.hid (HCP.out hF)
      have HNM := Lib.hid (HNM.out hF)
      clear hF HCP
      go_wp2_with fail
      refine (HCC.out _ (b1.trans (hbX.mono (by omega)))).mono ?_
      rintro e wC ⟨y1, y2, y3, rfl, hcC, -, hbC⟩
      have hbX := bnd_call hbX (by simp) hbC
      go_wp2_with fail
      refine (HCM.out c (few14T HFE.out) _ _ _ _ _ (Nat.le_refl _) (b1.trans (hbX.mono (by omega))) hcC).mono ?_
      rintro e wA ⟨va, rfl, hva, hbA⟩
      have hbX := bnd_call hbX (by simp) hbA
      clear z0 z1 z2 zl hcC hbC
      obtain ⟨z0, z1, z2, zl⟩ := KC.out _ hbX
      obtain ⟨AS, cS, rfl, hs1, hs2, _⟩ := id hva
      by_cases hE : cmpE c u s = 0
      · have HEE := Lib.hid hE
        rw [hE]
        clear hE
        have hbX := hbX.alloc (by have := hbX.size; simp at this; omega) (aidO (aidU c u s) (aidS c u s) (.slice AS (aidF c u s).length cS))
        have hvA := hva.frame (w' := wA.alloc (aidO (aidU c u s) (aidS c u s) (.slice AS (aidF c u s).length cS))) secS (fun b hb => Below.heap_alloc _ _ _ hb)
        have hkA := heap_newT wA (aidO (aidU c u s) (aidS c u s) (.slice AS (aidF c u s).length cS))
        have hlA : wA.heap.size < (wA.alloc (aidO (aidU c u s) (aidS c u s) (.slice AS (aidF c u s).length cS))).heap.size := by simp
        obtain ⟨i, hi⟩ : ∃ i : Nat, i = m.toNat % c.sheets.length := ⟨_, rfl⟩
        have hil : i < c.sheets.length := by rw [hi]; exact Nat.mod_lt _ hne
        have hrem : m.tmod (c.sheets.length : Int) = (i : Int) := by
          obtain ⟨k, rfl⟩ : ∃ k : Nat, m = k := ⟨m.toNat, by omega⟩
          rw [hi, Int.toNat_natCast, Int.tmod_eq_emod_of_nonneg (by omega)]
          rfl
        have hwm : IntKind.i64.wrap m = m := IntWalk.i64_in _ (by omega)
        obtain ⟨y, hy⟩ := get_at _ hil
        obtain ⟨b, off, vf, rfl, hbB, g0, -⟩ := Sheets.at_ (hRep.sheets.below shtS ((b1.trans (hbX.mono (by omega))).mono hB)) hy
        have hbw : b < (wA.alloc (aidO (aidU c u s) (aidS c u s) (.slice AS (aidF c u s).length cS))).heap.size := by have : b < B := hbB; have := hbX.size; simp at *; omega
        have hii : (i : Int) < (c.sheets.length : Int) := by omega
        have HNE := Lib.hid hne
        have HT12 := Lib.hid (And.intro ht1 ht2)
        have hX1 : w.heap.size + 1 ≤ (wA.alloc (aidO (aidU c u s) (aidS c u s) (.slice AS (aidF c u s).length cS))).heap.size := by have := hbX.size; simp at *; omega
        have HY := Lib.hid hy
        clear hi hva hbA hne ht1 ht2 hy
        have z0' := (((Below.refl wA.heap.size wA).alloc (Nat.le_refl _) (aidO (aidU c u s) (aidS c u s) (.slice AS (aidF c u s).length cS))).cell (p := ⟨w.heap.size, 0, none⟩) zl).trans z0
        have z1' := (((Below.refl wA.heap.size wA).alloc (Nat.le_refl _) (aidO (aidU c u s) (aidS c u s) (.slice AS (aidF c u s).length cS))).cell (p := ⟨w.heap.size, 1, none⟩) zl).trans z1
        have z2' := (((Below.refl wA.heap.size wA).alloc (Nat.le_refl _) (aidO (aidU c u s) (aidS c u s) (.slice AS (aidF c u s).length cS))).cell (p := ⟨w.heap.size, 2, none⟩) zl).trans z2
        have zl' := Nat.lt_trans zl hlA
        go_upto_region 9 with fail
        clear z0 z1 z2 zl
        have HLA := Lib.hid hlA
        have HKA := Lib.hid hkA
        have HVA := Lib.hid hvA
        clear hlA hkA hvA
        generalize wA.alloc (aidO (aidU c u s) (aidS c u s) (.slice AS (aidF c u s).length cS)) = wB at *
        have hbL : Below wB.heap.size wB wB := Below.refl _ _
        have hX0 := (b1.trans (hbX.mono (Nat.le_succ _)))
        go_wp2_with fail
        refine (HCC.out _ hX0).mono ?_
        rintro e wC2 ⟨y1', y2', y3', rfl, hcC2, -, hbC2⟩
        have hbL := bnd_call hbL (Nat.le_refl _) hbC2
        go_wp2_with fail
        refine (HNM.out y.unit _ _ _ _ hcC2).mono ?_
        rintro e wN ⟨rfl, hbN⟩
        have hbL := bnd_call hbL (Nat.le_refl _) hbN
        clear hcC2 hbC2 hbN g0 z0' z1' z2' zl' hX0
        have hbX := hbX.trans (hbL.mono hX1)
        have b1N := b1.trans (hbX.mono (Nat.le_succ _))
        by_cases hn : numU c u y.unit = ⟨#[]⟩
        · rw [show decide (numU c u y.unit ≠ ⟨#[]⟩) = false from decide_eq_false (by simp [hn])]
          have HNN := Lib.hid hn
          clear hn
          obtain ⟨z0, z1, z2, zl⟩ := KC.out _ hbX
          have HSV := Lib.hid (fun (W : World) (hW : Below wN.heap.size wN W) => (hRep.sheets.below shtS ((b1N.trans (hW.mono b1N.size)).mono hB)))
          have KN := Lib.hid (fun (W : World) (hW : Below wN.heap.size wN W) => KC.out _ (hbX.trans (hW.mono (by have := hbX.size; simp at this; omega))))
          have hBN : B ≤ wN.heap.size := Nat.le_trans hB b1N.size
          have hTX := Lib.hid (show ∀ (k : Nat) (x : Sheet) (j : Nat) (f : Fact), c.sheets[k]? = some x → x.facts[j]? = some f → f.text.size ≤ 4096 by
            have hc0 : catE c = 0 := Classical.byContradiction fun e => by
              have := HEE.out
              unfold cmpE at this
              rw [if_pos e] at this
              cases this
            intro k x j f hx hf
            exact (fctE_mem ((catE_zero hc0).2.2.2 x (List.mem_of_getElem? hx)).2.2 (List.mem_of_getElem? hf)).2.2)
          go_wp2
          clear z0 z1 z2 zl
          go_loopw [87] (fun v87 wr => ∃ k : Nat, k ≤ c.sheets.length ∧ v87 = .int .i64 k ∧ Hid (SheetsFree y.unit c.sheets k) ∧ Below wN.heap.size wN wr) (fun v87 _ => c.sheets.length - (intOf v87).toNat)
          case atStart => exact ⟨0, Nat.zero_le _, rfl, Lib.hid (fun j s hj => absurd hj (Nat.not_lt_zero _)), Below.refl _ _⟩
          case round =>
            obtain ⟨k, hk, rfl, HSF, hbR⟩ := hrel
            by_cases hlk : k < c.sheets.length
            · obtain ⟨x, hx⟩ := get_at _ hlk
              have HX := Lib.hid hx
              obtain ⟨bx, offx, vx, e9, hbx, x0, x1, x2, x3, x4, x5, hvx⟩ := Sheets.at_ (HSV.out _ hbR) hx
              injection e9 with e9
              injection e9 with e9 e10
              subst e9 e10
              obtain ⟨AF, cF, rfl, hF1, hF2, _⟩ := id hvx
              have hbwx : b < wr.heap.size := by have : b < B := hbx; have := hbR.size; omega
              have hbS := (Below.refl wr.heap.size wr).alloc (Nat.le_refl _) (shtC x (.slice AF x.facts.length cF))
              have HFX := Lib.hid (fun (W : World) (hW : Below wr.heap.size wr W) => hvx.below fctS (hW.mono (Nat.le_trans hBN hbR.size)))
              have hki : (k : Int) < (c.sheets.length : Int) := by omega
              clear hx
              go_wp2
              clear x0 x1 x2 x3 x4 x5
              obtain ⟨wo1, hwo1⟩ : ∃ wo : World, wo = wr := ⟨_, rfl⟩
              subst hwo1
              go_loopw [94] (fun v94 wr => ∃ j : Nat, j ≤ x.facts.length ∧ v94 = .int .i64 j ∧ Hid (FactsFree y.unit x.facts j) ∧ Below wo1.heap.size wo1 wr) (fun v94 _ => x.facts.length - (intOf v94).toNat)
              case atStart => exact ⟨0, Nat.zero_le _, rfl, Lib.hid (fun j s hj => absurd hj (Nat.not_lt_zero _)), hbS⟩
              case round =>
                clear hbS
                obtain ⟨j, hj, rfl, HFF, hbQ⟩ := hrel
                by_cases hlj : j < x.facts.length
                · obtain ⟨f, hf⟩ := get_at _ hlj
                  have HF := Lib.hid hf
                  have hts := hTX.out k x j f HX.out hf
                  obtain ⟨bf, offf, rfl, hbf, f0, f1, f2⟩ := Facts.at_ (HFX.out _ hbQ) hf
                  have hbwf : bf < wr.heap.size := by have : bf < B := hbf; have := hbR.size; have := hbQ.size; omega
                  have hji : (j : Int) < (x.facts.length : Int) := by omega
                  clear hf
                  go_wp2
                  have hbF := (Below.refl wr.heap.size wr).alloc (Nat.le_refl _) (fctC f)
                  have hI0 : ((wr.alloc (fctC f)).iter f.text 0).heap[wr.heap.size + 1]? = some (.stringIter f.text 0) := by
                    have h5 := World.iter_heap (wr.alloc (fctC f)) f.text 0
                    simpa using h5
                  have hB0 : Below (wr.heap.size + 1) (wr.alloc (fctC f)) ((wr.alloc (fctC f)).iter f.text 0) := (Below.refl _ _).alloc (by simp) _
                  obtain ⟨wo2, hwo2⟩ : ∃ wo : World, wo = wr := ⟨_, rfl⟩
                  subst hwo2
                  have KF := Lib.hid (fun (W : World) (hW : Below (wo2.heap.size + 1) (wo2.alloc (fctC f)) W) => (by
                    have k0 := (hW.block _ (by omega)).trans (heap_newT wo2 (fctC f))
                    exact ⟨by rw [Lib.cell_of_heap k0]; rfl, heap_ltT k0⟩ : W.cell? ⟨wo2.heap.size, 2, none⟩ = some (.string f.text) ∧ wo2.heap.size < W.heap.size))
                  clear f0 f1 f2
                  go_loopw [21] (fun _ wr => ∃ pos : Nat, wr.heap[wo2.heap.size + 1]? = some (.stringIter f.text pos) ∧ Hid (TextFree y.unit f.text pos) ∧ Below (wo2.heap.size + 1) (wo2.alloc (fctC f)) wr) (fun _ wr => f.text.size - wr.iterPos (wo2.heap.size + 1))
                  case atStart => exact ⟨0, hI0, Lib.hid (fun j hj => absurd hj (Nat.not_lt_zero _)), hB0⟩
                  case round =>
                    clear hI0 hB0
                    obtain ⟨pos, hit, HTF, hbI⟩ := hrel
                    have hmu : wr.iterPos (wo2.heap.size + 1) = pos := by simp [World.iterPos, hit]
                    have hbw2 := hbQ.trans ((hbF.trans (hbI.mono (Nat.le_succ _))).mono hbQ.size)
                    by_cases hp : pos < f.text.size
                    · have hnext : ∀ ty, (Instr.next (.pointer (some ⟨wo2.heap.size + 1, 0, none⟩)) true ty).run Tryd.prog wr = _ := fun ty => Lib.run_next_any_at wr (wo2.heap.size + 1) f.text pos ty hit hp
                      have hI1 := Lib.iterAt_heap wr (wo2.heap.size + 1) f.text pos (pos + (Utf8.decode f.text pos).2) hit
                      have hB1 : Below (wo2.heap.size + 1) (wo2.alloc (fctC f)) (wr.iterAt (wo2.heap.size + 1) f.text (pos + (Utf8.decode f.text pos).2)) := Lib.below_iterAt hbI (Nat.le_refl _) f.text _
                      have hbw3 := hbQ.trans ((hbF.trans (hB1.mono (Nat.le_succ _))).mono hbQ.size)
                      have hwd := decode_pos f.text pos hp
                      have HFN := Lib.hid (fun hx => free_next hp HTF.out hx)
                      generalize wr.iterAt (wo2.heap.size + 1) f.text (pos + (Utf8.decode f.text pos).2) = W1 at *
                      obtain ⟨t2, tl⟩ := KF.out _ hB1
                      have hpi : (pos : Int) ≤ (f.text.size : Int) := by omega
                      have HPC := Lib.hid (rpiece_c (f.text.extract pos f.text.size) (by rw [ByteArray.size_extract]; omega) W1)
                      obtain ⟨pn, hpn⟩ : ∃ q : Nat × Nat, q = pieceF (f.text.extract pos f.text.size) := ⟨_, rfl⟩
                      rw [← hpn] at HPC
                      have HPN := Lib.hid hpn
                      clear hpn hit
                      by_cases hcx : (pn.1 : Int) = y.unit
                      · have e1 : ((pn.1 : Int) == y.unit) = true := by rw [hcx]; simp
                        go_wp2_with fail
                        refine HPC.out.mono ?_
                        rintro e w5 ⟨rfl, rfl⟩
                        go_wp2
                        go_ret
                        exact ⟨rfl, b1N.trans ((hbR.trans (hbw3.mono hbR.size)).mono b1N.size)⟩
                      · have e1 : ((pn.1 : Int) == y.unit) = false := by rw [beq_eq_false_iff_ne]; exact hcx
                        have HNX := Lib.hid (HFN.out (by rw [← HPN.out]; exact hcx))
                        clear hcx
                        go_wp2_with fail
                        refine HPC.out.mono ?_
                        rintro e w5 ⟨rfl, rfl⟩
                        go_wp2
                        have hmu2 : w5.iterPos (wo2.heap.size + 1) = pos + (Utf8.decode f.text pos).2 := by simp [World.iterPos, hI1]
                        go_roundw
                        case rel => exact ⟨_, hI1, HNX, hB1⟩
                        case measure => rw [hmu, hmu2]; omega
                    · have hnext : ∀ ty, (Instr.next (.pointer (some ⟨wo2.heap.size + 1, 0, none⟩)) true ty).run Tryd.prog wr = _ := fun ty => Lib.run_next_end_at wr (wo2.heap.size + 1) f.text pos ty hit hp
                      have HFI := Lib.hid (facts_next HF.out HFF.out (free_all (by omega) HTF.out))
                      clear hit
                      go_wp2
                      go_roundw
                      case rel => exact ⟨j + 1, by omega, by go_num, HFI, hbw2⟩
                      case measure => simp [intOf]; omega
                · have HFA := Lib.hid (show FactsFree y.unit x.facts x.facts.length by rw [show x.facts.length = j by omega]; exact HFF.out)
                  go_wp2
                  go_roundw
                  case rel => exact ⟨k + 1, by omega, by go_num, Lib.hid (sheets_next HX.out HSF.out HFA.out), hbR.trans (hbQ.mono hbR.size)⟩
                  case measure => simp [intOf]; omega
            · have HSA := Lib.hid (show SheetsFree y.unit c.sheets c.sheets.length by rw [show c.sheets.length = k by omega]; exact HSF.out)
              obtain ⟨hcm, hai⟩ := apart_ok (t := t) HY.out HT12.out HEE.out HNN.out (nocite_of HSA.out)
              have HCZ := Lib.hid hcm
              have HAI := Lib.hid hai
              have b1R := b1N.trans (hbR.mono b1N.size)
              obtain ⟨z0, z1, z2, zl⟩ := KN.out _ hbR
              clear hcm hai
              go_wp2_with fail
              refine (HCC.out _ b1R).mono ?_
              rintro e wD ⟨q1, q2, q3, rfl, hcD, ⟨-, mD, hmD, hl1, hl2, hrow⟩, hbD⟩
              obtain ⟨g, cap, rfl, hmg, hgD, hcap1, hcap2⟩ := own_ptr hrow rfl HNE.out
              obtain ⟨U1, e1', rfl, -⟩ := id hl1
              obtain ⟨U2, e2', rfl, -⟩ := id hl2
              have hal := (Below.refl wD.heap.size wD).alloc (Nat.le_refl _) (catC (.slice U1 c.langs.length e1') (.slice U2 c.labels.length e2') (.slice (some ⟨g, 0, none⟩) c.sheets.length cap))
              have hrow2 := hrow.below (lowTS mD) hal
              have hkD := heap_newT wD (catC (.slice U1 c.langs.length e1') (.slice U2 c.labels.length e2') (.slice (some ⟨g, 0, none⟩) c.sheets.length cap))
              obtain ⟨cur, hcur⟩ := own_cur hrow2
              obtain ⟨_, _, vo, e9, -, p0, p1, p2, p3, p4, p5, -⟩ := Sheets.at_ (row_sht hrow2 (Nat.le_refl _)) HY.out
              cases e9
              simp only [Nat.zero_add] at p4 p5
              have fz4 := Lib.frozen_of_heap hcur (i * 6 + 4)
              have fz5 := Lib.frozen_of_heap hcur (i * 6 + 5)
              have hgl : g < (wD.alloc (catC (.slice U1 c.langs.length e1') (.slice U2 c.labels.length e2') (.slice (some ⟨g, 0, none⟩) c.sheets.length cap))).heap.size := heap_ltT hcur
              have hdl : wD.heap.size < (wD.alloc (catC (.slice U1 c.langs.length e1') (.slice U2 c.labels.length e2') (.slice (some ⟨g, 0, none⟩) c.sheets.length cap))).heap.size := by simp
              have HGD := Lib.hid (show g ≠ wD.heap.size by omega)
              have HHD := Lib.hid (And.intro hgD hmg)
              have HKD := Lib.hid hkD
              have HRW := Lib.hid hrow2
              have hbWD := bnd_alloc (hbR.trans (hbD.mono hbR.size)) (Nat.le_refl _) (catC (.slice U1 c.langs.length e1') (.slice U2 c.labels.length e2') (.slice (some ⟨g, 0, none⟩) c.sheets.length cap))
              have HLL := Lib.hid (And.intro (hl1.frame strS (fun b hb => hal.block b (by omega))) (hl2.frame labS (fun b hb => hal.block b (by omega))))
              go_upto_region 28 with fail
              have k2 : (wD.alloc (catC (.slice U1 c.langs.length e1') (.slice U2 c.labels.length e2') (.slice (some ⟨g, 0, none⟩) c.sheets.length cap))).cell? ⟨wD.heap.size, 2, none⟩ = some (.slice (some ⟨g, 0, none⟩) c.sheets.length cap) := by rw [Lib.cell_of_heap hkD]; rfl
              clear p0 p1 p2 p3 hkD hrow2 hcur hrow hl1 hl2 z0 z1 z2 zl hal hcD
              generalize wD.alloc (catC (.slice U1 c.langs.length e1') (.slice U2 c.labels.length e2') (.slice (some ⟨g, 0, none⟩) c.sheets.length cap)) = wG at *
              go_region
              have hgN : wN.heap.size ≤ g := by have := HHD.out.2; have := hbR.size; omega
              have hmG : mD ≤ wG.heap.size := by have := HHD.out.2; omega
              have hTR := turn_rep (t := t) HRW.out HY.out
              have hcT : CatRep (turnW wG g i t) wG.heap.size (turnC c i y t) (.slice U1 c.langs.length e1') (.slice U2 c.labels.length e2') (.slice (some ⟨g, 0, none⟩) c.sheets.length cap) :=
                ⟨(HLL.out.1.frame strS (fun b hb => turnW_heap wG g i t b (by have := HHD.out.2; omega))).monoF strS (fun b hb => Nat.lt_of_lt_of_le hb hmG), (HLL.out.2.frame labS (fun b hb => turnW_heap wG g i t b (by have := HHD.out.2; omega))).monoF labS (fun b hb => Nat.lt_of_lt_of_le hb hmG), hTR⟩
              have hkT := (turnW_heap wG g i t wD.heap.size (fun e => HGD.out e.symm)).trans HKD.out
              have hszT := turnW_size wG g i t
              have hbT : Below wN.heap.size wN (turnW wG g i t) := (hbWD.setCell (p := ⟨g, i * 6 + 4, none⟩) hgN _).setCell (p := ⟨g, i * 6 + 5, none⟩) hgN _
              have hc0 : catE c = 0 := Classical.byContradiction fun e => by
                have := HEE.out
                unfold cmpE at this
                rw [if_pos e] at this
                cases this
              have H14 := Lib.hid (show (turnC c i y t).sheets.length ≤ 14 by
                show (c.sheets.set i _).length ≤ 14
                rw [List.length_set]
                exact few14T HFE.out hc0)
              have hszle : wG.heap.size ≤ (turnW wG g i t).heap.size := Nat.le_of_eq hszT.symm
              clear hTR hszT hc0 p4 p5 fz4 fz5 k2 hgl hdl hbWD
              unfold turnW at hcT hkT hbT hszle
              generalize (wG.setCell ⟨g, i * 6 + 4, none⟩ (.string t)).setCell ⟨g, i * 6 + 5, none⟩ (.slice none 0 0) = wT at *
              have zT0 : wT.cell? ⟨wD.heap.size, 0, none⟩ = some (.slice U1 c.langs.length e1') := by rw [Lib.cell_of_heap hkT]; rfl
              have zT1 : wT.cell? ⟨wD.heap.size, 1, none⟩ = some (.slice U2 c.labels.length e2') := by rw [Lib.cell_of_heap hkT]; rfl
              have zT2 : wT.cell? ⟨wD.heap.size, 2, none⟩ = some (.slice (some ⟨g, 0, none⟩) c.sheets.length cap) := by rw [Lib.cell_of_heap hkT]; rfl
              have zTl := heap_ltT hkT
              have HKT := Lib.hid hkT
              clear hkT
              go_wp2_with fail
              refine (HCM.out (turnC c i y t) (fun _ => H14.out) _ _ _ wT.drew wG.heap.size hszle (b1N.trans (hbT.drew.mono b1N.size)) (hcT.below ((Below.refl _ _).drew))).mono ?_
              rintro e wE ⟨vb, rfl, hvb, hbE⟩
              obtain ⟨AB, cB, rfl, -⟩ := id hvb
              obtain ⟨u1, u2⟩ := aid_is HEE.out
              obtain ⟨u3, u4⟩ := aid_is HCZ.out
              have hkA := HKA.out
              rw [u1, u2] at hkA
              rw [HAI.out] at hvb
              rw [HCZ.out, u3, u4, HAI.out]
              have hbZ := (hbL.trans (hbT.drew.mono hbL.size)).trans (hbE.mono (Nat.le_trans hbL.size hbT.size))
              have hbZ2 := bnd_alloc hbZ (Nat.le_refl _) (aidO u s (.slice AB (aidF c u s).length cB))
              have hkA2 := (hbZ2.block wA.heap.size HLA.out).trans hkA
              have hkB2 := heap_newT wE (aidO u s (.slice AB (aidF c u s).length cB))
              have a0 : (wE.alloc (aidO u s (.slice AB (aidF c u s).length cB))).cell? ⟨wA.heap.size, 0, none⟩ = some (.int .i64 u) := by rw [Lib.cell_of_heap hkA2]; rfl
              have a1 : (wE.alloc (aidO u s (.slice AB (aidF c u s).length cB))).cell? ⟨wA.heap.size, 1, none⟩ = some (.string s) := by rw [Lib.cell_of_heap hkA2]; rfl
              have a2 : (wE.alloc (aidO u s (.slice AB (aidF c u s).length cB))).cell? ⟨wA.heap.size, 2, none⟩ = some (.slice AS (aidF c u s).length cS) := by rw [Lib.cell_of_heap hkA2]; rfl
              have al := heap_ltT hkA2
              have hv1 := ((HVA.out.mono secS (Nat.le_of_lt HLA.out)).below secS hbZ2).mono secS hbZ2.size
              have hv2 := ((hvb.frame (w' := wE.alloc (aidO u s (.slice AB (aidF c u s).length cB))) secS (fun b hb => Below.heap_alloc _ _ _ hb)).mono secS (Nat.le_of_lt (heap_ltT hkB2)))
              have b1Z := b1N.trans ((hbT.drew.trans (hbE.mono hbT.size)).mono b1N.size)
              have hfin := b1Z.alloc b1Z.size (aidO u s (.slice AB (aidF c u s).length cB))
              clear hkA hkA2 hkB2 u1 u2 u3 u4 zT0 zT1 zT2
              go_wp2_with fail
              refine (rsame_c u s (aidF c u s) _ _ _ _ (Nat.le_refl _) hv1 hv2).mono ?_
              rintro e w9 ⟨rfl, hb9⟩
              go_wp2
              go_ret
              exact ⟨rfl, hfin.trans (hb9.mono hfin.size)⟩
        · rw [decide_eq_true hn]
          clear hn
          go_wp2
          go_ret
          exact ⟨rfl, b1N⟩
      · obtain ⟨n1, n2⟩ := ne_bool hE
        clear hE
        go_wp2
        go_ret
        exact ⟨rfl, b1.trans ((hbX.alloc (by have := hbX.size; simp at this; omega) _).mono (by omega))⟩
  · have HC1 := Lib.hid hcond
    clear hcond
    go_enter Tryd.func5, Tryd.ntmps5
    go_wp2_with fail
    refine (HA.out _ b1).mono ?_
    rintro e w1 ⟨rfl, hb1⟩
    have hbX := bnd_call hb0 (by simp) hb1
    obtain ⟨z0, z1, z2, zl⟩ := KC.out _ hbX
    go_wp2_with fail
    refine (HFW.out _ (b1.trans (hbX.mono (by omega)))).mono ?_
    rintro e w2 ⟨⟨b, rfl, hF⟩, hb2⟩
    have hbX := bnd_call hbX (by simp) hb2
    clear hb1 hb2 z0 z1 z2 zl
    obtain ⟨z0, z1, z2, zl⟩ := KC.out _ hbX
    cases b
    · go_wp2
      go_ret
      exact ⟨rfl, b1.trans (hbX.mono (by omega))⟩
    · go_wp2_with fail
      all_goals first
        | (go_ret; exact ⟨rfl, b1.trans (hbX.mono (by omega))⟩)
        | (exfalso; have hh := HC1.out; simp only [beq_eq_false_iff_ne, ne_eq] at *; omega)
end Go.Proofs.YtbmlnflacdockaaDoor
