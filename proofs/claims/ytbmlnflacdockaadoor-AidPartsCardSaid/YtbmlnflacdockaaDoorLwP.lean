/- AidParts returns true. -/
import Derived.Test.YtbmlnflacdockaaDoorLwO
import Derived.Test.YtbmlnflacdockaaDoorLbP
namespace Go.Proofs.YtbmlnflacdockaaDoor
open Go.RowKit

abbrev ptW (w : World) (v1 v2 v3 : Value) (u : Int) : World := (w.alloc (catC v1 v2 v3)).alloc (.cells #[.int .i64 u] 3)
theorem ptW_at {w W : World} {v1 v2 v3 : Value} {u : Int} (hW : Below (w.heap.size + 2) (ptW w v1 v2 v3 u) W) : W.cell? ⟨w.heap.size, 0, none⟩ = some v1 ∧ W.cell? ⟨w.heap.size, 1, none⟩ = some v2 ∧ W.cell? ⟨w.heap.size, 2, none⟩ = some v3 ∧ W.cell? ⟨w.heap.size + 1, 0, none⟩ = some (.int .i64 u) ∧ w.heap.size + 1 < W.heap.size := by
  have h0 : (ptW w v1 v2 v3 u).heap[w.heap.size]? = some (catC v1 v2 v3) := by
    rw [Below.heap_alloc _ _ _ (by simp)]
    exact heap_newT _ _
  have h1 : (ptW w v1 v2 v3 u).heap[w.heap.size + 1]? = some (.cells #[.int .i64 u] 3) := heap_atL _ _ _ (by simp)
  have k0 := (hW.block _ (by omega)).trans h0
  have k1 := (hW.block _ (by omega)).trans h1
  exact ⟨by rw [Lib.cell_of_heap k0]; rfl, by rw [Lib.cell_of_heap k0]; rfl, by rw [Lib.cell_of_heap k0]; rfl, by rw [Lib.cell_of_heap k1]; rfl, heap_ltT k1⟩
/-- the part's finding aid, laid -/
def PartAt (c : Cat) (u : Int) (s : ByteArray) (wA : World) (p : Value) (W : World) : Prop := ∃ (g : Nat) (vb : Value), p = .pointer (some ⟨g, 0, none⟩) ∧ W.heap[g]? = some (aidO (aidU c u s) (aidS c u s) vb) ∧ SlRep 3 secR W (fun b => b < W.heap.size) (aidF c u s) vb ∧ Below wA.heap.size wA W
theorem part_new {c : Cat} {u : Int} {s : ByteArray} {wA wD : World} {vb : Value} {lo : Nat} (hb : Below wA.heap.size wA wD) (h : SlRep 3 secR wD (fun b => lo ≤ b ∧ b < wD.heap.size) (aidF c u s) vb) : PartAt c u s wA (.pointer (some ⟨wD.heap.size, 0, none⟩)) (wD.alloc (aidO (aidU c u s) (aidS c u s) vb)) :=
  ⟨_, vb, rfl, heap_newT _ _, (h.frame secS (fun b hb => Below.heap_alloc _ _ _ hb.2)).monoF secS (fun b hb => by have := hb.2; simp; omega), hb.alloc hb.size _⟩
theorem part_set {c : Cat} {u : Int} {s : ByteArray} {wA wD : World} {vb : Value} {lo g : Nat} (hb : Below wA.heap.size wA wD) (h : SlRep 3 secR wD (fun b => lo ≤ b ∧ b < wD.heap.size) (aidF c u s) vb) (hz : wD.heap[g]? = some aidZ) (hg : wA.heap.size ≤ g) (hl : g < lo) :
    PartAt c u s wA (.pointer (some ⟨g, 0, none⟩)) (((wD.setCell ⟨g, 0, none⟩ (.int .i64 (aidU c u s))).setCell ⟨g, 1, none⟩ (.string (aidS c u s))).setCell ⟨g, 2, none⟩ vb) := by
  refine ⟨g, vb, rfl, by simp [World.setCell, Array.getElem?_modify, hz], (h.frame secS (fun b hb => ?_)).monoF secS (fun b hb => by simpa [World.setCell] using hb.2), ((hb.setCell hg _).setCell hg _).setCell hg _⟩
  have hne : b ≠ g := by have := hb.1; omega
  rw [Below.heap_setCell _ _ _ _ hne, Below.heap_setCell _ _ _ _ hne, Below.heap_setCell _ _ _ _ hne]
theorem aidz_at {W : World} {g : Nat} (hz : W.heap[g]? = some aidZ) : W.cell? ⟨g, 0, none⟩ = some (.int .i64 0) ∧ W.cell? ⟨g, 1, none⟩ = some (.string ⟨#[]⟩) ∧ W.cell? ⟨g, 2, none⟩ = some (.slice none 0 0) ∧ W.frozen? ⟨g, 0, none⟩ = false ∧ W.frozen? ⟨g, 1, none⟩ = false ∧ W.frozen? ⟨g, 2, none⟩ = false ∧ g < W.heap.size :=
  ⟨by rw [Lib.cell_of_heap hz]; rfl, by rw [Lib.cell_of_heap hz]; rfl, by rw [Lib.cell_of_heap hz]; rfl, Lib.frozen_of_heap hz 0, Lib.frozen_of_heap hz 1, Lib.frozen_of_heap hz 2, heap_ltT hz⟩
abbrev secO (u : Int) (n : ByteArray) (v : Value) : Obj := .cells #[.int .i64 u, .string n, v] 28
theorem sec_at {W : World} {g : Nat} {u : Int} {n : ByteArray} {v : Value} (h : W.heap[g]? = some (secO u n v)) : W.cell? ⟨g, 0, none⟩ = some (.int .i64 u) ∧ W.cell? ⟨g, 1, none⟩ = some (.string n) ∧ W.cell? ⟨g, 2, none⟩ = some v ∧ g < W.heap.size :=
  ⟨by rw [Lib.cell_of_heap h]; rfl, by rw [Lib.cell_of_heap h]; rfl, by rw [Lib.cell_of_heap h]; rfl, heap_ltT h⟩
theorem PartOk.rest {n : ByteArray} {x t : Sect} (h : PartOk n x t) : (1 : Int) ≤ (x.number.size : Int) ∧ n ++ x.number.extract 1 x.number.size = t.number := by
  obtain ⟨z, hx, ht⟩ := h.num
  have hs : x.number.size = 1 + z.size := by rw [hx, ByteArray.size_append]; rfl
  refine ⟨by omega, ?_⟩
  rw [ht, hs]
  congr 1
  rw [hx]
  exact ByteArray.extract_append_eq_right (by rfl) (by rfl)
abbrev nodO (d : Int) (g x : ByteArray) : Obj := .cells #[.int .i64 d, .string g, .string x] 30
theorem nod_at {W : World} {g : Nat} {d : Int} {x y : ByteArray} (h : W.heap[g]? = some (nodO d x y)) : W.cell? ⟨g, 0, none⟩ = some (.int .i64 d) ∧ W.cell? ⟨g, 1, none⟩ = some (.string x) ∧ W.cell? ⟨g, 2, none⟩ = some (.string y) ∧ g < W.heap.size :=
  ⟨by rw [Lib.cell_of_heap h]; rfl, by rw [Lib.cell_of_heap h]; rfl, by rw [Lib.cell_of_heap h]; rfl, heap_ltT h⟩
theorem trim_one {x z : ByteArray} (h : x = oneS ++ z) : (⟨(Lib.trimPrefix x.data.toList (⟨#[49]⟩ : ByteArray).data.toList).toArray⟩ : ByteArray) = z := by
  subst h
  apply ByteArray.ext
  simp [Lib.trimPrefix, Lib.hasPrefix, oneS]
theorem PartOk.pre {n : ByteArray} {x t : Sect} (h : PartOk n x t) : Lib.hasPrefix x.number.data.toList (⟨#[49]⟩ : ByteArray).data.toList = true := by
  obtain ⟨z, hx, -⟩ := h.num
  rw [hx]
  simp [Lib.hasPrefix, oneS]
set_option maxRecDepth 100000 in
set_option maxHeartbeats 8000000 in
theorem parts_law (c : Cat) (r u : Int) (s : ByteArray) (v1 v2 v3 : Value) (w : World) (B : Nat) (hB : B ≤ w.heap.size) (h : CatRep w B c v1 v2 v3) (hS : SynOk w) :
    Calls Tryd.prog 7 #[.agg #[v1, v2, v3], .int .i64 r, .int .i64 u, .string s] w fun e w' => e = .returned (.bool true) ∧ Below w.heap.size w w' := by
  have HA := Lib.hid (fun (W : World) (hW : Below w.heap.size w W) => awake_c W (hS.below hS.1 hW))
  have b1 : Below w.heap.size w (ptW w v1 v2 v3 u) := ((Below.refl _ _).alloc (Nat.le_refl _) _).alloc (by simp) _
  have hb0 : Below (w.heap.size + 2) (ptW w v1 v2 v3 u) (ptW w v1 v2 v3 u) := Below.refl _ _
  have KC := Lib.hid (fun (W : World) (hW : Below (w.heap.size + 2) (ptW w v1 v2 v3 u) W) => (ptW_at hW))
  have HFW := Lib.hid (fun (W : World) (hW : Below w.heap.size w W) => few_c c v1 v2 v3 W B (Nat.le_trans hB hW.size) (h.below (hW.mono hB)))
  have HCP := Lib.hid (fun (hF : FewOk c) (W : World) (hW : Below w.heap.size w W) => rcopy_c c v1 v2 v3 W B (Nat.le_trans hB hW.size) (h.below (hW.mono hB)) hF)
  have HCM := Lib.hid (fun (hF : FewOk c) (x : Int) (y1 y2 y3 : Value) (W : World) (B : Nat) (hB : B ≤ W.heap.size) (hW : Below w.heap.size w W) (hc : CatRep W B c y1 y2 y3) => Compile_lo c x s y1 y2 y3 W B hB hc (few14 hF) (hS.below hS.1 hW))
  have HNM := Lib.hid (fun (hF : FewOk c) (y1 y2 y3 : Value) (W : World) (hc : CatRep W W.heap.size c y1 y2 y3) => Number_c c r u y1 y2 y3 W W.heap.size (Nat.le_refl _) hc (few14 hF))
  obtain ⟨A1, c1, rfl, ha1, ha2, _⟩ := id h.langs
  obtain ⟨A2, c2, rfl, hb1, hb2, _⟩ := id h.labels
  obtain ⟨A3, c3, rfl, hd1, hd2, _⟩ := id h.sheets
  by_cases h10 : s.size ≤ 10
  · have d2 : decide ((10 : Int) < (s.size : Int)) = false := decide_eq_false (by omega)
    go_enter Tryd.func7, Tryd.ntmps7
    go_wp2_with fail
    refine (HA.out _ b1).mono ?_
    rintro e w1 ⟨rfl, hb1⟩
    have hbX := bnd_call hb0 (by simp) hb1
    obtain ⟨z0, z1, z2, z3, zl⟩ := KC.out _ hbX
    go_wp2_with fail
    refine (HFW.out _ (b1.trans (hbX.mono (by omega)))).mono ?_
    rintro e w2 ⟨⟨b, rfl, hF⟩, hb2⟩
    have hbX := bnd_call hbX (by simp) hb2
    clear hb1 hb2 z0 z1 z2 z3 zl
    obtain ⟨z0, z1, z2, z3, zl⟩ := KC.out _ hbX
    cases b
    · go_wp2
      go_ret
      exact ⟨rfl, b1.trans (hbX.mono (by omega))⟩
    · have hF := hF rfl
      have HFE := Lib.hid hF
      have HCC := Lib.hid (HCP.out hF)
      have HCM := Lib.hid (HCM.out hF)
      have HNM := Lib.hid (HNM.out hF)
      clear hF HCP h z0 z1 z2 z3 zl
      go_wp2
      have hbX := hbX.drew
      go_region_held3 (fun W => W.cell? ⟨w.heap.size, 0, none⟩ = some (.slice A1 c.langs.length c1) ∧ W.cell? ⟨w.heap.size, 1, none⟩ = some (.slice A2 c.labels.length c2) ∧ W.cell? ⟨w.heap.size, 2, none⟩ = some (.slice A3 c.sheets.length c3) ∧ W.cell? ⟨w.heap.size + 1, 0, none⟩ = some (.int .i64 u) ∧ w.heap.size + 1 < W.heap.size) (with_reducible exact KC.out _ hbX) (first
        | (go_at_call 14; (with_reducible refine (HCC.out _ (b1.trans (hbX.mono (Nat.le_add_right _ _)))).mono ?_); rintro e wC ⟨y1, y2, y3, rfl, hcC, -, hbC⟩; have hbX := bnd_call hbX (by simp) hbC)
        | (go_at_call 15; (with_reducible refine (HNM.out _ _ _ _ hcC).mono ?_); rintro e wQ ⟨rfl, hbQ⟩; have hbX := bnd_call hbX (by simp) hbQ))
      clear hcC
      obtain ⟨z0, z1, z2, z3, zl⟩ := KC.out _ hbX
      by_cases hn : numU c r u = ⟨#[]⟩
      · rw [hn]
        clear hn
        go_wp2
        go_ret
        exact ⟨rfl, b1.trans (hbX.mono (by omega))⟩
      · obtain ⟨hE, hP⟩ := parts_ok (s := s) (few14 HFE.out) hn
        rw [decide_eq_false hn]
        have HP := Lib.hid hP
        have HE := Lib.hid hE
        clear hP hE hn
        go_wp2_with fail
        refine (HCC.out _ (b1.trans (hbX.mono (by omega)))).mono ?_
        rintro e wE ⟨y1', y2', y3', rfl, hcE, -, hbE⟩
        have hbX := bnd_call hbX (by simp) hbE
        go_wp2_with fail
        refine (HCM.out r _ _ _ _ _ (Nat.le_refl _) (b1.trans (hbX.mono (by omega))) hcE).mono ?_
        rintro e wA ⟨va, rfl, hva, hbA⟩
        have hbX := bnd_call hbX (by simp) hbA
        clear hbE hcE hbA z0 z1 z2 z3 zl
        obtain ⟨z0, z1, z2, z3, zl⟩ := KC.out _ hbX
        obtain ⟨AS, cS, rfl, hs1, hs2, _⟩ := id hva
        go_upto_region 9 with fail
        have hbX := hbX.alloc (by have := hbX.size; simp at this; omega) (aidO (aidU c r s) (aidS c r s) (.slice AS (aidF c r s).length cS))
        have hvA := (hva.frame (w' := wA.alloc (aidO (aidU c r s) (aidS c r s) (.slice AS (aidF c r s).length cS))) secS (fun b hb => Below.heap_alloc _ _ _ hb.2)).monoF secS (F' := fun b => b < wA.heap.size) (fun b hb => hb.2)
        have hkA := heap_newT wA (aidO (aidU c r s) (aidS c r s) (.slice AS (aidF c r s).length cS))
        have hzA : (wA.alloc (aidO (aidU c r s) (aidS c r s) (.slice AS (aidF c r s).length cS))).heap.size = wA.heap.size + 1 := by simp
        have HZA := Lib.hid hzA
        have HKA := Lib.hid hkA
        clear hzA hkA hva z0 z1 z2 z3 zl
        generalize wA.alloc (aidO (aidU c r s) (aidS c r s) (.slice AS (aidF c r s).length cS)) = wB at *
        go_cut [13, 14] (fun p e W => e = .int .i64 (cmpE c u s) ∧ PartAt c u s wB p W)
        case first =>
          have hwB : w.heap.size + 2 ≤ wB.heap.size := by have := hbX.size; simp at this; omega
          have hbY : Below wB.heap.size wB wB.drew := (Below.refl _ _).drew
          have hbYA : Below wB.heap.size wB (wB.alloc aidZ).drew := (bnd_alloc (Below.refl _ _) (Nat.le_refl _) _).drew
          have KC2 := Lib.hid (fun (W : World) (hW : Below wB.heap.size wB W) => KC.out _ (hbX.trans (hW.mono hwB)))
          have HX2 := Lib.hid (fun (W : World) (hW : Below wB.heap.size wB W) => b1.trans ((hbX.trans (hW.mono hwB)).mono (Nat.le_add_right _ _)))
          have HLT := Lib.hid (fun (W : World) => show W.heap.size < (W.alloc aidZ).heap.size by simp)
          go_region_held3 (fun W => W.cell? ⟨w.heap.size, 0, none⟩ = some (.slice A1 c.langs.length c1) ∧ W.cell? ⟨w.heap.size, 1, none⟩ = some (.slice A2 c.labels.length c2) ∧ W.cell? ⟨w.heap.size, 2, none⟩ = some (.slice A3 c.sheets.length c3) ∧ W.cell? ⟨w.heap.size + 1, 0, none⟩ = some (.int .i64 u) ∧ w.heap.size + 1 < W.heap.size) (first | with_reducible exact KC2.out _ hbY | with_reducible exact KC2.out _ hbYA | with_reducible exact KC2.out _ (bnd_alloc hbY (Nat.le_refl _) _) | with_reducible exact KC2.out _ (((hbY.setCell hgY _).setCell hgY _).setCell hgY _)) (first
            | (go_at_call 14; (with_reducible refine (HCC.out _ (HX2.out _ hbY)).mono ?_); rintro e wC ⟨y1, y2, y3, rfl, hcC, -, hb'⟩; have hbY := bnd_call hbY (Nat.le_refl _) hb'; have tokA : True := trivial)
            | (go_at_call 14; (with_reducible refine (HCC.out _ (HX2.out _ hbYA)).mono ?_); rintro e wC ⟨y1, y2, y3, rfl, hcC, -, hb'⟩; have hbY := bnd_call hbYA (Nat.le_refl _) hb'; have hz := (hb'.block wB.heap.size (HLT.out _)).trans (heap_newT wB aidZ); have hgl := Nat.lt_of_lt_of_le (HLT.out _) hb'.size; have hgY := Nat.le_refl wB.heap.size; have tokB : True := trivial)
            | (go_at_call 13; clear tokA; (with_reducible refine (HCM.out u _ _ _ _ _ (Nat.le_refl _) (HX2.out _ hbY) hcC).mono ?_); rintro e wD ⟨vb, rfl, hvb, hb'⟩; have hbY := bnd_call hbY (Nat.le_refl _) hb'; obtain ⟨AB, cB, rfl, -⟩ := id hvb; have tokC : True := trivial)
            | (go_at_call 13; clear tokB; (with_reducible refine (HCM.out u _ _ _ _ _ (Nat.le_refl _) (HX2.out _ hbY) hcC).mono ?_); rintro e wD ⟨vb, rfl, hvb, hb'⟩; have hbY := bnd_call hbY (Nat.le_refl _) hb'; obtain ⟨AB, cB, rfl, -⟩ := id hvb; have hz := (hb'.block _ hgl).trans hz; have hat := aidz_at hz; obtain ⟨f0, f1, f2, f3, f4, f5, f6⟩ := id hat; have tokD : True := trivial)
            | (go_at_call 13; clear tokA; (with_reducible refine (HCM.out u _ _ _ (wC.alloc aidZ) _ (Nat.le_of_lt (HLT.out _)) (HX2.out _ (bnd_alloc hbY (Nat.le_refl _) _)) (hcC.below ((Below.refl _ _).alloc (Nat.le_refl _) _))).mono ?_); rintro e wD ⟨vb, rfl, hvb, hb'⟩; have hgY := hbY.size; have hgl := HLT.out wC; have hz := (hb'.block wC.heap.size (HLT.out _)).trans (heap_newT wC aidZ); have hbY := bnd_call (bnd_alloc hbY (Nat.le_refl _) _) (Nat.le_refl _) hb'; obtain ⟨AB, cB, rfl, -⟩ := id hvb; have hat := aidz_at hz; obtain ⟨f0, f1, f2, f3, f4, f5, f6⟩ := id hat; have tokE : True := trivial))
          all_goals (go_wp2_with fail; go_meet)
          all_goals first
            | exact ⟨rfl, part_new hbY hvb⟩
            | exact ⟨rfl, part_set hbY hvb hz hgY hgl⟩
        case rest =>
          obtain ⟨rfl, g, vb, rfl, hgb, hvb, hbP⟩ := hcut
          obtain ⟨wP, hwP⟩ : ∃ wP : World, wP = wc := ⟨_, rfl⟩
          subst hwP
          obtain ⟨AP, cP, rfl, hp1, hp2, _⟩ := id hvb
          have hzB : wA.heap.size < wB.heap.size := by have := HZA.out; omega
          have hwB : w.heap.size + 2 ≤ wB.heap.size := by have := hbX.size; simp at this; omega
          have hwP : wB.heap.size ≤ wP.heap.size := hbP.size
          have hkA := (hbP.block wA.heap.size hzB).trans HKA.out
          have hvW := hvA.below secS (hbP.mono (Nat.le_of_lt hzB))
          have hbX := hbX.trans (hbP.mono hwB)
          have KP := Lib.hid (fun (W : World) (hW : Below wP.heap.size wP W) => (by
            have k0 := (hW.block g (heap_ltT hgb)).trans hgb
            have k1 := (hW.block wA.heap.size (heap_ltT hkA)).trans hkA
            exact ⟨by rw [Lib.cell_of_heap k1]; rfl, by rw [Lib.cell_of_heap k0]; rfl, heap_ltT k1, heap_ltT k0⟩ : W.cell? ⟨wA.heap.size, 2, none⟩ = some (.slice AS (aidF c r s).length cS) ∧ W.cell? ⟨g, 2, none⟩ = some (.slice AP (aidF c u s).length cP) ∧ wA.heap.size < W.heap.size ∧ g < W.heap.size))
          have HV1 := Lib.hid (fun (W : World) (hW : Below wP.heap.size wP W) => hvW.below secS (hW.mono (Nat.le_trans (Nat.le_of_lt hzB) hwP)))
          have HV2 := Lib.hid (fun (W : World) (hW : Below wP.heap.size wP W) => hvb.below secS hW)
          have HIX := Lib.hid (indexQc_c (.pointer (some ⟨w.heap.size + 1, 0, none⟩)) (fun x => decide (x.unit = u)) (aidF c r s) (.slice AS (aidF c r s).length cS) wP wA.heap.size (Nat.le_trans (Nat.le_of_lt hzB) hwP) hvW
            (fun x vf W' hW' hvf => parts1_c u (w.heap.size + 1) x vf hvf W' ((ptW_at (hbX.trans (hW'.mono (by have := hbX.size; simp at *; omega)))).2.2.2.1) (by have := hW'.size; omega)))
          have b1P := b1.trans (hbX.mono (by omega))
          clear hzB HKA HZA hvA hkA hgb hvb hvW hbP hwB hwP
          by_cases hz : cmpE c r s = 0
          · have hz2 : cmpE c u s = 0 := HE.out ▸ hz
            obtain ⟨hsm, hat⟩ : PartsP (numU c r u) u (aidF c r s) (aidF c u s) := HP.out hz
            obtain ⟨at_, hat1, hat2, hat3⟩ := PartsP.at_ ⟨hsm, hat⟩
            have HAT := Lib.hid hat3
            rw [hat1] at HIX
            rw [hz, hz2]
            obtain ⟨p0, p1, p2, p3⟩ := KP.out _ (Below.refl _ _)
            clear hz hz2 hat hat1 hat3
            go_wp2_with fail
            refine HIX.out.mono ?_
            rintro e wI ⟨rfl, hbI⟩
            have b1I := bnd_call b1P (Nat.le_refl _) (hbI.mono (by have := b1P.size; omega))
            clear p0 p1 p2 p3
            obtain ⟨p0, p1, p2, p3⟩ := KP.out _ hbI
            have hq1 : decide ((at_ : Int) < 0) = false := by simp
            have hq2 : IntKind.i64.wrap ((at_ : Int) + ((aidF c u s).length : Int)) = (at_ : Int) + ((aidF c u s).length : Int) := IntWalk.i64_in _ (by omega)
            have hq3 : decide (((aidF c r s).length : Int) < (at_ : Int) + ((aidF c u s).length : Int)) = false := by simp; omega
            go_wp2_with fail
            refine (Tryd.strings_Count_one (numU c r u) 46 wI).mono ?_
            rintro e wT ⟨rfl, rfl⟩
            rw [show ((Lib.countByte (numU c r u).data.toList 46 : Nat) : Int) = pntN (numU c r u) from rfl]
            go_wp2
            clear p0 p1 p2 p3 hq1 hq2 hq3
            go_loopw [92] (fun v92 wr => ∃ i : Nat, i ≤ (aidF c u s).length ∧ v92 = .int .i64 i ∧ Below wP.heap.size wP wr) (fun v92 _ => (aidF c u s).length - (intOf v92).toNat)
            case atStart => exact ⟨0, Nat.zero_le _, rfl, hbI⟩
            case round =>
              clear hbI
              obtain ⟨i, hi, rfl, hbR⟩ := hrel
              by_cases hli : i < (aidF c u s).length
              · obtain ⟨x, hx⟩ := get_at _ hli
                obtain ⟨t, ht, hpt⟩ := HAT.out i x hx
                obtain ⟨m, hm⟩ : ∃ m : Nat, m = at_ + i := ⟨_, rfl⟩
                rw [← hm] at ht
                have hml := lt_of_at ht
                have hq4 : IntKind.i64.wrap ((at_ : Int) + (i : Int)) = (m : Int) := by rw [IntWalk.i64_in _ (by omega)]; omega
                obtain ⟨bs, offs, vx, rfl, hbs, g0, g1, g2, hvx⟩ := Sects.at_ (HV2.out _ hbR) hx
                obtain ⟨bt, offt, vt, rfl, hbt, q0, q1, q2, hvt⟩ := Sects.at_ (HV1.out _ hbR) ht
                rw [← hpt.unit] at q0
                obtain ⟨AX, cX, rfl, hX1, hX2, -⟩ := id hvx
                obtain ⟨AT, cT, rfl, hT1, hT2, -⟩ := id hvt
                obtain ⟨p0, p1, p2, p3⟩ := KP.out _ hbR
                have bl1 : bs < wr.heap.size := by have : bs < wP.heap.size := hbs; have := hbR.size; omega
                have bl2 : bt < wr.heap.size := by have : bt < wA.heap.size := hbt; omega
                have HPT := Lib.hid hpt
                clear hx ht hm hpt
                go_wp2
                have hbS : Below wr.heap.size wr ((wr.alloc (secO x.unit x.number (.slice AX x.nodes.length cX))).alloc (secO x.unit t.number (.slice AT t.nodes.length cT))) := ((Below.refl _ _).alloc (Nat.le_refl _) _).alloc (by simp) _
                have k0 : ((wr.alloc (secO x.unit x.number (.slice AX x.nodes.length cX))).alloc (secO x.unit t.number (.slice AT t.nodes.length cT))).heap[wr.heap.size]? = some (secO x.unit x.number (.slice AX x.nodes.length cX)) := (Below.heap_alloc _ _ _ (by simp)).trans (heap_newT _ _)
                have k1 : ((wr.alloc (secO x.unit x.number (.slice AX x.nodes.length cX))).alloc (secO x.unit t.number (.slice AT t.nodes.length cT))).heap[wr.heap.size + 1]? = some (secO x.unit t.number (.slice AT t.nodes.length cT)) := heap_atL _ _ _ (by simp)
                have hzr : wA.heap.size ≤ wr.heap.size := Nat.le_of_lt p2
                clear g0 g1 g2 q0 q1 q2 p0 p1 p2 p3 hq4
                generalize (wr.alloc (secO x.unit x.number (.slice AX x.nodes.length cX))).alloc (secO x.unit t.number (.slice AT t.nodes.length cT)) = wS at *
                have KS := Lib.hid (fun (W : World) (hW : Below wS.heap.size wS W) => sec_at ((hW.block _ (heap_ltT k0)).trans k0))
                have KT := Lib.hid (fun (W : World) (hW : Below wS.heap.size wS W) => sec_at ((hW.block _ (heap_ltT k1)).trans k1))
                clear k0 k1
                obtain ⟨g0, g1, g2, g3⟩ := KS.out _ (Below.refl _ _)
                obtain ⟨q0, q1, q2, q3⟩ := KT.out _ (Below.refl _ _)
                have HHP := Lib.hid (fun (W : World) => show Calls Tryd.prog 29 #[.string x.number, .string ⟨#[49]⟩] W fun e w' => e = .returned (.bool true) ∧ w' = W from by
                  have := Tryd.strings_HasPrefix x.number ⟨#[49]⟩ W
                  rwa [HPT.out.pre] at this)
                have hn1 : ((x.nodes.length : Int) != (t.nodes.length : Int)) = false := by rw [HPT.out.len]; simp
                have hn2 : ((x.nodes.length : Int) == 0) = false := by have := HPT.out.pos; rw [beq_eq_false_iff_ne]; omega
                obtain ⟨hs1', hxt⟩ := HPT.out.rest
                have hs2' : ¬ 9223372036854775807 < (numU c r u).size + (x.number.size - 1) := by have := HPT.out.nsz; omega
                refine wp_region_held_drew (S := (fun W => W = wS.drew)) (by kernel_rfl) (by first | rfl | assumption) (fun hHeld => ?_)
                refine wpAnyH_take (i := 0) (oi := ⟨some 104, _, _, _, _, _⟩) (v := ?_) rfl (by kernel_rfl) (by kernel_rfl) (by kernel_rfl) (fun _ _ _ h => h) (Or.inl ⟨by kernel_rfl, ?_⟩) (by assumption) ?_
                rotate_left
                · (intro w hSw; subst hSw; (try dsimp only at hSw); go_simp; try with_reducible rfl)
                try simp only [Act.put, List.setIfInBounds_toArray, List.set_cons_zero, List.set_cons_succ]
                refine wpAnyH_take (i := 1) (oi := ⟨some 105, _, _, _, _, _⟩) (v := ?_) rfl (by kernel_rfl) (by kernel_rfl) (by kernel_rfl) (fun _ _ _ h => h) (Or.inl ⟨by kernel_rfl, ?_⟩) (by assumption) ?_
                rotate_left
                · (intro w hSw; subst hSw; (try dsimp only at hSw); go_simp; try with_reducible rfl)
                try simp only [Act.put, List.setIfInBounds_toArray, List.set_cons_zero, List.set_cons_succ]
                refine wpAnyH_take (i := 2) (oi := ⟨some 106, _, _, _, _, _⟩) (v := ?_) rfl (by kernel_rfl) (by kernel_rfl) (by kernel_rfl) (fun _ _ _ h => h) (Or.inl ⟨by kernel_rfl, ?_⟩) (by assumption) ?_
                rotate_left
                · (intro w hSw; subst hSw; (try dsimp only at hSw); go_simp; try with_reducible rfl)
                try simp only [Act.put, List.setIfInBounds_toArray, List.set_cons_zero, List.set_cons_succ]
                refine wpAnyH_take (i := 3) (oi := ⟨some 107, _, _, _, _, _⟩) (v := ?_) rfl (by kernel_rfl) (by kernel_rfl) (by kernel_rfl) (fun _ _ _ h => h) (Or.inl ⟨by kernel_rfl, ?_⟩) (by assumption) ?_
                rotate_left
                · (intro w hSw; subst hSw; (try dsimp only at hSw); go_simp; try with_reducible rfl)
                try simp only [Act.put, List.setIfInBounds_toArray, List.set_cons_zero, List.set_cons_succ]
                refine wpAnyH_take (i := 4) (oi := ⟨some 108, _, _, _, _, _⟩) (v := ?_) rfl (by kernel_rfl) (by kernel_rfl) (by kernel_rfl) (fun _ _ _ h => h) (Or.inl ⟨by kernel_rfl, ?_⟩) (by assumption) ?_
                rotate_left
                · (intro w hSw; subst hSw; (try dsimp only at hSw); go_simp; try with_reducible rfl)
                try simp only [Act.put, List.setIfInBounds_toArray, List.set_cons_zero, List.set_cons_succ]
                refine wpAnyH_take (i := 5) (oi := ⟨some 109, _, _, _, _, _⟩) (v := ?_) rfl (by kernel_rfl) (by kernel_rfl) (by kernel_rfl) (fun _ _ _ h => h) (Or.inl ⟨by kernel_rfl, ?_⟩) (by assumption) ?_
                rotate_left
                · (intro w hSw; subst hSw; (try dsimp only at hSw); go_simp; try with_reducible rfl)
                try simp only [Act.put, List.setIfInBounds_toArray, List.set_cons_zero, List.set_cons_succ]
                refine wpAnyH_take (i := 6) (oi := ⟨some 110, _, _, _, _, _⟩) (v := ?_) rfl (by kernel_rfl) (by kernel_rfl) (by kernel_rfl) (fun _ _ _ h => h) (Or.inl ⟨by kernel_rfl, ?_⟩) (by assumption) ?_
                rotate_left
                · (intro w hSw; subst hSw; (try dsimp only at hSw); go_simp; try with_reducible rfl)
                try simp only [Act.put, List.setIfInBounds_toArray, List.set_cons_zero, List.set_cons_succ]
                refine wpAnyH_take (i := 7) (oi := ⟨some 111, _, _, _, _, _⟩) (v := ?_) rfl (by kernel_rfl) (by kernel_rfl) (by kernel_rfl) (fun _ _ _ h => h) (Or.inl ⟨by kernel_rfl, ?_⟩) (by assumption) ?_
                rotate_left
                · (intro w hSw; subst hSw; (try dsimp only at hSw); go_simp; try with_reducible rfl)
                try simp only [Act.put, List.setIfInBounds_toArray, List.set_cons_zero, List.set_cons_succ]
                refine wpAnyH_ready (rs := [8]) (by kernel_rfl) (by simp) ?_
                refine AllReadyH.cons (o := ⟨some 112, _, _, _, _, _⟩) rfl (fun K hK => ?_) AllReadyH.nil
                go_simp
                (go_at_call 29; (refine (HHP.out _).mono ?_); rintro e wV ⟨rfl, rfl⟩)
                go_wp2_with fail
                refine hK.out _ _ (by first | rfl | assumption) (fun hHeld => ?_)
                clear hK K
                try simp only [Act.put, List.setIfInBounds_toArray, List.set_cons_zero, List.set_cons_succ]
                refine wpAnyH_take (i := 9) (oi := ⟨some 113, _, _, _, _, _⟩) (v := ?_) rfl (by kernel_rfl) (by kernel_rfl) (by kernel_rfl) (fun _ _ _ h => h) (Or.inl ⟨by kernel_rfl, ?_⟩) (by assumption) ?_
                rotate_left
                · (intro w hSw; subst hSw; (try dsimp only at hSw); go_simp; try with_reducible rfl)
                try simp only [Act.put, List.setIfInBounds_toArray, List.set_cons_zero, List.set_cons_succ]
                refine wpAnyH_take (i := 10) (oi := ⟨some 114, _, _, _, _, _⟩) (v := ?_) rfl (by kernel_rfl) (by kernel_rfl) (by kernel_rfl) (fun _ _ _ h => h) (Or.inl ⟨by kernel_rfl, ?_⟩) (by assumption) ?_
                rotate_left
                · (intro w hSw; subst hSw; (try dsimp only at hSw); go_simp; try with_reducible rfl)
                try simp only [Act.put, List.setIfInBounds_toArray, List.set_cons_zero, List.set_cons_succ]
                refine wpAnyH_take (i := 11) (oi := ⟨some 115, _, _, _, _, _⟩) (v := ?_) rfl (by kernel_rfl) (by kernel_rfl) (by kernel_rfl) (fun _ _ _ h => h) (Or.inl ⟨by kernel_rfl, ?_⟩) (by assumption) ?_
                rotate_left
                · (intro w hSw; subst hSw; (try dsimp only at hSw); go_simp; try with_reducible rfl)
                try simp only [Act.put, List.setIfInBounds_toArray, List.set_cons_zero, List.set_cons_succ]
                refine wpAnyH_take (i := 12) (oi := ⟨some 116, _, _, _, _, _⟩) (v := ?_) rfl (by kernel_rfl) (by kernel_rfl) (by kernel_rfl) (fun _ _ _ h => h) (Or.inl ⟨by kernel_rfl, ?_⟩) (by assumption) ?_
                rotate_left
                · (intro w hSw; subst hSw; (try dsimp only at hSw); go_simp; try with_reducible rfl)
                try simp only [Act.put, List.setIfInBounds_toArray, List.set_cons_zero, List.set_cons_succ]
                refine wpAnyH_take (i := 13) (oi := ⟨some 117, _, _, _, _, _⟩) (v := ?_) rfl (by kernel_rfl) (by kernel_rfl) (by kernel_rfl) (fun _ _ _ h => h) (Or.inl ⟨by kernel_rfl, ?_⟩) (by assumption) ?_
                rotate_left
                · (intro w hSw; subst hSw; (try dsimp only at hSw); go_simp; try with_reducible rfl)
                try simp only [Act.put, List.setIfInBounds_toArray, List.set_cons_zero, List.set_cons_succ]
                refine wpAnyH_take (i := 14) (oi := ⟨some 118, _, _, _, _, _⟩) (v := ?_) rfl (by kernel_rfl) (by kernel_rfl) (by kernel_rfl) (fun _ _ _ h => h) (Or.inl ⟨by kernel_rfl, ?_⟩) (by assumption) ?_
                rotate_left
                · (intro w hSw; subst hSw; (try dsimp only at hSw); go_simp; try with_reducible rfl)
                try simp only [Act.put, List.setIfInBounds_toArray, List.set_cons_zero, List.set_cons_succ]
                refine wpAnyH_take (i := 15) (oi := ⟨some 119, _, _, _, _, _⟩) (v := ?_) rfl (by kernel_rfl) (by kernel_rfl) (by kernel_rfl) (fun _ _ _ h => h) (Or.inl ⟨by kernel_rfl, ?_⟩) (by assumption) ?_
                rotate_left
                · (intro w hSw; subst hSw; (try dsimp only at hSw); go_simp; try with_reducible rfl)
                try simp only [Act.put, List.setIfInBounds_toArray, List.set_cons_zero, List.set_cons_succ]
                refine wpAnyH_take (i := 16) (oi := ⟨some 120, _, _, _, _, _⟩) (v := ?_) rfl (by kernel_rfl) (by kernel_rfl) (by kernel_rfl) (fun _ _ _ h => h) (Or.inl ⟨by kernel_rfl, ?_⟩) (by assumption) ?_
                rotate_left
                · (intro w hSw; subst hSw; (try dsimp only at hSw); go_simp; try with_reducible rfl)
                try simp only [Act.put, List.setIfInBounds_toArray, List.set_cons_zero, List.set_cons_succ]
                refine wpAnyH_take (i := 17) (oi := ⟨some 121, _, _, _, _, _⟩) (v := ?_) rfl (by kernel_rfl) (by kernel_rfl) (by kernel_rfl) (fun _ _ _ h => h) (Or.inl ⟨by kernel_rfl, ?_⟩) (by assumption) ?_
                rotate_left
                · (intro w hSw; subst hSw; (try dsimp only at hSw); go_simp; try with_reducible rfl)
                try simp only [Act.put, List.setIfInBounds_toArray, List.set_cons_zero, List.set_cons_succ]
                refine wpAnyH_take (i := 18) (oi := ⟨some 122, _, _, _, _, _⟩) (v := ?_) rfl (by kernel_rfl) (by kernel_rfl) (by kernel_rfl) (fun _ _ _ h => h) (Or.inl ⟨by kernel_rfl, ?_⟩) (by assumption) ?_
                rotate_left
                · (intro w hSw; subst hSw; (try dsimp only at hSw); go_simp; try with_reducible rfl)
                try simp only [Act.put, List.setIfInBounds_toArray, List.set_cons_zero, List.set_cons_succ]
                refine wpAnyH_take (i := 19) (oi := ⟨some 123, _, _, _, _, _⟩) (v := ?_) rfl (by kernel_rfl) (by kernel_rfl) (by kernel_rfl) (fun _ _ _ h => h) (Or.inl ⟨by kernel_rfl, ?_⟩) (by assumption) ?_
                rotate_left
                · (intro w hSw; subst hSw; (try dsimp only at hSw); go_simp; try with_reducible rfl)
                try simp only [Act.put, List.setIfInBounds_toArray, List.set_cons_zero, List.set_cons_succ]
                refine wpAnyH_take (i := 20) (oi := ⟨some 124, _, _, _, _, _⟩) (v := ?_) rfl (by kernel_rfl) (by kernel_rfl) (by kernel_rfl) (fun _ _ _ h => h) (Or.inl ⟨by kernel_rfl, ?_⟩) (by assumption) ?_
                rotate_left
                · (intro w hSw; subst hSw; (try dsimp only at hSw); go_simp; try with_reducible rfl)
                try simp only [Act.put, List.setIfInBounds_toArray, List.set_cons_zero, List.set_cons_succ]
                refine wpAnyH_take (i := 21) (oi := ⟨some 125, _, _, _, _, _⟩) (v := ?_) rfl (by kernel_rfl) (by kernel_rfl) (by kernel_rfl) (fun _ _ _ h => h) (Or.inl ⟨by kernel_rfl, ?_⟩) (by assumption) ?_
                rotate_left
                · (intro w hSw; subst hSw; (try dsimp only at hSw); go_simp; try with_reducible rfl)
                try simp only [Act.put, List.setIfInBounds_toArray, List.set_cons_zero, List.set_cons_succ]
                refine wpAnyH_take (i := 22) (oi := ⟨some 126, _, _, _, _, _⟩) (v := ?_) rfl (by kernel_rfl) (by kernel_rfl) (by kernel_rfl) (fun _ _ _ h => h) (Or.inl ⟨by kernel_rfl, ?_⟩) (by assumption) ?_
                rotate_left
                · (intro w hSw; subst hSw; (try dsimp only at hSw); go_simp; try with_reducible rfl)
                try simp only [Act.put, List.setIfInBounds_toArray, List.set_cons_zero, List.set_cons_succ]
                refine wpAnyH_take (i := 23) (oi := ⟨some 127, _, _, _, _, _⟩) (v := ?_) rfl (by kernel_rfl) (by kernel_rfl) (by kernel_rfl) (fun _ _ _ h => h) (Or.inl ⟨by kernel_rfl, ?_⟩) (by assumption) ?_
                rotate_left
                · (intro w hSw; subst hSw; (try dsimp only at hSw); go_simp; try with_reducible rfl)
                try simp only [Act.put, List.setIfInBounds_toArray, List.set_cons_zero, List.set_cons_succ]
                refine wpAnyH_take (i := 24) (oi := ⟨some 128, _, _, _, _, _⟩) (v := ?_) rfl (by kernel_rfl) (by kernel_rfl) (by kernel_rfl) (fun _ _ _ h => h) (Or.inl ⟨by kernel_rfl, ?_⟩) (by assumption) ?_
                rotate_left
                · (intro w hSw; subst hSw; (try dsimp only at hSw); go_simp; try with_reducible rfl)
                try simp only [Act.put, List.setIfInBounds_toArray, List.set_cons_zero, List.set_cons_succ]
                refine wpAnyH_take (i := 25) (oi := ⟨some 129, _, _, _, _, _⟩) (v := ?_) rfl (by kernel_rfl) (by kernel_rfl) (by kernel_rfl) (fun _ _ _ h => h) (Or.inl ⟨by kernel_rfl, ?_⟩) (by assumption) ?_
                rotate_left
                · (intro w hSw; subst hSw; (try dsimp only at hSw); go_simp; try with_reducible rfl)
                try simp only [Act.put, List.setIfInBounds_toArray, List.set_cons_zero, List.set_cons_succ]
                refine wpAnyH_take (i := 26) (oi := ⟨some 130, _, _, _, _, _⟩) (v := ?_) rfl (by kernel_rfl) (by kernel_rfl) (by kernel_rfl) (fun _ _ _ h => h) (Or.inl ⟨by kernel_rfl, ?_⟩) (by assumption) ?_
                rotate_left
                · (intro w hSw; subst hSw; (try dsimp only at hSw); go_simp; try with_reducible rfl)
                try simp only [Act.put, List.setIfInBounds_toArray, List.set_cons_zero, List.set_cons_succ]
                refine wpAnyH_take (i := 27) (oi := ⟨some 131, _, _, _, _, _⟩) (v := ?_) rfl (by kernel_rfl) (by kernel_rfl) (by kernel_rfl) (fun _ _ _ h => h) (Or.inl ⟨by kernel_rfl, ?_⟩) (by assumption) ?_
                rotate_left
                · (intro w hSw; subst hSw; (try dsimp only at hSw); go_simp; try with_reducible rfl)
                try simp only [Act.put, List.setIfInBounds_toArray, List.set_cons_zero, List.set_cons_succ]
                refine wpAnyH_take (i := 28) (oi := ⟨some 132, _, _, _, _, _⟩) (v := ?_) rfl (by kernel_rfl) (by kernel_rfl) (by kernel_rfl) (fun _ _ _ h => h) (Or.inl ⟨by kernel_rfl, ?_⟩) (by assumption) ?_
                rotate_left
                · (intro w hSw; subst hSw; (try dsimp only at hSw); go_simp; try with_reducible rfl)
                try simp only [Act.put, List.setIfInBounds_toArray, List.set_cons_zero, List.set_cons_succ]
                refine wpAnyH_take (i := 29) (oi := ⟨some 133, _, _, _, _, _⟩) (v := ?_) rfl (by kernel_rfl) (by kernel_rfl) (by kernel_rfl) (fun _ _ _ h => h) (Or.inl ⟨by kernel_rfl, ?_⟩) (by assumption) ?_
                rotate_left
                · (intro w hSw; subst hSw; (try dsimp only at hSw); go_simp; try with_reducible rfl)
                try simp only [Act.put, List.setIfInBounds_toArray, List.set_cons_zero, List.set_cons_succ]
                refine wpAnyH_take (i := 30) (oi := ⟨some 134, _, _, _, _, _⟩) (v := ?_) rfl (by kernel_rfl) (by kernel_rfl) (by kernel_rfl) (fun _ _ _ h => h) (Or.inl ⟨by kernel_rfl, ?_⟩) (by assumption) ?_
                rotate_left
                · (intro w hSw; subst hSw; (try dsimp only at hSw); go_simp; try with_reducible rfl)
                try simp only [Act.put, List.setIfInBounds_toArray, List.set_cons_zero, List.set_cons_succ]
                refine wpAnyH_take (i := 31) (oi := ⟨some 135, _, _, _, _, _⟩) (v := ?_) rfl (by kernel_rfl) (by kernel_rfl) (by kernel_rfl) (fun _ _ _ h => h) (Or.inl ⟨by kernel_rfl, ?_⟩) (by assumption) ?_
                rotate_left
                · (intro w hSw; subst hSw; (try dsimp only at hSw); go_simp; try with_reducible rfl)
                try simp only [Act.put, List.setIfInBounds_toArray, List.set_cons_zero, List.set_cons_succ]
                refine wpAnyH_take (i := 32) (oi := ⟨some 136, _, _, _, _, _⟩) (v := ?_) rfl (by kernel_rfl) (by kernel_rfl) (by kernel_rfl) (fun _ _ _ h => h) (Or.inl ⟨by kernel_rfl, ?_⟩) (by assumption) ?_
                rotate_left
                · (intro w hSw; subst hSw; (try dsimp only at hSw); go_simp; try with_reducible rfl)
                try simp only [Act.put, List.setIfInBounds_toArray, List.set_cons_zero, List.set_cons_succ]
                refine wpAnyH_take (i := 33) (oi := ⟨some 137, _, _, _, _, _⟩) (v := ?_) rfl (by kernel_rfl) (by kernel_rfl) (by kernel_rfl) (fun _ _ _ h => h) (Or.inl ⟨by kernel_rfl, ?_⟩) (by assumption) ?_
                rotate_left
                · (intro w hSw; subst hSw; (try dsimp only at hSw); go_simp; try with_reducible rfl)
                try simp only [Act.put, List.setIfInBounds_toArray, List.set_cons_zero, List.set_cons_succ]
                refine wpAnyH_take (i := 34) (oi := ⟨some 138, _, _, _, _, _⟩) (v := ?_) rfl (by kernel_rfl) (by kernel_rfl) (by kernel_rfl) (fun _ _ _ h => h) (Or.inl ⟨by kernel_rfl, ?_⟩) (by assumption) ?_
                rotate_left
                · (intro w hSw; subst hSw; (try dsimp only at hSw); go_simp; try with_reducible rfl)
                try simp only [Act.put, List.setIfInBounds_toArray, List.set_cons_zero, List.set_cons_succ]
                refine wpAnyH_take (i := 35) (oi := ⟨some 139, _, _, _, _, _⟩) (v := ?_) rfl (by kernel_rfl) (by kernel_rfl) (by kernel_rfl) (fun _ _ _ h => h) (Or.inl ⟨by kernel_rfl, ?_⟩) (by assumption) ?_
                rotate_left
                · (intro w hSw; subst hSw; (try dsimp only at hSw); go_simp; try with_reducible rfl)
                try simp only [Act.put, List.setIfInBounds_toArray, List.set_cons_zero, List.set_cons_succ]
                refine wpAnyH_done (by kernel_rfl) ?_ _
                clear hs1' hs2' hxt hn1 hn2 HHP
                obtain ⟨wo, hwo⟩ : ∃ wo : World, wo = wr := ⟨_, rfl⟩
                subst hwo
                have hoS : wo.heap.size ≤ wS.heap.size := hbS.size
                go_wp2
                clear g0 g1 g2 g3 q0 q1 q2 q3
                go_loopw [143] (fun v143 wr => ∃ k : Nat, k ≤ x.nodes.length ∧ v143 = .int .i64 k ∧ Below wS.heap.size wS wr) (fun v143 _ => x.nodes.length - (intOf v143).toNat)
                case atStart => exact ⟨0, Nat.zero_le _, rfl, (Below.refl _ _).drew⟩
                case round =>
                  obtain ⟨k, hk, rfl, hbK⟩ := hrel
                  by_cases hlk : k < x.nodes.length
                  · have hlk2 : k < t.nodes.length := by rw [← HPT.out.len]; exact hlk
                    obtain ⟨a, ha⟩ := get_at _ hlk
                    obtain ⟨b, hb⟩ := get_at _ hlk2
                    obtain ⟨a1, a2, a3, a4⟩ := HPT.out.at_ k a b ha hb
                    obtain ⟨a5, a6⟩ := HPT.out.small a (List.mem_of_getElem? ha)
                    have hbo := hbS.trans (hbK.mono hoS)
                    obtain ⟨ba, offa, rfl, hba, x0, x1, x2⟩ := Nodes.at_ (hvx.below nodS (hbo.mono hbR.size)) ha
                    obtain ⟨bb, offb, rfl, hbb, y0, y1, y2⟩ := Nodes.at_ (hvt.below nodS (hbo.mono (by omega))) hb
                    rw [← a2] at y1
                    obtain ⟨g0, g1, g2, g3⟩ := KS.out _ hbK
                    obtain ⟨q0, q1, q2, q3⟩ := KT.out _ hbK
                    have bl3 : ba < wr.heap.size := by have : ba < wP.heap.size := hba; have := hbR.size; have := hbo.size; omega
                    have bl4 : bb < wr.heap.size := by have : bb < wA.heap.size := hbb; have := hbo.size; omega
                    have hw5 : IntKind.i64.wrap (a.depth + pntN (numU c r u)) = b.depth := by rw [IntWalk.i64_in _ (by omega)]; exact a1
                    have HTZ := Lib.hid (show k = 0 → a.text.size ≤ 1000 from fun e => HPT.out.tsz a (by rw [← e]; exact ha))
                    have H3 := Lib.hid a3
                    have H4 := Lib.hid a4
                    clear ha hb a1 a2 a3 a4 a5 a6
                    go_upto_region 25 with fail
                    go_cut [21, 22] (fun p q W => ∃ g h : Nat, p = .pointer (some ⟨g, 0, none⟩) ∧ q = .pointer (some ⟨h, 0, none⟩) ∧ W.heap[g]? = some (nodO a.depth a.tag a.text) ∧ W.heap[h]? = some (nodO b.depth a.tag b.text) ∧ Below wS.heap.size wS W)
                    case first =>
                      go_region
                      all_goals (go_wp2_with fail; go_meet)
                      all_goals first
                        | exact ⟨wr.heap.size, wr.heap.size + 1, rfl, rfl, (Below.heap_alloc _ _ _ (by simp)).trans (heap_newT _ _), heap_atL _ _ _ (by simp), ((hbK.alloc hbK.size _).alloc (by have := hbK.size; simp; omega) _).drew⟩
                        | exact ⟨wr.heap.size + 1, wr.heap.size, rfl, rfl, heap_atL _ _ _ (by simp), (Below.heap_alloc _ _ _ (by simp)).trans (heap_newT _ _), ((hbK.alloc hbK.size _).alloc (by have := hbK.size; simp; omega) _).drew⟩
                    case rest =>
                      obtain ⟨g', h', rfl, rfl, n0, n1, hbN⟩ := hcut
                      obtain ⟨wN, hwN⟩ : ∃ wN : World, wN = wc := ⟨_, rfl⟩
                      subst hwN
                      clear g0 g1 g2 g3 q0 q1 q2 q3 x0 x1 x2 y0 y1 y2
                      obtain ⟨x0, x1, x2, x3⟩ := nod_at n0
                      obtain ⟨y0, y1, y2, y3⟩ := nod_at n1
                      clear n0 n1
                      rcases Nat.eq_zero_or_pos k with hk0 | hk0
                      · subst hk0
                        obtain ⟨z, hz1, hz2⟩ := H4.out rfl
                        have HTP := Lib.hid (fun (W : World) => show Calls Tryd.prog 30 #[.string a.text, .string ⟨#[49]⟩] W fun e w' => e = .returned (.string z) ∧ w' = W from by
                          have := Tryd.strings_TrimPrefix a.text ⟨#[49]⟩ W
                          rwa [trim_one hz1] at this)
                        have hz3 : numU c r u ++ z = b.text := hz2.symm
                        have hz4 : ¬ 9223372036854775807 < (numU c r u).size + z.size := by
                          have h1 := HTZ.out rfl
                          rw [hz1, ByteArray.size_append] at h1
                          omega
                        clear hz1 hz2
                        go_upto_region 26 with fail
                        refine wp_region_held_drew (S := (fun W => W = wN.drew)) (by kernel_rfl) (by first | rfl | assumption) (fun hHeld => ?_)
                        refine wpAnyH_take (i := 0) (oi := ⟨some 156, _, _, _, _, _⟩) (v := ?_) rfl (by kernel_rfl) (by kernel_rfl) (by kernel_rfl) (fun _ _ _ h => h) (Or.inl ⟨by kernel_rfl, ?_⟩) (by assumption) ?_
                        rotate_left
                        · (intro w hSw; subst hSw; (try dsimp only at hSw); go_simp; try with_reducible rfl)
                        try simp only [Act.put, List.setIfInBounds_toArray, List.set_cons_zero, List.set_cons_succ]
                        refine wpAnyH_take (i := 1) (oi := ⟨some 157, _, _, _, _, _⟩) (v := ?_) rfl (by kernel_rfl) (by kernel_rfl) (by kernel_rfl) (fun _ _ _ h => h) (Or.inl ⟨by kernel_rfl, ?_⟩) (by assumption) ?_
                        rotate_left
                        · (intro w hSw; subst hSw; (try dsimp only at hSw); go_simp; try with_reducible rfl)
                        try simp only [Act.put, List.setIfInBounds_toArray, List.set_cons_zero, List.set_cons_succ]
                        refine wpAnyH_take (i := 2) (oi := ⟨some 158, _, _, _, _, _⟩) (v := ?_) rfl (by kernel_rfl) (by kernel_rfl) (by kernel_rfl) (fun _ _ _ h => h) (Or.inl ⟨by kernel_rfl, ?_⟩) (by assumption) ?_
                        rotate_left
                        · (intro w hSw; subst hSw; (try dsimp only at hSw); go_simp; try with_reducible rfl)
                        try simp only [Act.put, List.setIfInBounds_toArray, List.set_cons_zero, List.set_cons_succ]
                        refine wpAnyH_take (i := 3) (oi := ⟨some 159, _, _, _, _, _⟩) (v := ?_) rfl (by kernel_rfl) (by kernel_rfl) (by kernel_rfl) (fun _ _ _ h => h) (Or.inl ⟨by kernel_rfl, ?_⟩) (by assumption) ?_
                        rotate_left
                        · (intro w hSw; subst hSw; (try dsimp only at hSw); go_simp; try with_reducible rfl)
                        try simp only [Act.put, List.setIfInBounds_toArray, List.set_cons_zero, List.set_cons_succ]
                        refine wpAnyH_take (i := 4) (oi := ⟨some 160, _, _, _, _, _⟩) (v := ?_) rfl (by kernel_rfl) (by kernel_rfl) (by kernel_rfl) (fun _ _ _ h => h) (Or.inl ⟨by kernel_rfl, ?_⟩) (by assumption) ?_
                        rotate_left
                        · (intro w hSw; subst hSw; (try dsimp only at hSw); go_simp; try with_reducible rfl)
                        try simp only [Act.put, List.setIfInBounds_toArray, List.set_cons_zero, List.set_cons_succ]
                        refine wpAnyH_take (i := 5) (oi := ⟨some 161, _, _, _, _, _⟩) (v := ?_) rfl (by kernel_rfl) (by kernel_rfl) (by kernel_rfl) (fun _ _ _ h => h) (Or.inl ⟨by kernel_rfl, ?_⟩) (by assumption) ?_
                        rotate_left
                        · (intro w hSw; subst hSw; (try dsimp only at hSw); go_simp; try with_reducible rfl)
                        try simp only [Act.put, List.setIfInBounds_toArray, List.set_cons_zero, List.set_cons_succ]
                        refine wpAnyH_take (i := 6) (oi := ⟨some 162, _, _, _, _, _⟩) (v := ?_) rfl (by kernel_rfl) (by kernel_rfl) (by kernel_rfl) (fun _ _ _ h => h) (Or.inl ⟨by kernel_rfl, ?_⟩) (by assumption) ?_
                        rotate_left
                        · (intro w hSw; subst hSw; (try dsimp only at hSw); go_simp; try with_reducible rfl)
                        try simp only [Act.put, List.setIfInBounds_toArray, List.set_cons_zero, List.set_cons_succ]
                        refine wpAnyH_take (i := 7) (oi := ⟨some 163, _, _, _, _, _⟩) (v := ?_) rfl (by kernel_rfl) (by kernel_rfl) (by kernel_rfl) (fun _ _ _ h => h) (Or.inl ⟨by kernel_rfl, ?_⟩) (by assumption) ?_
                        rotate_left
                        · (intro w hSw; subst hSw; (try dsimp only at hSw); go_simp; try with_reducible rfl)
                        try simp only [Act.put, List.setIfInBounds_toArray, List.set_cons_zero, List.set_cons_succ]
                        refine wpAnyH_take (i := 8) (oi := ⟨some 164, _, _, _, _, _⟩) (v := ?_) rfl (by kernel_rfl) (by kernel_rfl) (by kernel_rfl) (fun _ _ _ h => h) (Or.inl ⟨by kernel_rfl, ?_⟩) (by assumption) ?_
                        rotate_left
                        · (intro w hSw; subst hSw; (try dsimp only at hSw); go_simp; try with_reducible rfl)
                        try simp only [Act.put, List.setIfInBounds_toArray, List.set_cons_zero, List.set_cons_succ]
                        refine wpAnyH_take (i := 9) (oi := ⟨some 165, _, _, _, _, _⟩) (v := ?_) rfl (by kernel_rfl) (by kernel_rfl) (by kernel_rfl) (fun _ _ _ h => h) (Or.inl ⟨by kernel_rfl, ?_⟩) (by assumption) ?_
                        rotate_left
                        · (intro w hSw; subst hSw; (try dsimp only at hSw); go_simp; try with_reducible rfl)
                        try simp only [Act.put, List.setIfInBounds_toArray, List.set_cons_zero, List.set_cons_succ]
                        refine wpAnyH_take (i := 10) (oi := ⟨some 166, _, _, _, _, _⟩) (v := ?_) rfl (by kernel_rfl) (by kernel_rfl) (by kernel_rfl) (fun _ _ _ h => h) (Or.inl ⟨by kernel_rfl, ?_⟩) (by assumption) ?_
                        rotate_left
                        · (intro w hSw; subst hSw; (try dsimp only at hSw); go_simp; try with_reducible rfl)
                        try simp only [Act.put, List.setIfInBounds_toArray, List.set_cons_zero, List.set_cons_succ]
                        refine wpAnyH_take (i := 11) (oi := ⟨some 167, _, _, _, _, _⟩) (v := ?_) rfl (by kernel_rfl) (by kernel_rfl) (by kernel_rfl) (fun _ _ _ h => h) (Or.inl ⟨by kernel_rfl, ?_⟩) (by assumption) ?_
                        rotate_left
                        · (intro w hSw; subst hSw; (try dsimp only at hSw); go_simp; try with_reducible rfl)
                        try simp only [Act.put, List.setIfInBounds_toArray, List.set_cons_zero, List.set_cons_succ]
                        refine wpAnyH_take (i := 12) (oi := ⟨some 168, _, _, _, _, _⟩) (v := ?_) rfl (by kernel_rfl) (by kernel_rfl) (by kernel_rfl) (fun _ _ _ h => h) (Or.inl ⟨by kernel_rfl, ?_⟩) (by assumption) ?_
                        rotate_left
                        · (intro w hSw; subst hSw; (try dsimp only at hSw); go_simp; try with_reducible rfl)
                        try simp only [Act.put, List.setIfInBounds_toArray, List.set_cons_zero, List.set_cons_succ]
                        refine wpAnyH_take (i := 13) (oi := ⟨some 169, _, _, _, _, _⟩) (v := ?_) rfl (by kernel_rfl) (by kernel_rfl) (by kernel_rfl) (fun _ _ _ h => h) (Or.inl ⟨by kernel_rfl, ?_⟩) (by assumption) ?_
                        rotate_left
                        · (intro w hSw; subst hSw; (try dsimp only at hSw); go_simp; try with_reducible rfl)
                        try simp only [Act.put, List.setIfInBounds_toArray, List.set_cons_zero, List.set_cons_succ]
                        refine wpAnyH_take (i := 14) (oi := ⟨some 170, _, _, _, _, _⟩) (v := ?_) rfl (by kernel_rfl) (by kernel_rfl) (by kernel_rfl) (fun _ _ _ h => h) (Or.inl ⟨by kernel_rfl, ?_⟩) (by assumption) ?_
                        rotate_left
                        · (intro w hSw; subst hSw; (try dsimp only at hSw); go_simp; try with_reducible rfl)
                        try simp only [Act.put, List.setIfInBounds_toArray, List.set_cons_zero, List.set_cons_succ]
                        refine wpAnyH_take (i := 15) (oi := ⟨some 171, _, _, _, _, _⟩) (v := ?_) rfl (by kernel_rfl) (by kernel_rfl) (by kernel_rfl) (fun _ _ _ h => h) (Or.inl ⟨by kernel_rfl, ?_⟩) (by assumption) ?_
                        rotate_left
                        · (intro w hSw; subst hSw; (try dsimp only at hSw); go_simp; try with_reducible rfl)
                        try simp only [Act.put, List.setIfInBounds_toArray, List.set_cons_zero, List.set_cons_succ]
                        refine wpAnyH_take (i := 16) (oi := ⟨some 172, _, _, _, _, _⟩) (v := ?_) rfl (by kernel_rfl) (by kernel_rfl) (by kernel_rfl) (fun _ _ _ h => h) (Or.inl ⟨by kernel_rfl, ?_⟩) (by assumption) ?_
                        rotate_left
                        · (intro w hSw; subst hSw; (try dsimp only at hSw); go_simp; try with_reducible rfl)
                        try simp only [Act.put, List.setIfInBounds_toArray, List.set_cons_zero, List.set_cons_succ]
                        refine wpAnyH_take (i := 17) (oi := ⟨some 173, _, _, _, _, _⟩) (v := ?_) rfl (by kernel_rfl) (by kernel_rfl) (by kernel_rfl) (fun _ _ _ h => h) (Or.inl ⟨by kernel_rfl, ?_⟩) (by assumption) ?_
                        rotate_left
                        · (intro w hSw; subst hSw; (try dsimp only at hSw); go_simp; try with_reducible rfl)
                        try simp only [Act.put, List.setIfInBounds_toArray, List.set_cons_zero, List.set_cons_succ]
                        refine wpAnyH_take (i := 18) (oi := ⟨some 174, _, _, _, _, _⟩) (v := undef) rfl (by kernel_rfl) (by kernel_rfl) (by kernel_rfl) (fun _ _ _ h => h) (Or.inr ⟨by kernel_rfl, rfl⟩) (by assumption) ?_
                        try simp only [Act.put, List.setIfInBounds_toArray, List.set_cons_zero, List.set_cons_succ]
                        refine wpAnyH_take (i := 19) (oi := ⟨some 175, _, _, _, _, _⟩) (v := undef) rfl (by kernel_rfl) (by kernel_rfl) (by kernel_rfl) (fun _ _ _ h => h) (Or.inr ⟨by kernel_rfl, rfl⟩) (by assumption) ?_
                        try simp only [Act.put, List.setIfInBounds_toArray, List.set_cons_zero, List.set_cons_succ]
                        refine wpAnyH_take (i := 20) (oi := ⟨some 176, _, _, _, _, _⟩) (v := undef) rfl (by kernel_rfl) (by kernel_rfl) (by kernel_rfl) (fun _ _ _ h => h) (Or.inr ⟨by kernel_rfl, rfl⟩) (by assumption) ?_
                        try simp only [Act.put, List.setIfInBounds_toArray, List.set_cons_zero, List.set_cons_succ]
                        refine wpAnyH_take (i := 21) (oi := ⟨some 177, _, _, _, _, _⟩) (v := undef) rfl (by kernel_rfl) (by kernel_rfl) (by kernel_rfl) (fun _ _ _ h => h) (Or.inr ⟨by kernel_rfl, rfl⟩) (by assumption) ?_
                        try simp only [Act.put, List.setIfInBounds_toArray, List.set_cons_zero, List.set_cons_succ]
                        refine wpAnyH_take (i := 22) (oi := ⟨some 178, _, _, _, _, _⟩) (v := undef) rfl (by kernel_rfl) (by kernel_rfl) (by kernel_rfl) (fun _ _ _ h => h) (Or.inr ⟨by kernel_rfl, rfl⟩) (by assumption) ?_
                        try simp only [Act.put, List.setIfInBounds_toArray, List.set_cons_zero, List.set_cons_succ]
                        refine wpAnyH_take (i := 23) (oi := ⟨some 179, _, _, _, _, _⟩) (v := ?_) rfl (by kernel_rfl) (by kernel_rfl) (by kernel_rfl) (fun _ _ _ h => h) (Or.inl ⟨by kernel_rfl, ?_⟩) (by assumption) ?_
                        rotate_left
                        · (intro w hSw; subst hSw; (try dsimp only at hSw); go_simp; try with_reducible rfl)
                        try simp only [Act.put, List.setIfInBounds_toArray, List.set_cons_zero, List.set_cons_succ]
                        refine wpAnyH_take (i := 24) (oi := ⟨some 180, _, _, _, _, _⟩) (v := ?_) rfl (by kernel_rfl) (by kernel_rfl) (by kernel_rfl) (fun _ _ _ h => h) (Or.inl ⟨by kernel_rfl, ?_⟩) (by assumption) ?_
                        rotate_left
                        · (intro w hSw; subst hSw; (try dsimp only at hSw); go_simp; try with_reducible rfl)
                        try simp only [Act.put, List.setIfInBounds_toArray, List.set_cons_zero, List.set_cons_succ]
                        refine wpAnyH_take (i := 25) (oi := ⟨some 181, _, _, _, _, _⟩) (v := ?_) rfl (by kernel_rfl) (by kernel_rfl) (by kernel_rfl) (fun _ _ _ h => h) (Or.inl ⟨by kernel_rfl, ?_⟩) (by assumption) ?_
                        rotate_left
                        · (intro w hSw; subst hSw; (try dsimp only at hSw); go_simp; try with_reducible rfl)
                        try simp only [Act.put, List.setIfInBounds_toArray, List.set_cons_zero, List.set_cons_succ]
                        refine wpAnyH_take (i := 26) (oi := ⟨some 182, _, _, _, _, _⟩) (v := ?_) rfl (by kernel_rfl) (by kernel_rfl) (by kernel_rfl) (fun _ _ _ h => h) (Or.inl ⟨by kernel_rfl, ?_⟩) (by assumption) ?_
                        rotate_left
                        · (intro w hSw; subst hSw; (try dsimp only at hSw); go_simp; try with_reducible rfl)
                        try simp only [Act.put, List.setIfInBounds_toArray, List.set_cons_zero, List.set_cons_succ]
                        refine wpAnyH_take (i := 27) (oi := ⟨some 183, _, _, _, _, _⟩) (v := ?_) rfl (by kernel_rfl) (by kernel_rfl) (by kernel_rfl) (fun _ _ _ h => h) (Or.inl ⟨by kernel_rfl, ?_⟩) (by assumption) ?_
                        rotate_left
                        · (intro w hSw; subst hSw; (try dsimp only at hSw); go_simp; try with_reducible rfl)
                        try simp only [Act.put, List.setIfInBounds_toArray, List.set_cons_zero, List.set_cons_succ]
                        refine wpAnyH_take (i := 28) (oi := ⟨some 184, _, _, _, _, _⟩) (v := ?_) rfl (by kernel_rfl) (by kernel_rfl) (by kernel_rfl) (fun _ _ _ h => h) (Or.inl ⟨by kernel_rfl, ?_⟩) (by assumption) ?_
                        rotate_left
                        · (intro w hSw; subst hSw; (try dsimp only at hSw); go_simp; try with_reducible rfl)
                        try simp only [Act.put, List.setIfInBounds_toArray, List.set_cons_zero, List.set_cons_succ]
                        refine wpAnyH_take (i := 29) (oi := ⟨some 185, _, _, _, _, _⟩) (v := ?_) rfl (by kernel_rfl) (by kernel_rfl) (by kernel_rfl) (fun _ _ _ h => h) (Or.inl ⟨by kernel_rfl, ?_⟩) (by assumption) ?_
                        rotate_left
                        · (intro w hSw; subst hSw; (try dsimp only at hSw); go_simp; try with_reducible rfl)
                        try simp only [Act.put, List.setIfInBounds_toArray, List.set_cons_zero, List.set_cons_succ]
                        refine wpAnyH_take (i := 30) (oi := ⟨some 186, _, _, _, _, _⟩) (v := ?_) rfl (by kernel_rfl) (by kernel_rfl) (by kernel_rfl) (fun _ _ _ h => h) (Or.inl ⟨by kernel_rfl, ?_⟩) (by assumption) ?_
                        rotate_left
                        · (intro w hSw; subst hSw; (try dsimp only at hSw); go_simp; try with_reducible rfl)
                        try simp only [Act.put, List.setIfInBounds_toArray, List.set_cons_zero, List.set_cons_succ]
                        refine wpAnyH_take (i := 31) (oi := ⟨some 187, _, _, _, _, _⟩) (v := ?_) rfl (by kernel_rfl) (by kernel_rfl) (by kernel_rfl) (fun _ _ _ h => h) (Or.inl ⟨by kernel_rfl, ?_⟩) (by assumption) ?_
                        rotate_left
                        · (intro w hSw; subst hSw; (try dsimp only at hSw); go_simp; try with_reducible rfl)
                        try simp only [Act.put, List.setIfInBounds_toArray, List.set_cons_zero, List.set_cons_succ]
                        refine wpAnyH_take (i := 34) (oi := ⟨some 190, _, _, _, _, _⟩) (v := ?_) rfl (by kernel_rfl) (by kernel_rfl) (by kernel_rfl) (fun _ _ _ h => h) (Or.inl ⟨by kernel_rfl, ?_⟩) (by assumption) ?_
                        rotate_left
                        · (intro w hSw; subst hSw; (try dsimp only at hSw); go_simp; try with_reducible rfl)
                        try simp only [Act.put, List.setIfInBounds_toArray, List.set_cons_zero, List.set_cons_succ]
                        refine wpAnyH_take (i := 35) (oi := ⟨some 191, _, _, _, _, _⟩) (v := ?_) rfl (by kernel_rfl) (by kernel_rfl) (by kernel_rfl) (fun _ _ _ h => h) (Or.inl ⟨by kernel_rfl, ?_⟩) (by assumption) ?_
                        rotate_left
                        · (intro w hSw; subst hSw; (try dsimp only at hSw); go_simp; try with_reducible rfl)
                        try simp only [Act.put, List.setIfInBounds_toArray, List.set_cons_zero, List.set_cons_succ]
                        refine wpAnyH_ready (rs := [32]) (by kernel_rfl) (by simp) ?_
                        refine AllReadyH.cons (o := ⟨some 188, _, _, _, _, _⟩) rfl (fun K hK => ?_) AllReadyH.nil
                        go_simp
                        (go_at_call 30; (refine (HTP.out _).mono ?_); rintro e wV ⟨rfl, rfl⟩)
                        go_wp2_with fail
                        refine hK.out _ _ (by first | rfl | assumption) (fun hHeld => ?_)
                        clear hK K
                        try simp only [Act.put, List.setIfInBounds_toArray, List.set_cons_zero, List.set_cons_succ]
                        refine wpAnyH_take (i := 33) (oi := ⟨some 189, _, _, _, _, _⟩) (v := ?_) rfl (by kernel_rfl) (by kernel_rfl) (by kernel_rfl) (fun _ _ _ h => h) (Or.inl ⟨by kernel_rfl, ?_⟩) (by assumption) ?_
                        rotate_left
                        · (intro w hSw; subst hSw; (try dsimp only at hSw); go_simp; try with_reducible rfl)
                        try simp only [Act.put, List.setIfInBounds_toArray, List.set_cons_zero, List.set_cons_succ]
                        refine wpAnyH_take (i := 36) (oi := ⟨some 192, _, _, _, _, _⟩) (v := ?_) rfl (by kernel_rfl) (by kernel_rfl) (by kernel_rfl) (fun _ _ _ h => h) (Or.inl ⟨by kernel_rfl, ?_⟩) (by assumption) ?_
                        rotate_left
                        · (intro w hSw; subst hSw; (try dsimp only at hSw); go_simp; try with_reducible rfl)
                        try simp only [Act.put, List.setIfInBounds_toArray, List.set_cons_zero, List.set_cons_succ]
                        refine wpAnyH_take (i := 37) (oi := ⟨some 193, _, _, _, _, _⟩) (v := ?_) rfl (by kernel_rfl) (by kernel_rfl) (by kernel_rfl) (fun _ _ _ h => h) (Or.inl ⟨by kernel_rfl, ?_⟩) (by assumption) ?_
                        rotate_left
                        · (intro w hSw; subst hSw; (try dsimp only at hSw); go_simp; try with_reducible rfl)
                        try simp only [Act.put, List.setIfInBounds_toArray, List.set_cons_zero, List.set_cons_succ]
                        refine wpAnyH_take (i := 38) (oi := ⟨some 194, _, _, _, _, _⟩) (v := ?_) rfl (by kernel_rfl) (by kernel_rfl) (by kernel_rfl) (fun _ _ _ h => h) (Or.inl ⟨by kernel_rfl, ?_⟩) (by assumption) ?_
                        rotate_left
                        · (intro w hSw; subst hSw; (try dsimp only at hSw); go_simp; try with_reducible rfl)
                        try simp only [Act.put, List.setIfInBounds_toArray, List.set_cons_zero, List.set_cons_succ]
                        refine wpAnyH_done (by kernel_rfl) ?_ _
                        go_wp2
                        go_roundw
                        case rel => exact ⟨1, by omega, by go_num, hbN.drew⟩
                        case measure => simp [intOf]; omega
                      · have hz3 : b.text = a.text := (H3.out hk0).symm
                        have hk1 : decide ((0 : Int) < (k : Int)) = true := decide_eq_true (by omega)
                        have hk2 : ((k : Int) == 0) = false := by rw [beq_eq_false_iff_ne]; omega
                        rw [hz3] at y2
                        clear hz3
                        go_upto_region 26 with fail
                        refine wp_region_held_drew (S := (fun W => W = wN.drew)) (by kernel_rfl) (by first | rfl | assumption) (fun hHeld => ?_)
                        refine wpAnyH_take (i := 0) (oi := ⟨some 156, _, _, _, _, _⟩) (v := ?_) rfl (by kernel_rfl) (by kernel_rfl) (by kernel_rfl) (fun _ _ _ h => h) (Or.inl ⟨by kernel_rfl, ?_⟩) (by assumption) ?_
                        rotate_left
                        · (intro w hSw; subst hSw; (try dsimp only at hSw); go_simp; try with_reducible rfl)
                        try simp only [Act.put, List.setIfInBounds_toArray, List.set_cons_zero, List.set_cons_succ]
                        refine wpAnyH_take (i := 1) (oi := ⟨some 157, _, _, _, _, _⟩) (v := ?_) rfl (by kernel_rfl) (by kernel_rfl) (by kernel_rfl) (fun _ _ _ h => h) (Or.inl ⟨by kernel_rfl, ?_⟩) (by assumption) ?_
                        rotate_left
                        · (intro w hSw; subst hSw; (try dsimp only at hSw); go_simp; try with_reducible rfl)
                        try simp only [Act.put, List.setIfInBounds_toArray, List.set_cons_zero, List.set_cons_succ]
                        refine wpAnyH_take (i := 2) (oi := ⟨some 158, _, _, _, _, _⟩) (v := ?_) rfl (by kernel_rfl) (by kernel_rfl) (by kernel_rfl) (fun _ _ _ h => h) (Or.inl ⟨by kernel_rfl, ?_⟩) (by assumption) ?_
                        rotate_left
                        · (intro w hSw; subst hSw; (try dsimp only at hSw); go_simp; try with_reducible rfl)
                        try simp only [Act.put, List.setIfInBounds_toArray, List.set_cons_zero, List.set_cons_succ]
                        refine wpAnyH_take (i := 3) (oi := ⟨some 159, _, _, _, _, _⟩) (v := ?_) rfl (by kernel_rfl) (by kernel_rfl) (by kernel_rfl) (fun _ _ _ h => h) (Or.inl ⟨by kernel_rfl, ?_⟩) (by assumption) ?_
                        rotate_left
                        · (intro w hSw; subst hSw; (try dsimp only at hSw); go_simp; try with_reducible rfl)
                        try simp only [Act.put, List.setIfInBounds_toArray, List.set_cons_zero, List.set_cons_succ]
                        refine wpAnyH_take (i := 4) (oi := ⟨some 160, _, _, _, _, _⟩) (v := ?_) rfl (by kernel_rfl) (by kernel_rfl) (by kernel_rfl) (fun _ _ _ h => h) (Or.inl ⟨by kernel_rfl, ?_⟩) (by assumption) ?_
                        rotate_left
                        · (intro w hSw; subst hSw; (try dsimp only at hSw); go_simp; try with_reducible rfl)
                        try simp only [Act.put, List.setIfInBounds_toArray, List.set_cons_zero, List.set_cons_succ]
                        refine wpAnyH_take (i := 5) (oi := ⟨some 161, _, _, _, _, _⟩) (v := ?_) rfl (by kernel_rfl) (by kernel_rfl) (by kernel_rfl) (fun _ _ _ h => h) (Or.inl ⟨by kernel_rfl, ?_⟩) (by assumption) ?_
                        rotate_left
                        · (intro w hSw; subst hSw; (try dsimp only at hSw); go_simp; try with_reducible rfl)
                        try simp only [Act.put, List.setIfInBounds_toArray, List.set_cons_zero, List.set_cons_succ]
                        refine wpAnyH_take (i := 6) (oi := ⟨some 162, _, _, _, _, _⟩) (v := ?_) rfl (by kernel_rfl) (by kernel_rfl) (by kernel_rfl) (fun _ _ _ h => h) (Or.inl ⟨by kernel_rfl, ?_⟩) (by assumption) ?_
                        rotate_left
                        · (intro w hSw; subst hSw; (try dsimp only at hSw); go_simp; try with_reducible rfl)
                        try simp only [Act.put, List.setIfInBounds_toArray, List.set_cons_zero, List.set_cons_succ]
                        refine wpAnyH_take (i := 7) (oi := ⟨some 163, _, _, _, _, _⟩) (v := ?_) rfl (by kernel_rfl) (by kernel_rfl) (by kernel_rfl) (fun _ _ _ h => h) (Or.inl ⟨by kernel_rfl, ?_⟩) (by assumption) ?_
                        rotate_left
                        · (intro w hSw; subst hSw; (try dsimp only at hSw); go_simp; try with_reducible rfl)
                        try simp only [Act.put, List.setIfInBounds_toArray, List.set_cons_zero, List.set_cons_succ]
                        refine wpAnyH_take (i := 8) (oi := ⟨some 164, _, _, _, _, _⟩) (v := ?_) rfl (by kernel_rfl) (by kernel_rfl) (by kernel_rfl) (fun _ _ _ h => h) (Or.inl ⟨by kernel_rfl, ?_⟩) (by assumption) ?_
                        rotate_left
                        · (intro w hSw; subst hSw; (try dsimp only at hSw); go_simp; try with_reducible rfl)
                        try simp only [Act.put, List.setIfInBounds_toArray, List.set_cons_zero, List.set_cons_succ]
                        refine wpAnyH_take (i := 9) (oi := ⟨some 165, _, _, _, _, _⟩) (v := ?_) rfl (by kernel_rfl) (by kernel_rfl) (by kernel_rfl) (fun _ _ _ h => h) (Or.inl ⟨by kernel_rfl, ?_⟩) (by assumption) ?_
                        rotate_left
                        · (intro w hSw; subst hSw; (try dsimp only at hSw); go_simp; try with_reducible rfl)
                        try simp only [Act.put, List.setIfInBounds_toArray, List.set_cons_zero, List.set_cons_succ]
                        refine wpAnyH_take (i := 10) (oi := ⟨some 166, _, _, _, _, _⟩) (v := ?_) rfl (by kernel_rfl) (by kernel_rfl) (by kernel_rfl) (fun _ _ _ h => h) (Or.inl ⟨by kernel_rfl, ?_⟩) (by assumption) ?_
                        rotate_left
                        · (intro w hSw; subst hSw; (try dsimp only at hSw); go_simp; try with_reducible rfl)
                        try simp only [Act.put, List.setIfInBounds_toArray, List.set_cons_zero, List.set_cons_succ]
                        refine wpAnyH_take (i := 11) (oi := ⟨some 167, _, _, _, _, _⟩) (v := ?_) rfl (by kernel_rfl) (by kernel_rfl) (by kernel_rfl) (fun _ _ _ h => h) (Or.inl ⟨by kernel_rfl, ?_⟩) (by assumption) ?_
                        rotate_left
                        · (intro w hSw; subst hSw; (try dsimp only at hSw); go_simp; try with_reducible rfl)
                        try simp only [Act.put, List.setIfInBounds_toArray, List.set_cons_zero, List.set_cons_succ]
                        refine wpAnyH_take (i := 12) (oi := ⟨some 168, _, _, _, _, _⟩) (v := ?_) rfl (by kernel_rfl) (by kernel_rfl) (by kernel_rfl) (fun _ _ _ h => h) (Or.inl ⟨by kernel_rfl, ?_⟩) (by assumption) ?_
                        rotate_left
                        · (intro w hSw; subst hSw; (try dsimp only at hSw); go_simp; try with_reducible rfl)
                        try simp only [Act.put, List.setIfInBounds_toArray, List.set_cons_zero, List.set_cons_succ]
                        refine wpAnyH_take (i := 13) (oi := ⟨some 169, _, _, _, _, _⟩) (v := ?_) rfl (by kernel_rfl) (by kernel_rfl) (by kernel_rfl) (fun _ _ _ h => h) (Or.inl ⟨by kernel_rfl, ?_⟩) (by assumption) ?_
                        rotate_left
                        · (intro w hSw; subst hSw; (try dsimp only at hSw); go_simp; try with_reducible rfl)
                        try simp only [Act.put, List.setIfInBounds_toArray, List.set_cons_zero, List.set_cons_succ]
                        refine wpAnyH_take (i := 14) (oi := ⟨some 170, _, _, _, _, _⟩) (v := ?_) rfl (by kernel_rfl) (by kernel_rfl) (by kernel_rfl) (fun _ _ _ h => h) (Or.inl ⟨by kernel_rfl, ?_⟩) (by assumption) ?_
                        rotate_left
                        · (intro w hSw; subst hSw; (try dsimp only at hSw); go_simp; try with_reducible rfl)
                        try simp only [Act.put, List.setIfInBounds_toArray, List.set_cons_zero, List.set_cons_succ]
                        refine wpAnyH_take (i := 15) (oi := ⟨some 171, _, _, _, _, _⟩) (v := ?_) rfl (by kernel_rfl) (by kernel_rfl) (by kernel_rfl) (fun _ _ _ h => h) (Or.inl ⟨by kernel_rfl, ?_⟩) (by assumption) ?_
                        rotate_left
                        · (intro w hSw; subst hSw; (try dsimp only at hSw); go_simp; try with_reducible rfl)
                        try simp only [Act.put, List.setIfInBounds_toArray, List.set_cons_zero, List.set_cons_succ]
                        refine wpAnyH_take (i := 16) (oi := ⟨some 172, _, _, _, _, _⟩) (v := ?_) rfl (by kernel_rfl) (by kernel_rfl) (by kernel_rfl) (fun _ _ _ h => h) (Or.inl ⟨by kernel_rfl, ?_⟩) (by assumption) ?_
                        rotate_left
                        · (intro w hSw; subst hSw; (try dsimp only at hSw); go_simp; try with_reducible rfl)
                        try simp only [Act.put, List.setIfInBounds_toArray, List.set_cons_zero, List.set_cons_succ]
                        refine wpAnyH_take (i := 17) (oi := ⟨some 173, _, _, _, _, _⟩) (v := ?_) rfl (by kernel_rfl) (by kernel_rfl) (by kernel_rfl) (fun _ _ _ h => h) (Or.inl ⟨by kernel_rfl, ?_⟩) (by assumption) ?_
                        rotate_left
                        · (intro w hSw; subst hSw; (try dsimp only at hSw); go_simp; try with_reducible rfl)
                        try simp only [Act.put, List.setIfInBounds_toArray, List.set_cons_zero, List.set_cons_succ]
                        refine wpAnyH_take (i := 18) (oi := ⟨some 174, _, _, _, _, _⟩) (v := ?_) rfl (by kernel_rfl) (by kernel_rfl) (by kernel_rfl) (fun _ _ _ h => h) (Or.inl ⟨by kernel_rfl, ?_⟩) (by assumption) ?_
                        rotate_left
                        · (intro w hSw; subst hSw; (try dsimp only at hSw); go_simp; try with_reducible rfl)
                        try simp only [Act.put, List.setIfInBounds_toArray, List.set_cons_zero, List.set_cons_succ]
                        refine wpAnyH_take (i := 19) (oi := ⟨some 175, _, _, _, _, _⟩) (v := ?_) rfl (by kernel_rfl) (by kernel_rfl) (by kernel_rfl) (fun _ _ _ h => h) (Or.inl ⟨by kernel_rfl, ?_⟩) (by assumption) ?_
                        rotate_left
                        · (intro w hSw; subst hSw; (try dsimp only at hSw); go_simp; try with_reducible rfl)
                        try simp only [Act.put, List.setIfInBounds_toArray, List.set_cons_zero, List.set_cons_succ]
                        refine wpAnyH_take (i := 20) (oi := ⟨some 176, _, _, _, _, _⟩) (v := ?_) rfl (by kernel_rfl) (by kernel_rfl) (by kernel_rfl) (fun _ _ _ h => h) (Or.inl ⟨by kernel_rfl, ?_⟩) (by assumption) ?_
                        rotate_left
                        · (intro w hSw; subst hSw; (try dsimp only at hSw); go_simp; try with_reducible rfl)
                        try simp only [Act.put, List.setIfInBounds_toArray, List.set_cons_zero, List.set_cons_succ]
                        refine wpAnyH_take (i := 21) (oi := ⟨some 177, _, _, _, _, _⟩) (v := ?_) rfl (by kernel_rfl) (by kernel_rfl) (by kernel_rfl) (fun _ _ _ h => h) (Or.inl ⟨by kernel_rfl, ?_⟩) (by assumption) ?_
                        rotate_left
                        · (intro w hSw; subst hSw; (try dsimp only at hSw); go_simp; try with_reducible rfl)
                        try simp only [Act.put, List.setIfInBounds_toArray, List.set_cons_zero, List.set_cons_succ]
                        refine wpAnyH_take (i := 22) (oi := ⟨some 178, _, _, _, _, _⟩) (v := ?_) rfl (by kernel_rfl) (by kernel_rfl) (by kernel_rfl) (fun _ _ _ h => h) (Or.inl ⟨by kernel_rfl, ?_⟩) (by assumption) ?_
                        rotate_left
                        · (intro w hSw; subst hSw; (try dsimp only at hSw); go_simp; try with_reducible rfl)
                        try simp only [Act.put, List.setIfInBounds_toArray, List.set_cons_zero, List.set_cons_succ]
                        refine wpAnyH_take (i := 23) (oi := ⟨some 179, _, _, _, _, _⟩) (v := ?_) rfl (by kernel_rfl) (by kernel_rfl) (by kernel_rfl) (fun _ _ _ h => h) (Or.inl ⟨by kernel_rfl, ?_⟩) (by assumption) ?_
                        rotate_left
                        · (intro w hSw; subst hSw; (try dsimp only at hSw); go_simp; try with_reducible rfl)
                        try simp only [Act.put, List.setIfInBounds_toArray, List.set_cons_zero, List.set_cons_succ]
                        refine wpAnyH_take (i := 24) (oi := ⟨some 180, _, _, _, _, _⟩) (v := ?_) rfl (by kernel_rfl) (by kernel_rfl) (by kernel_rfl) (fun _ _ _ h => h) (Or.inl ⟨by kernel_rfl, ?_⟩) (by assumption) ?_
                        rotate_left
                        · (intro w hSw; subst hSw; (try dsimp only at hSw); go_simp; try with_reducible rfl)
                        try simp only [Act.put, List.setIfInBounds_toArray, List.set_cons_zero, List.set_cons_succ]
                        refine wpAnyH_take (i := 25) (oi := ⟨some 181, _, _, _, _, _⟩) (v := ?_) rfl (by kernel_rfl) (by kernel_rfl) (by kernel_rfl) (fun _ _ _ h => h) (Or.inl ⟨by kernel_rfl, ?_⟩) (by assumption) ?_
                        rotate_left
                        · (intro w hSw; subst hSw; (try dsimp only at hSw); go_simp; try with_reducible rfl)
                        try simp only [Act.put, List.setIfInBounds_toArray, List.set_cons_zero, List.set_cons_succ]
                        refine wpAnyH_take (i := 26) (oi := ⟨some 182, _, _, _, _, _⟩) (v := ?_) rfl (by kernel_rfl) (by kernel_rfl) (by kernel_rfl) (fun _ _ _ h => h) (Or.inl ⟨by kernel_rfl, ?_⟩) (by assumption) ?_
                        rotate_left
                        · (intro w hSw; subst hSw; (try dsimp only at hSw); go_simp; try with_reducible rfl)
                        try simp only [Act.put, List.setIfInBounds_toArray, List.set_cons_zero, List.set_cons_succ]
                        refine wpAnyH_take (i := 27) (oi := ⟨some 183, _, _, _, _, _⟩) (v := ?_) rfl (by kernel_rfl) (by kernel_rfl) (by kernel_rfl) (fun _ _ _ h => h) (Or.inl ⟨by kernel_rfl, ?_⟩) (by assumption) ?_
                        rotate_left
                        · (intro w hSw; subst hSw; (try dsimp only at hSw); go_simp; try with_reducible rfl)
                        try simp only [Act.put, List.setIfInBounds_toArray, List.set_cons_zero, List.set_cons_succ]
                        refine wpAnyH_take (i := 28) (oi := ⟨some 184, _, _, _, _, _⟩) (v := ?_) rfl (by kernel_rfl) (by kernel_rfl) (by kernel_rfl) (fun _ _ _ h => h) (Or.inl ⟨by kernel_rfl, ?_⟩) (by assumption) ?_
                        rotate_left
                        · (intro w hSw; subst hSw; (try dsimp only at hSw); go_simp; try with_reducible rfl)
                        try simp only [Act.put, List.setIfInBounds_toArray, List.set_cons_zero, List.set_cons_succ]
                        refine wpAnyH_take (i := 29) (oi := ⟨some 185, _, _, _, _, _⟩) (v := undef) rfl (by kernel_rfl) (by kernel_rfl) (by kernel_rfl) (fun _ _ _ h => h) (Or.inr ⟨by kernel_rfl, rfl⟩) (by assumption) ?_
                        try simp only [Act.put, List.setIfInBounds_toArray, List.set_cons_zero, List.set_cons_succ]
                        refine wpAnyH_take (i := 30) (oi := ⟨some 186, _, _, _, _, _⟩) (v := undef) rfl (by kernel_rfl) (by kernel_rfl) (by kernel_rfl) (fun _ _ _ h => h) (Or.inr ⟨by kernel_rfl, rfl⟩) (by assumption) ?_
                        try simp only [Act.put, List.setIfInBounds_toArray, List.set_cons_zero, List.set_cons_succ]
                        refine wpAnyH_take (i := 31) (oi := ⟨some 187, _, _, _, _, _⟩) (v := undef) rfl (by kernel_rfl) (by kernel_rfl) (by kernel_rfl) (fun _ _ _ h => h) (Or.inr ⟨by kernel_rfl, rfl⟩) (by assumption) ?_
                        try simp only [Act.put, List.setIfInBounds_toArray, List.set_cons_zero, List.set_cons_succ]
                        refine wpAnyH_take (i := 32) (oi := ⟨some 188, _, _, _, _, _⟩) (v := undef) rfl (by kernel_rfl) (by kernel_rfl) (by kernel_rfl) (fun _ _ _ h => h) (Or.inr ⟨by kernel_rfl, rfl⟩) (by assumption) ?_
                        try simp only [Act.put, List.setIfInBounds_toArray, List.set_cons_zero, List.set_cons_succ]
                        refine wpAnyH_take (i := 33) (oi := ⟨some 189, _, _, _, _, _⟩) (v := undef) rfl (by kernel_rfl) (by kernel_rfl) (by kernel_rfl) (fun _ _ _ h => h) (Or.inr ⟨by kernel_rfl, rfl⟩) (by assumption) ?_
                        try simp only [Act.put, List.setIfInBounds_toArray, List.set_cons_zero, List.set_cons_succ]
                        refine wpAnyH_take (i := 34) (oi := ⟨some 190, _, _, _, _, _⟩) (v := undef) rfl (by kernel_rfl) (by kernel_rfl) (by kernel_rfl) (fun _ _ _ h => h) (Or.inr ⟨by kernel_rfl, rfl⟩) (by assumption) ?_
                        try simp only [Act.put, List.setIfInBounds_toArray, List.set_cons_zero, List.set_cons_succ]
                        refine wpAnyH_take (i := 35) (oi := ⟨some 191, _, _, _, _, _⟩) (v := undef) rfl (by kernel_rfl) (by kernel_rfl) (by kernel_rfl) (fun _ _ _ h => h) (Or.inr ⟨by kernel_rfl, rfl⟩) (by assumption) ?_
                        try simp only [Act.put, List.setIfInBounds_toArray, List.set_cons_zero, List.set_cons_succ]
                        refine wpAnyH_take (i := 36) (oi := ⟨some 192, _, _, _, _, _⟩) (v := undef) rfl (by kernel_rfl) (by kernel_rfl) (by kernel_rfl) (fun _ _ _ h => h) (Or.inr ⟨by kernel_rfl, rfl⟩) (by assumption) ?_
                        try simp only [Act.put, List.setIfInBounds_toArray, List.set_cons_zero, List.set_cons_succ]
                        refine wpAnyH_take (i := 37) (oi := ⟨some 193, _, _, _, _, _⟩) (v := ?_) rfl (by kernel_rfl) (by kernel_rfl) (by kernel_rfl) (fun _ _ _ h => h) (Or.inl ⟨by kernel_rfl, ?_⟩) (by assumption) ?_
                        rotate_left
                        · (intro w hSw; subst hSw; (try dsimp only at hSw); go_simp; try with_reducible rfl)
                        try simp only [Act.put, List.setIfInBounds_toArray, List.set_cons_zero, List.set_cons_succ]
                        refine wpAnyH_take (i := 38) (oi := ⟨some 194, _, _, _, _, _⟩) (v := ?_) rfl (by kernel_rfl) (by kernel_rfl) (by kernel_rfl) (fun _ _ _ h => h) (Or.inl ⟨by kernel_rfl, ?_⟩) (by assumption) ?_
                        rotate_left
                        · (intro w hSw; subst hSw; (try dsimp only at hSw); go_simp; try with_reducible rfl)
                        try simp only [Act.put, List.setIfInBounds_toArray, List.set_cons_zero, List.set_cons_succ]
                        refine wpAnyH_done (by kernel_rfl) ?_ _
                        go_wp2
                        go_roundw
                        case rel => exact ⟨k + 1, by omega, by go_num, hbN.drew⟩
                        case measure => simp [intOf]; omega
                  · go_wp2
                    go_roundw
                    case rel => exact ⟨i + 1, by omega, by go_num, hbR.trans ((hbS.trans (hbK.mono hoS)).mono hbR.size)⟩
                    case measure => simp [intOf]; omega
              · go_wp2
                go_ret
                exact ⟨rfl, b1P.trans (hbR.mono (by have := b1P.size; omega))⟩
          · obtain ⟨n1, n2⟩ := ne_bool hz
            rw [← HE.out]
            clear hz
            go_wp2
            go_ret
            exact ⟨rfl, b1P⟩
  · have d2 : decide ((10 : Int) < (s.size : Int)) = true := decide_eq_true (by omega)
    go_enter Tryd.func7, Tryd.ntmps7
    go_wp2_with fail
    refine (HA.out _ b1).mono ?_
    rintro e w1 ⟨rfl, hb1⟩
    have hbX := bnd_call hb0 (by simp) hb1
    obtain ⟨z0, z1, z2, z3, zl⟩ := KC.out _ hbX
    go_wp2_with fail
    refine (HFW.out _ (b1.trans (hbX.mono (by omega)))).mono ?_
    rintro e w2 ⟨⟨b, rfl, hF⟩, hb2⟩
    have hbX := bnd_call hbX (by simp) hb2
    clear hb1 hb2 z0 z1 z2 z3 zl
    obtain ⟨z0, z1, z2, z3, zl⟩ := KC.out _ hbX
    cases b
    all_goals
      go_wp2
      go_ret
      exact ⟨rfl, b1.trans (hbX.mono (by omega))⟩
end Go.Proofs.YtbmlnflacdockaaDoor
