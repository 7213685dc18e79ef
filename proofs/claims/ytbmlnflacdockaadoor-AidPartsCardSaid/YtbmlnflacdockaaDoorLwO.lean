/- AidOnce returns true. -/
import Derived.Test.YtbmlnflacdockaaDoorRfG
import Derived.Test.YtbmlnflacdockaaDoorAwk
import Derived.Test.YtbmlnflacdockaaDoorPlO
import Derived.Test.YtbmlnflacdockaaDoorMpL
import Derived.Deep.RegionLaw
import Derived.Outline
namespace Go.Proofs.YtbmlnflacdockaaDoor
open Go.RowKit

theorem cat_at {w W : World} {v1 v2 v3 : Value} (hW : Below (w.heap.size + 1) (w.alloc (catC v1 v2 v3)) W) : W.cell? ⟨w.heap.size, 0, none⟩ = some v1 ∧ W.cell? ⟨w.heap.size, 1, none⟩ = some v2 ∧ W.cell? ⟨w.heap.size, 2, none⟩ = some v3 ∧ w.heap.size < W.heap.size := by
  have k0 := (hW.block _ (by omega)).trans (heap_newT w (catC v1 v2 v3))
  exact ⟨by rw [Lib.cell_of_heap k0]; rfl, by rw [Lib.cell_of_heap k0]; rfl, by rw [Lib.cell_of_heap k0]; rfl, heap_ltT k0⟩
theorem aid_at {w W : World} {u : Int} {s : ByteArray} {v : Value} (hW : Below (w.heap.size + 1) (w.alloc (aidO u s v)) W) : W.cell? ⟨w.heap.size, 0, none⟩ = some (.int .i64 u) ∧ W.cell? ⟨w.heap.size, 1, none⟩ = some (.string s) ∧ W.cell? ⟨w.heap.size, 2, none⟩ = some v ∧ w.heap.size < W.heap.size := by
  have k0 := (hW.block _ (by omega)).trans (heap_newT w (aidO u s v))
  exact ⟨by rw [Lib.cell_of_heap k0]; rfl, by rw [Lib.cell_of_heap k0]; rfl, by rw [Lib.cell_of_heap k0]; rfl, heap_ltT k0⟩
theorem zeroBool (w : World) : (zeroValue 4).run Tryd.prog w = .ok (.bool false) w := by kernel_rfl
theorem bel_len (root : Int) (l : List Sheet) : (belF root l).2.length ≤ l.length := by
  have gen : ∀ (l : List Sheet) (st : List Int × List Int), (l.foldl (belS root) st).2.length ≤ st.2.length + l.length := by
    intro l
    induction l with
    | nil => intro st; simp
    | cons x r ih =>
      intro st
      rw [List.foldl_cons]
      refine Nat.le_trans (ih _) ?_
      unfold belS
      split <;> simp <;> omega
  have := gen l ([root], [])
  simpa [belF] using this
def numK (ks : List ByteArray) : ByteArray → Option Bool := fun e => if hasS ks e = true then some true else none
theorem numK_add (ks : List ByteArray) (e : ByteArray) : (fun k' => if k' = e then some true else numK ks k') = numK (ks ++ [e]) := by
  funext k'
  unfold numK hasS
  by_cases hk : k' = e
  · simp [hk]
  · have hk' : decide (e = k') = false := decide_eq_false fun h => hk h.symm
    rw [if_neg hk, List.any_append, List.any_cons, List.any_nil, hk', Bool.or_false, Bool.or_false]
theorem cmp_zero {c : Cat} {u : Int} {s : ByteArray} (h : cmpE c u s = 0) : catE c = 0 ∧ hasS c.langs s = true ∧ ∃ (k : Nat) (x : Sheet), shtIx c.sheets u = k ∧ c.sheets[k]? = some x ∧ x.unit = u := by
  unfold cmpE at h
  by_cases h1 : catE c = 0
  · rw [if_neg (by simp [h1])] at h
    by_cases h2 : hasS c.langs s = false
    · rw [if_pos h2] at h; cases h
    · rw [if_neg h2] at h
      rcases idxF_cases (fun x : Sheet => decide (x.unit = u)) c.sheets with ⟨e, _⟩ | ⟨k, x, e, e2, e3, _⟩
      · rw [if_pos (by rw [show shtIx c.sheets u = -1 from e]; decide)] at h; cases h
      · exact ⟨h1, by simpa using h2, k, x, e, e2, by simpa using e3⟩
  · rw [if_pos h1] at h; cases h
/-- what the statement asks of the sections, one after the other -/
theorem once_at {c : Cat} {u : Int} {s : ByteArray} (h : cmpE c u s = 0) : (belF u c.sheets).2.length = (aidF c u s).length ∧ ∀ (i : Nat) (x : Sect), (aidF c u s)[i]? = some x →
    (belF u c.sheets).2[i]? = some x.unit ∧ numU c u x.unit = x.number ∧ x.number ≠ ⟨#[]⟩ ∧ (∃ nd r, x.nodes = nd :: r ∧ nd.depth = pntN x.number) ∧ x.number ∉ ((aidF c u s).take i).map Sect.number := by
  obtain ⟨h0, -, k, y, -, hy, hyu⟩ := cmp_zero h
  have T := Cat.tree h0
  have hu : 1 ≤ u := by rw [← hyu]; exact T.pos y (List.mem_of_getElem? hy)
  have hF : aidF c u s = (secnF c.sheets u).map fun p => secF c (prefP c.langs s) p.1 p.2 := by
    unfold aidF
    rw [if_pos h]
    rfl
  have hU := once_units T hu
  have hD := once_diff T (root := u)
  have hS := once_some T (root := u)
  refine ⟨by rw [hF, hU, List.length_map, List.length_map], fun i x hx => ?_⟩
  rw [hF, List.getElem?_map] at hx
  cases hp : (secnF c.sheets u)[i]? with
  | none => rw [hp] at hx; cases hx
  | some p =>
    rw [hp] at hx
    injection hx with hx
    subst hx
    have hm := List.mem_of_getElem? hp
    refine ⟨by rw [hU, List.getElem?_map, hp]; rfl, ?_, hS p hm, ⟨headN p.1 p.2, _, rfl, rfl⟩, ?_⟩
    · unfold numU
      rw [if_pos h0]
      exact lastU_at (hD.imp fun h => h.1) hm
    · rw [hF, ← List.map_take, List.map_map]
      intro hc
      obtain ⟨q, hq, e⟩ := List.mem_map.1 hc
      obtain ⟨j, hj⟩ := List.getElem?_of_mem hq
      have hjl := lt_of_at hj
      rw [List.length_take] at hjl
      rw [List.getElem?_take, if_pos (by omega)] at hj
      obtain ⟨j1, j2⟩ := List.getElem?_eq_some_iff.1 hj
      obtain ⟨i1, i2⟩ := List.getElem?_eq_some_iff.1 hp
      have := (List.pairwise_iff_getElem.1 hD j i j1 i1 (by omega)).2
      rw [j2, i2] at this
      exact this e
theorem few14 {c : Cat} (hF : FewOk c) (h : catE c = 0) : c.sheets.length ≤ 14 := by
  have := (catE_zero h).2.2.1
  rcases hF.small with h1 | h1 <;> omega
set_option maxRecDepth 100000 in
set_option maxHeartbeats 8000000 in
theorem once_law (c : Cat) (u : Int) (s : ByteArray) (v1 v2 v3 : Value) (w : World) (B : Nat) (hB : B ≤ w.heap.size) (h : CatRep w B c v1 v2 v3) (hS : SynOk w) :
    Calls Tryd.prog 4 #[.agg #[v1, v2, v3], .int .i64 u, .string s] w fun e w' => e = .returned (.bool true) ∧ Below w.heap.size w w' := by
  have HA := Lib.hid (fun (W : World) (hW : Below w.heap.size w W) => awake_c W (hS.below hS.1 hW))
  have b1 : Below w.heap.size w (w.alloc (catC v1 v2 v3)) := (Below.refl _ _).alloc (Nat.le_refl _) _
  have hb0 : Below (w.heap.size + 1) (w.alloc (catC v1 v2 v3)) (w.alloc (catC v1 v2 v3)) := Below.refl _ _
  have KC := Lib.hid (fun (W : World) (hW : Below (w.heap.size + 1) (w.alloc (catC v1 v2 v3)) W) => (cat_at hW))
  have HFW := Lib.hid (fun (W : World) (hW : Below w.heap.size w W) => few_c c v1 v2 v3 W B (Nat.le_trans hB hW.size) (h.below (hW.mono hB)))
  have HCP := Lib.hid (fun (hF : FewOk c) (W : World) (hW : Below w.heap.size w W) => rcopy_c c v1 v2 v3 W B (Nat.le_trans hB hW.size) (h.below (hW.mono hB)) hF)
  have HCM := Lib.hid (fun (hF : FewOk c) (y1 y2 y3 : Value) (W : World) (hW : Below w.heap.size w W) (hc : CatRep W W.heap.size c y1 y2 y3) => Compile_c c u s y1 y2 y3 W W.heap.size (Nat.le_refl _) hc (few14 hF) (hS.below hS.1 hW))
  have HNM := Lib.hid (fun (hF : FewOk c) (x : Int) (W : World) (hW : Below w.heap.size w W) => Number_c c u x v1 v2 v3 W B (Nat.le_trans hB hW.size) (h.below (hW.mono hB)) (few14 hF))
  obtain ⟨A1, c1, rfl, ha1, ha2, _⟩ := id h.langs
  obtain ⟨A2, c2, rfl, hb1, hb2, _⟩ := id h.labels
  obtain ⟨A3, c3, rfl, hd1, hd2, _⟩ := id h.sheets
  by_cases h10 : s.size ≤ 10
  · have d2 : decide ((10 : Int) < (s.size : Int)) = false := decide_eq_false (by omega)
    go_enter Tryd.func4, Tryd.ntmps4
    go_wp2_with fail
    refine (HA.out _ b1).mono ?_
    rintro e w1 ⟨rfl, hb1⟩
    have hbX := bnd_call hb0 (by simp) hb1
    obtain ⟨z0, z1, z2, zl⟩ := KC.out _ hbX
    go_wp2_with fail
    refine (HFW.out _ (b1.trans (hbX.mono (by omega)))).mono ?_
    rintro e w2 ⟨⟨b, rfl, hF⟩, hb2⟩
    have hbX := bnd_call hbX (by simp) hb2
    clear hb1 hb2 z0 z1 z2 zl
    obtain ⟨z0, z1, z2, zl⟩ := KC.out _ hbX
    cases b
    · go_wp2
      go_ret
      exact ⟨rfl, b1.trans (hbX.mono (by omega))⟩
    · have hF := hF rfl
      have HCC := Lib.hid (HCP.out hF)
      have HCM := Lib.hid (HCM.out hF)
      have HNM := Lib.hid (HNM.out hF)
      have H257 := Lib.hid hF.sheets
      clear hF
      go_wp2_with fail
      refine (HCC.out _ (b1.trans (hbX.mono (by omega)))).mono ?_
      rintro e wC ⟨y1, y2, y3, rfl, hcC, -, hbC⟩
      have hbX := bnd_call hbX (by simp) hbC
      go_wp2_with fail
      refine (HCM.out _ _ _ _ (b1.trans (hbX.mono (by omega))) hcC).mono ?_
      rintro e wA ⟨va, rfl, hva, hbA⟩
      have hbX := bnd_call hbX (by simp) hbA
      clear z0 z1 z2 zl
      obtain ⟨z0, z1, z2, zl⟩ := KC.out _ hbX
      obtain ⟨AS, cS, rfl, hs1, hs2, _⟩ := id hva
      by_cases hE : cmpE c u s = 0
      · rw [hE]
        have hmm := @run_makeMap Tryd.prog
        go_wp2_with (with_reducible refine stop_insert ?_)
        clear hmm
        refine stop_elim ?_
        have hwa : (wA.alloc (aidO (aidU c u s) (aidS c u s) (.slice AS (aidF c u s).length cS))).heap.size = wA.heap.size + 1 := by simp
        refine wpList_mapPut rfl (.tmp 42) (.tmp 43) (.const (.bool true)) 45 (.inr rfl) (int_kind Tryd.underlying3) Tryd.underlying45 (MapF.new _ _ _ hwa) rfl u rfl true rfl ?_
        intro w3 hm3 hg3
        have hm4 : MapF w3 (wA.heap.size + 1) (fun n : Int => Value.int .i64 n) Value.bool (elF (belF u (c.sheets.take 0)).1) := by
          have e : elF (belF u (c.sheets.take 0)).1 = (fun k' => if k' = u then some true else none) := by funext k'; unfold elF belF; simp
          rw [e]
          exact hm3
        have hbA1 := hbX.alloc (by have := hbX.size; simp at this; omega) (aidO (aidU c u s) (aidS c u s) (.slice AS (aidF c u s).length cS))
        have hbM : Below (wA.heap.size + 1) (wA.alloc (aidO (aidU c u s) (aidS c u s) (.slice AS (aidF c u s).length cS))) w3 := ((Below.refl _ _).alloc (by simp) _).grown hg3 (by simp) (fun k hk => by injection hk; omega)
        have HM := Lib.hid (show MapF w3 (wA.heap.size + 1) (fun n : Int => Value.int .i64 n) Value.bool (elF (belF u (c.sheets.take 0)).1) ∧ Below (wA.heap.size + 1) (wA.alloc (aidO (aidU c u s) (aidS c u s) (.slice AS (aidF c u s).length cS))) w3 from ⟨hm4, hbM⟩)
        have KA := Lib.hid (fun (W : World) (hW : Below (wA.heap.size + 1) (wA.alloc (aidO (aidU c u s) (aidS c u s) (.slice AS (aidF c u s).length cS))) W) => (aid_at hW))
        have hbw3 := hbA1.trans (hbM.mono (by have := hbX.size; simp at this; omega))
        clear hm3 hm4 hg3 z0 z1 z2 zl
        obtain ⟨z0, z1, z2, zl⟩ := KC.out _ hbw3
        go_wp2
        clear z0 z1 z2 zl
        go_loopw [10, 48] (fun v10 v48 wr => ∃ k : Nat, k ≤ c.sheets.length ∧ v48 = .int .i64 k ∧ Hid (MapF wr (wA.heap.size + 1) (fun n : Int => Value.int .i64 n) Value.bool (elF (belF u (c.sheets.take k)).1)) ∧ OwnRep 1 (flat intEnc) 3 (wA.heap.size + 2) wr (belF u (c.sheets.take k)).2 v10 ∧ Below (wA.heap.size + 1) (wA.alloc (aidO (aidU c u s) (aidS c u s) (.slice AS (aidF c u s).length cS))) wr ∧ wA.heap.size + 2 ≤ wr.heap.size) (fun _ v48 _ => c.sheets.length - (intOf v48).toNat)
        case atStart => exact ⟨0, Nat.zero_le _, rfl, Lib.hid HM.out.1, by simpa [belF] using OwnRep.nil_, HM.out.2, by have := HM.out.1.lt; omega⟩
        case round =>
          obtain ⟨k, hk, rfl, hM, hown, hbM, hz2⟩ := hrel
          have hbX3 := hbA1.trans (hbM.mono (by have := hbX.size; simp at this; omega))
          have b3 := b1.trans (hbX3.mono (by omega))
          by_cases hlt : k < c.sheets.length
          · obtain ⟨x, hx⟩ := get_at c.sheets hlt
            have HT := Lib.hid (belF_step (root := u) hx)
            obtain ⟨b, off, vf, rfl, hbB, g0, g1, g2, g3, g4, g5, hvf⟩ := Sheets.at_ (h.sheets.below shtS (b3.mono hB)) hx
            obtain ⟨AF, cF, rfl, hF1, hF2, _⟩ := id hvf
            have hbw : b < wr.heap.size := by have : b < B := hbB; have := b3.size; omega
            clear hx
            have hMw := hM.out.frame (w' := wr.alloc (shtC x (.slice AF x.facts.length cF))) (Below.heap_alloc _ _ _ hM.out.lt)
            have hlook := look_val (int_kind Tryd.underlying3) Tryd.underlying45 (zeroBool _) hMw (k := x.parent) (val := .bool (decide (x.parent ∈ (belF u (c.sheets.take k)).1))) (by unfold elF; by_cases hp : x.parent ∈ (belF u (c.sheets.take k)).1 <;> simp [hp])
            go_upto_region 13 with fail
            clear g0 g1 g2 g3 g4 g5
            go_cut [61] (fun p W => p = .bool (decide (x.unit = u ∨ x.parent ∈ (belF u (c.sheets.take k)).1)) ∧ W = wr.alloc (shtC x (.slice AF x.facts.length cF)))
            case first =>
              by_cases hc : x.unit = u
              · have he : (x.unit == u) = true := by simp [hc]
                have HV := Lib.hid (show decide (x.unit = u ∨ x.parent ∈ (belF u (c.sheets.take k)).1) = true from decide_eq_true (.inl hc))
                clear hc
                go_wp2
                go_meet
                exact ⟨by rw [HV.out], rfl⟩
              · have he : (x.unit == u) = false := by simpa using hc
                have HV := Lib.hid (show decide (x.unit = u ∨ x.parent ∈ (belF u (c.sheets.take k)).1) = decide (x.parent ∈ (belF u (c.sheets.take k)).1) by simp [hc])
                clear hc
                go_wp2
                go_meet
                exact ⟨by rw [HV.out], rfl⟩
            case rest =>
              obtain ⟨rfl, rfl⟩ := hcut
              clear hlook
              by_cases hc : x.unit = u ∨ x.parent ∈ (belF u (c.sheets.take k)).1
              · have HB := Lib.hid (show belF u (c.sheets.take (k + 1)) = (addK (belF u (c.sheets.take k)).1 x.unit, (belF u (c.sheets.take k)).2 ++ [x.unit]) by rw [HT.out]; unfold belS; rw [if_pos hc])
                rw [decide_eq_true hc]
                clear hc
                have e0 : (wr.alloc (shtC x (.slice AF x.facts.length cF))).cell? ⟨wr.heap.size, 0, none⟩ = some (.int .i64 x.unit) := by rw [Lib.cell_of_heap (heap_newT wr _)]; rfl
                have hbS := hbM.alloc (by omega) (shtC x (.slice AF x.facts.length cF))
                go_wp2_with (at_mapUpdate; refine stop_intro ?_)
                refine stop_elim ?_
                refine wpList_mapPut rfl (.tmp 62) (.tmp 64) (.const (.bool true)) 45 (.inl rfl) (int_kind Tryd.underlying3) Tryd.underlying45 hMw rfl x.unit rfl true rfl ?_
                intro w4 hm4 hg4
                have hs4 := hg4.size
                simp only [World.size_alloc] at hs4
                have hb4 := hbS.grown hg4 (by simp; omega) (fun k hk => by injection hk; omega)
                have HM4 := Lib.hid (show MapF w4 (wA.heap.size + 1) (fun n : Int => Value.int .i64 n) Value.bool (elF (belF u (c.sheets.take (k + 1))).1) by rw [HB.out, ← elF_add]; exact hm4)
                have hown4 : OwnRep 1 (flat intEnc) 3 (wA.heap.size + 2) w4 (belF u (c.sheets.take k)).2 u10 := hown.keep (fun b' hb' => by
                  have hl := hown.own_lt b' hb'
                  exact (hg4.block b' (by simp; omega) (fun e => by injection e; omega)).trans (Below.heap_alloc _ _ _ hl.2))
                have e1 : w4.cell? ⟨wr.heap.size, 0, none⟩ = some (.int .i64 x.unit) := by
                  rw [Lib.cell_of_heap ((hg4.block wr.heap.size (by simp) (fun e => by injection e; omega)).trans (heap_newT wr _))]
                  rfl
                clear hm4 e0
                go_wp2_with (at_builtin; refine stop_intro ?_)
                refine stop_elim ?_
                have hA4 := hown4.below intS ((Below.refl w4.heap.size w4).alloc (Nat.le_refl _) (.cells #[.int .i64 x.unit] 3))
                have hbl := bel_len u (c.sheets.take k)
                rw [List.length_take] at hbl
                have h257 := H257.out
                refine wpList_append_rep rfl intS intE_ (wA.heap.size + 2) (.tmp 65) (.tmp 68) rfl rfl hA4 rfl (ys := [x.unit]) (SlRep.one_new intS (w := w4) (x := x.unit) (F := fun _ => False) rfl rfl (fun _ h => h.elim)) ?F ?n (by decide) ?hbase ?_
                case F =>
                  intro b' hb'
                  rcases hb' with hb' | hb'
                  · exact hb'.elim
                  · subst hb'
                    exact ⟨by simp, fun e => by have := hown4.own_lt _ e; omega⟩
                case n => simp; omega
                case hbase => simp; omega
                intro v5 w5 hown5 hg5 hat5
                have hs5 := hg5.size
                simp only [World.size_alloc] at hs5
                rw [show (belF u (c.sheets.take k)).2 ++ [x.unit] = (belF u (c.sheets.take (k + 1))).2 by rw [HB.out]] at hown5
                have hb5 := (hb4.alloc (by omega) (.cells #[.int .i64 x.unit] 3)).grown hg5 (by simp; omega) (fun k hk => by have := hown4.own_lt k hk; omega)
                have HM5 := Lib.hid (HM4.out.frame (w' := w5) ((hg5.block _ (by simp; omega) (fun e => by have := hown4.own_lt _ e.symm; omega)).trans (Below.heap_alloc _ _ _ (by omega))))
                go_wp2
                go_roundw
                case rel => exact ⟨k + 1, by omega, by go_num, HM5, hown5, hb5, by omega⟩
                case measure => simp [intOf]; omega
              · have HB := Lib.hid (show belF u (c.sheets.take (k + 1)) = belF u (c.sheets.take k) by rw [HT.out]; unfold belS; rw [if_neg hc])
                rw [decide_eq_false hc]
                have HMw := Lib.hid hMw
                clear hc hMw
                go_wp2
                go_roundw
                case rel => exact ⟨k + 1, by omega, by go_num, by rw [HB.out]; exact HMw, by rw [HB.out]; exact hown.below intS ((Below.refl _ _).alloc (Nat.le_refl _) _), hbM.alloc (by omega) _, by simp; omega⟩
                case measure => simp [intOf]; omega
          · rw [List.take_of_length_le (by omega)] at hown
            obtain ⟨wm, hwm⟩ : ∃ wm : World, wm = wr := ⟨_, rfl⟩
            subst hwm
            obtain ⟨hon1, hon2⟩ := once_at hE
            have HON := Lib.hid hon2
            have hul := hown.toSl intS
            obtain ⟨AU, cU, rfl, hu1, hu2, _⟩ := id hul
            obtain ⟨ka0, ka1, ka2, kal⟩ := KA.out _ hbM
            have hbN : Below wm.heap.size wm (wm.alloc (.map #[] 0)) := (Below.refl _ _).alloc (Nat.le_refl _) _
            have HSV := Lib.hid (fun (W : World) (hW : Below wm.heap.size wm W) => (hva.below secS (((Below.refl wA.heap.size wA).alloc (Nat.le_refl _) _).trans ((hbM.trans (hW.mono (by omega))).mono (Nat.le_succ _)))))
            have HUV := Lib.hid (fun (W : World) (hW : Below wm.heap.size wm W) => (hul.below intS hW))
            have HN0 := Lib.hid (show MapF (wm.alloc (.map #[] 0)) wm.heap.size Value.string Value.bool (numK (((aidF c u s).take 0).map Sect.number)) from (show numK (((aidF c u s).take 0).map Sect.number) = fun _ => none by funext e; simp [numK, hasS]) ▸ MapF.new wm _ _ rfl)
            have HM := Lib.hid hM
            have hlen : (((aidF c u s).length : Int) != ((belF u c.sheets).2.length : Int)) = false := by rw [hon1]; simp
            clear hM hown hon1 hon2 hul
            have hmm := @run_makeMap Tryd.prog
            go_wp2
            clear hmm
            go_loopw [81] (fun v81 wr => ∃ i : Nat, i ≤ (aidF c u s).length ∧ v81 = .int .i64 i ∧ Hid (MapF wr wm.heap.size Value.string Value.bool (numK (((aidF c u s).take i).map Sect.number))) ∧ Below wm.heap.size wm wr) (fun v81 _ => (aidF c u s).length - (intOf v81).toNat)
            case atStart => exact ⟨0, Nat.zero_le _, rfl, HN0, hbN⟩
            case round =>
              clear hbN HN0
              obtain ⟨i, hi, rfl, hM, hbR⟩ := hrel
              have hmr := hM.out.lt
              by_cases hli : i < (aidF c u s).length
              · obtain ⟨x, hx⟩ := get_at _ hli
                obtain ⟨ou, on, one, ⟨nd, nr, ond, odp⟩, omem⟩ := HON.out i x hx
                have HT := Lib.hid (take_at hx)
                obtain ⟨bs, offs, vn, rfl, hbs, g0, g1, g2, hvn⟩ := Sects.at_ (HSV.out _ hbR) hx
                obtain ⟨An, cn, rfl, hn1, hn2, -⟩ := id hvn
                obtain ⟨bn, offn, rfl, hbn, n0, -⟩ := Nodes.at_ hvn (i := 0) (x := nd) (by rw [ond]; rfl)
                obtain ⟨bu, offu, rfl, hbu, u0⟩ := Ints.at_ (HUV.out _ hbR) ou
                rw [show offu + i = offu + i * 1 by omega] at u0
                have bl1 : bs < wr.heap.size := by have : bs < wA.heap.size := hbs; omega
                have bl2 : bn < wr.heap.size := by have : bn < wA.heap.size := hbn; omega
                have bl3 : bu < wr.heap.size := by have : bu < wm.heap.size := hbu; omega
                have hMw := hM.out.frame (w' := wr.alloc (.cells #[.int .i64 x.unit, .string x.number, .slice (some ⟨bn, offn, none⟩) x.nodes.length cn] 28)) (Below.heap_alloc _ _ _ hmr)
                have hbS := (Below.refl wr.heap.size wr).alloc (Nat.le_refl _) (.cells #[.int .i64 x.unit, .string x.number, .slice (some ⟨bn, offn, none⟩) x.nodes.length cn] 28)
                have hnn : 0 < x.nodes.length := by rw [ond]; simp
                have hlf := lt_of_at ou
                have hn0 : ((x.nodes.length : Int) == 0) = false := by rw [beq_eq_false_iff_ne]; omega
                have HOD := Lib.hid odp
                have HOE := Lib.hid omem
                have HON2 := Lib.hid on
                have one2 : decide (x.number ≠ ⟨#[]⟩) = true := decide_eq_true one
                clear hx ou ond odp omem on one
                have hbRS := hbR.trans (hbS.mono hbR.size)
                obtain ⟨z0, z1, z2, zl⟩ := KC.out _ (hbX3.trans (hbR.mono (by have := hbX3.size; simp at this; omega)))
                go_wp2_with fail
                refine (HNM.out x.unit _ (b3.trans (hbRS.mono b3.size))).mono ?_
                rintro e w5 ⟨rfl, hb5⟩
                rw [HON2.out, one2]
                go_upto_region 24 with fail
                have hbS5 := hbS.trans (hb5.mono (by simp))
                have k0s := (hb5.block wr.heap.size (by simp)).trans (heap_newT wr _)
                have k0 : w5.cell? ⟨wr.heap.size, 0, none⟩ = some (.int .i64 x.unit) := by rw [Lib.cell_of_heap k0s]; rfl
                have k1 : w5.cell? ⟨wr.heap.size, 1, none⟩ = some (.string x.number) := by rw [Lib.cell_of_heap k0s]; rfl
                have k2 : w5.cell? ⟨wr.heap.size, 2, none⟩ = some (.slice (some ⟨bn, offn, none⟩) x.nodes.length cn) := by rw [Lib.cell_of_heap k0s]; rfl
                have u5 := (hbS5.cell (p := ⟨bu, offu + i * 1, none⟩) bl3).trans u0
                have n5 := (hbS5.cell (p := ⟨bn, offn + 0 * 3, none⟩) bl2).trans n0
                rw [HOD.out] at n5
                have hlk := heap_ltT k0s
                simp only [Nat.zero_mul, Nat.add_zero, Nat.mul_one] at n5 u5
                have hM5 : MapF w5 wm.heap.size Value.string Value.bool (numK (((aidF c u s).take i).map Sect.number)) := hMw.frame (hb5.block _ (by simp; omega))
                have hlook := look_val (string_kind Tryd.underlying9) Tryd.underlying50 (zeroBool _) (hM5.frame (w' := w5.drew) rfl) (k := x.number) (val := .bool false) (by unfold numK; rw [if_neg (fun e => HOE.out (hasS_iff.1 e))])
                have HM5 := Lib.hid hM5
                have HCN := Lib.hid (fun (W : World) => show Calls Tryd.prog 16 #[.string x.number, .string ⟨#[46]⟩] W fun e w' => e = .returned (.int .i64 (pntN x.number)) ∧ w' = W from Tryd.strings_Count_one x.number 46 W)
                clear hMw hM5 k0s g0 g1 g2 n0 u0 z0 z1 z2 zl
                refine wp_region_held_drew (S := (fun W => W = w5.drew)) (by kernel_rfl) (by first | rfl | assumption) (fun hHeld => ?_)
                refine wpAnyH_take (i := 0) (oi := ⟨some 94, _, _, _, _, _⟩) (v := ?_) rfl (by kernel_rfl) (by kernel_rfl) (by kernel_rfl) (fun _ _ _ h => h) (Or.inl ⟨by kernel_rfl, ?_⟩) (by assumption) ?_
                rotate_left
                · (intro w hSw; subst hSw; (try dsimp only at hSw); go_simp; try with_reducible rfl)
                try simp only [Act.put, List.setIfInBounds_toArray, List.set_cons_zero, List.set_cons_succ]
                refine wpAnyH_take (i := 1) (oi := ⟨some 95, _, _, _, _, _⟩) (v := ?_) rfl (by kernel_rfl) (by kernel_rfl) (by kernel_rfl) (fun _ _ _ h => h) (Or.inl ⟨by kernel_rfl, ?_⟩) (by assumption) ?_
                rotate_left
                · (intro w hSw; subst hSw; (try dsimp only at hSw); go_simp; try with_reducible rfl)
                try simp only [Act.put, List.setIfInBounds_toArray, List.set_cons_zero, List.set_cons_succ]
                refine wpAnyH_take (i := 2) (oi := ⟨some 96, _, _, _, _, _⟩) (v := ?_) rfl (by kernel_rfl) (by kernel_rfl) (by kernel_rfl) (fun _ _ _ h => h) (Or.inl ⟨by kernel_rfl, ?_⟩) (by assumption) ?_
                rotate_left
                · (intro w hSw; subst hSw; (try dsimp only at hSw); go_simp; try with_reducible rfl)
                try simp only [Act.put, List.setIfInBounds_toArray, List.set_cons_zero, List.set_cons_succ]
                refine wpAnyH_take (i := 3) (oi := ⟨some 97, _, _, _, _, _⟩) (v := ?_) rfl (by kernel_rfl) (by kernel_rfl) (by kernel_rfl) (fun _ _ _ h => h) (Or.inl ⟨by kernel_rfl, ?_⟩) (by assumption) ?_
                rotate_left
                · (intro w hSw; subst hSw; (try dsimp only at hSw); go_simp; try with_reducible rfl)
                try simp only [Act.put, List.setIfInBounds_toArray, List.set_cons_zero, List.set_cons_succ]
                refine wpAnyH_take (i := 4) (oi := ⟨some 98, _, _, _, _, _⟩) (v := ?_) rfl (by kernel_rfl) (by kernel_rfl) (by kernel_rfl) (fun _ _ _ h => h) (Or.inl ⟨by kernel_rfl, ?_⟩) (by assumption) ?_
                rotate_left
                · (intro w hSw; subst hSw; (try dsimp only at hSw); go_simp; try with_reducible rfl)
                try simp only [Act.put, List.setIfInBounds_toArray, List.set_cons_zero, List.set_cons_succ]
                refine wpAnyH_take (i := 5) (oi := ⟨some 99, _, _, _, _, _⟩) (v := ?_) rfl (by kernel_rfl) (by kernel_rfl) (by kernel_rfl) (fun _ _ _ h => h) (Or.inl ⟨by kernel_rfl, ?_⟩) (by assumption) ?_
                rotate_left
                · (intro w hSw; subst hSw; (try dsimp only at hSw); go_simp; try with_reducible rfl)
                try simp only [Act.put, List.setIfInBounds_toArray, List.set_cons_zero, List.set_cons_succ]
                refine wpAnyH_take (i := 6) (oi := ⟨some 100, _, _, _, _, _⟩) (v := ?_) rfl (by kernel_rfl) (by kernel_rfl) (by kernel_rfl) (fun _ _ _ h => h) (Or.inl ⟨by kernel_rfl, ?_⟩) (by assumption) ?_
                rotate_left
                · (intro w hSw; subst hSw; (try dsimp only at hSw); go_simp; try with_reducible rfl)
                try simp only [Act.put, List.setIfInBounds_toArray, List.set_cons_zero, List.set_cons_succ]
                refine wpAnyH_take (i := 7) (oi := ⟨some 101, _, _, _, _, _⟩) (v := ?_) rfl (by kernel_rfl) (by kernel_rfl) (by kernel_rfl) (fun _ _ _ h => h) (Or.inl ⟨by kernel_rfl, ?_⟩) (by assumption) ?_
                rotate_left
                · (intro w hSw; subst hSw; (try dsimp only at hSw); go_simp; try with_reducible rfl)
                try simp only [Act.put, List.setIfInBounds_toArray, List.set_cons_zero, List.set_cons_succ]
                refine wpAnyH_take (i := 8) (oi := ⟨some 102, _, _, _, _, _⟩) (v := ?_) rfl (by kernel_rfl) (by kernel_rfl) (by kernel_rfl) (fun _ _ _ h => h) (Or.inl ⟨by kernel_rfl, ?_⟩) (by assumption) ?_
                rotate_left
                · (intro w hSw; subst hSw; (try dsimp only at hSw); go_simp; try with_reducible rfl)
                try simp only [Act.put, List.setIfInBounds_toArray, List.set_cons_zero, List.set_cons_succ]
                refine wpAnyH_take (i := 9) (oi := ⟨some 103, _, _, _, _, _⟩) (v := ?_) rfl (by kernel_rfl) (by kernel_rfl) (by kernel_rfl) (fun _ _ _ h => h) (Or.inl ⟨by kernel_rfl, ?_⟩) (by assumption) ?_
                rotate_left
                · (intro w hSw; subst hSw; (try dsimp only at hSw); go_simp; try with_reducible rfl)
                try simp only [Act.put, List.setIfInBounds_toArray, List.set_cons_zero, List.set_cons_succ]
                refine wpAnyH_take (i := 10) (oi := ⟨some 104, _, _, _, _, _⟩) (v := ?_) rfl (by kernel_rfl) (by kernel_rfl) (by kernel_rfl) (fun _ _ _ h => h) (Or.inl ⟨by kernel_rfl, ?_⟩) (by assumption) ?_
                rotate_left
                · (intro w hSw; subst hSw; (try dsimp only at hSw); go_simp; try with_reducible rfl)
                try simp only [Act.put, List.setIfInBounds_toArray, List.set_cons_zero, List.set_cons_succ]
                refine wpAnyH_take (i := 11) (oi := ⟨some 105, _, _, _, _, _⟩) (v := ?_) rfl (by kernel_rfl) (by kernel_rfl) (by kernel_rfl) (fun _ _ _ h => h) (Or.inl ⟨by kernel_rfl, ?_⟩) (by assumption) ?_
                rotate_left
                · (intro w hSw; subst hSw; (try dsimp only at hSw); go_simp; try with_reducible rfl)
                try simp only [Act.put, List.setIfInBounds_toArray, List.set_cons_zero, List.set_cons_succ]
                refine wpAnyH_take (i := 12) (oi := ⟨some 106, _, _, _, _, _⟩) (v := ?_) rfl (by kernel_rfl) (by kernel_rfl) (by kernel_rfl) (fun _ _ _ h => h) (Or.inl ⟨by kernel_rfl, ?_⟩) (by assumption) ?_
                rotate_left
                · (intro w hSw; subst hSw; (try dsimp only at hSw); go_simp; try with_reducible rfl)
                try simp only [Act.put, List.setIfInBounds_toArray, List.set_cons_zero, List.set_cons_succ]
                refine wpAnyH_take (i := 13) (oi := ⟨some 107, _, _, _, _, _⟩) (v := ?_) rfl (by kernel_rfl) (by kernel_rfl) (by kernel_rfl) (fun _ _ _ h => h) (Or.inl ⟨by kernel_rfl, ?_⟩) (by assumption) ?_
                rotate_left
                · (intro w hSw; subst hSw; (try dsimp only at hSw); go_simp; try with_reducible rfl)
                try simp only [Act.put, List.setIfInBounds_toArray, List.set_cons_zero, List.set_cons_succ]
                refine wpAnyH_take (i := 14) (oi := ⟨some 108, _, _, _, _, _⟩) (v := ?_) rfl (by kernel_rfl) (by kernel_rfl) (by kernel_rfl) (fun _ _ _ h => h) (Or.inl ⟨by kernel_rfl, ?_⟩) (by assumption) ?_
                rotate_left
                · (intro w hSw; subst hSw; (try dsimp only at hSw); go_simp; try with_reducible rfl)
                try simp only [Act.put, List.setIfInBounds_toArray, List.set_cons_zero, List.set_cons_succ]
                refine wpAnyH_take (i := 15) (oi := ⟨some 109, _, _, _, _, _⟩) (v := ?_) rfl (by kernel_rfl) (by kernel_rfl) (by kernel_rfl) (fun _ _ _ h => h) (Or.inl ⟨by kernel_rfl, ?_⟩) (by assumption) ?_
                rotate_left
                · (intro w hSw; subst hSw; (try dsimp only at hSw); go_simp; try with_reducible rfl)
                try simp only [Act.put, List.setIfInBounds_toArray, List.set_cons_zero, List.set_cons_succ]
                refine wpAnyH_take (i := 16) (oi := ⟨some 110, _, _, _, _, _⟩) (v := ?_) rfl (by kernel_rfl) (by kernel_rfl) (by kernel_rfl) (fun _ _ _ h => h) (Or.inl ⟨by kernel_rfl, ?_⟩) (by assumption) ?_
                rotate_left
                · (intro w hSw; subst hSw; (try dsimp only at hSw); go_simp; try with_reducible rfl)
                try simp only [Act.put, List.setIfInBounds_toArray, List.set_cons_zero, List.set_cons_succ]
                refine wpAnyH_take (i := 17) (oi := ⟨some 111, _, _, _, _, _⟩) (v := ?_) rfl (by kernel_rfl) (by kernel_rfl) (by kernel_rfl) (fun _ _ _ h => h) (Or.inl ⟨by kernel_rfl, ?_⟩) (by assumption) ?_
                rotate_left
                · (intro w hSw; subst hSw; (try dsimp only at hSw); go_simp; try with_reducible rfl)
                try simp only [Act.put, List.setIfInBounds_toArray, List.set_cons_zero, List.set_cons_succ]
                refine wpAnyH_take (i := 18) (oi := ⟨some 112, _, _, _, _, _⟩) (v := ?_) rfl (by kernel_rfl) (by kernel_rfl) (by kernel_rfl) (fun _ _ _ h => h) (Or.inl ⟨by kernel_rfl, ?_⟩) (by assumption) ?_
                rotate_left
                · (intro w hSw; subst hSw; (try dsimp only at hSw); go_simp; try with_reducible rfl)
                try simp only [Act.put, List.setIfInBounds_toArray, List.set_cons_zero, List.set_cons_succ]
                refine wpAnyH_take (i := 19) (oi := ⟨some 113, _, _, _, _, _⟩) (v := ?_) rfl (by kernel_rfl) (by kernel_rfl) (by kernel_rfl) (fun _ _ _ h => h) (Or.inl ⟨by kernel_rfl, ?_⟩) (by assumption) ?_
                rotate_left
                · (intro w hSw; subst hSw; (try dsimp only at hSw); go_simp; try with_reducible rfl)
                try simp only [Act.put, List.setIfInBounds_toArray, List.set_cons_zero, List.set_cons_succ]
                refine wpAnyH_take (i := 20) (oi := ⟨some 114, _, _, _, _, _⟩) (v := ?_) rfl (by kernel_rfl) (by kernel_rfl) (by kernel_rfl) (fun _ _ _ h => h) (Or.inl ⟨by kernel_rfl, ?_⟩) (by assumption) ?_
                rotate_left
                · (intro w hSw; subst hSw; (try dsimp only at hSw); go_simp; try with_reducible rfl)
                try simp only [Act.put, List.setIfInBounds_toArray, List.set_cons_zero, List.set_cons_succ]
                refine wpAnyH_take (i := 21) (oi := ⟨some 115, _, _, _, _, _⟩) (v := ?_) rfl (by kernel_rfl) (by kernel_rfl) (by kernel_rfl) (fun _ _ _ h => h) (Or.inl ⟨by kernel_rfl, ?_⟩) (by assumption) ?_
                rotate_left
                · (intro w hSw; subst hSw; (try dsimp only at hSw); go_simp; try with_reducible rfl)
                try simp only [Act.put, List.setIfInBounds_toArray, List.set_cons_zero, List.set_cons_succ]
                refine wpAnyH_take (i := 22) (oi := ⟨some 116, _, _, _, _, _⟩) (v := ?_) rfl (by kernel_rfl) (by kernel_rfl) (by kernel_rfl) (fun _ _ _ h => h) (Or.inl ⟨by kernel_rfl, ?_⟩) (by assumption) ?_
                rotate_left
                · (intro w hSw; subst hSw; (try dsimp only at hSw); go_simp; try with_reducible rfl)
                try simp only [Act.put, List.setIfInBounds_toArray, List.set_cons_zero, List.set_cons_succ]
                refine wpAnyH_take (i := 23) (oi := ⟨some 117, _, _, _, _, _⟩) (v := ?_) rfl (by kernel_rfl) (by kernel_rfl) (by kernel_rfl) (fun _ _ _ h => h) (Or.inl ⟨by kernel_rfl, ?_⟩) (by assumption) ?_
                rotate_left
                · (intro w hSw; subst hSw; (try dsimp only at hSw); go_simp; try with_reducible rfl)
                try simp only [Act.put, List.setIfInBounds_toArray, List.set_cons_zero, List.set_cons_succ]
                refine wpAnyH_take (i := 24) (oi := ⟨some 118, _, _, _, _, _⟩) (v := ?_) rfl (by kernel_rfl) (by kernel_rfl) (by kernel_rfl) (fun _ _ _ h => h) (Or.inl ⟨by kernel_rfl, ?_⟩) (by assumption) ?_
                rotate_left
                · (intro w hSw; subst hSw; (try dsimp only at hSw); go_simp; try with_reducible rfl)
                try simp only [Act.put, List.setIfInBounds_toArray, List.set_cons_zero, List.set_cons_succ]
                refine wpAnyH_take (i := 25) (oi := ⟨some 119, _, _, _, _, _⟩) (v := ?_) rfl (by kernel_rfl) (by kernel_rfl) (by kernel_rfl) (fun _ _ _ h => h) (Or.inl ⟨by kernel_rfl, ?_⟩) (by assumption) ?_
                rotate_left
                · (intro w hSw; subst hSw; (try dsimp only at hSw); go_simp; try with_reducible rfl)
                try simp only [Act.put, List.setIfInBounds_toArray, List.set_cons_zero, List.set_cons_succ]
                refine wpAnyH_take (i := 26) (oi := ⟨some 120, _, _, _, _, _⟩) (v := ?_) rfl (by kernel_rfl) (by kernel_rfl) (by kernel_rfl) (fun _ _ _ h => h) (Or.inl ⟨by kernel_rfl, ?_⟩) (by assumption) ?_
                rotate_left
                · (intro w hSw; subst hSw; (try dsimp only at hSw); go_simp; try with_reducible rfl)
                try simp only [Act.put, List.setIfInBounds_toArray, List.set_cons_zero, List.set_cons_succ]
                refine wpAnyH_take (i := 27) (oi := ⟨some 121, _, _, _, _, _⟩) (v := ?_) rfl (by kernel_rfl) (by kernel_rfl) (by kernel_rfl) (fun _ _ _ h => h) (Or.inl ⟨by kernel_rfl, ?_⟩) (by assumption) ?_
                rotate_left
                · (intro w hSw; subst hSw; (try dsimp only at hSw); go_simp; try with_reducible rfl)
                try simp only [Act.put, List.setIfInBounds_toArray, List.set_cons_zero, List.set_cons_succ]
                refine wpAnyH_take (i := 28) (oi := ⟨some 122, _, _, _, _, _⟩) (v := ?_) rfl (by kernel_rfl) (by kernel_rfl) (by kernel_rfl) (fun _ _ _ h => h) (Or.inl ⟨by kernel_rfl, ?_⟩) (by assumption) ?_
                rotate_left
                · (intro w hSw; subst hSw; (try dsimp only at hSw); go_simp; try with_reducible rfl)
                try simp only [Act.put, List.setIfInBounds_toArray, List.set_cons_zero, List.set_cons_succ]
                refine wpAnyH_take (i := 29) (oi := ⟨some 123, _, _, _, _, _⟩) (v := ?_) rfl (by kernel_rfl) (by kernel_rfl) (by kernel_rfl) (fun _ _ _ h => h) (Or.inl ⟨by kernel_rfl, ?_⟩) (by assumption) ?_
                rotate_left
                · (intro w hSw; subst hSw; (try dsimp only at hSw); go_simp; try with_reducible rfl)
                try simp only [Act.put, List.setIfInBounds_toArray, List.set_cons_zero, List.set_cons_succ]
                refine wpAnyH_take (i := 30) (oi := ⟨some 124, _, _, _, _, _⟩) (v := ?_) rfl (by kernel_rfl) (by kernel_rfl) (by kernel_rfl) (fun _ _ _ h => h) (Or.inl ⟨by kernel_rfl, ?_⟩) (by assumption) ?_
                rotate_left
                · (intro w hSw; subst hSw; (try dsimp only at hSw); go_simp; try with_reducible rfl)
                try simp only [Act.put, List.setIfInBounds_toArray, List.set_cons_zero, List.set_cons_succ]
                refine wpAnyH_take (i := 31) (oi := ⟨some 125, _, _, _, _, _⟩) (v := ?_) rfl (by kernel_rfl) (by kernel_rfl) (by kernel_rfl) (fun _ _ _ h => h) (Or.inl ⟨by kernel_rfl, ?_⟩) (by assumption) ?_
                rotate_left
                · (intro w hSw; subst hSw; (try dsimp only at hSw); go_simp; try with_reducible rfl)
                try simp only [Act.put, List.setIfInBounds_toArray, List.set_cons_zero, List.set_cons_succ]
                refine wpAnyH_take (i := 32) (oi := ⟨some 126, _, _, _, _, _⟩) (v := ?_) rfl (by kernel_rfl) (by kernel_rfl) (by kernel_rfl) (fun _ _ _ h => h) (Or.inl ⟨by kernel_rfl, ?_⟩) (by assumption) ?_
                rotate_left
                · (intro w hSw; subst hSw; (try dsimp only at hSw); go_simp; try with_reducible rfl)
                try simp only [Act.put, List.setIfInBounds_toArray, List.set_cons_zero, List.set_cons_succ]
                refine wpAnyH_take (i := 33) (oi := ⟨some 127, _, _, _, _, _⟩) (v := ?_) rfl (by kernel_rfl) (by kernel_rfl) (by kernel_rfl) (fun _ _ _ h => h) (Or.inl ⟨by kernel_rfl, ?_⟩) (by assumption) ?_
                rotate_left
                · (intro w hSw; subst hSw; (try dsimp only at hSw); go_simp; try with_reducible rfl)
                try simp only [Act.put, List.setIfInBounds_toArray, List.set_cons_zero, List.set_cons_succ]
                refine wpAnyH_take (i := 34) (oi := ⟨some 128, _, _, _, _, _⟩) (v := ?_) rfl (by kernel_rfl) (by kernel_rfl) (by kernel_rfl) (fun _ _ _ h => h) (Or.inl ⟨by kernel_rfl, ?_⟩) (by assumption) ?_
                rotate_left
                · (intro w hSw; subst hSw; (try dsimp only at hSw); go_simp; try with_reducible rfl)
                try simp only [Act.put, List.setIfInBounds_toArray, List.set_cons_zero, List.set_cons_succ]
                refine wpAnyH_take (i := 35) (oi := ⟨some 129, _, _, _, _, _⟩) (v := ?_) rfl (by kernel_rfl) (by kernel_rfl) (by kernel_rfl) (fun _ _ _ h => h) (Or.inl ⟨by kernel_rfl, ?_⟩) (by assumption) ?_
                rotate_left
                · (intro w hSw; subst hSw; (try dsimp only at hSw); go_simp; try with_reducible rfl)
                try simp only [Act.put, List.setIfInBounds_toArray, List.set_cons_zero, List.set_cons_succ]
                refine wpAnyH_ready (rs := [36]) (by kernel_rfl) (by simp) ?_
                refine AllReadyH.cons (o := ⟨some 130, _, _, _, _, _⟩) rfl (fun K hK => ?_) AllReadyH.nil
                go_simp
                (go_at_call 16; (refine (HCN.out _).mono ?_); rintro e wV ⟨rfl, rfl⟩)
                go_wp2_with fail
                refine hK.out _ _ (by first | rfl | assumption) (fun hHeld => ?_)
                clear hK K
                try simp only [Act.put, List.setIfInBounds_toArray, List.set_cons_zero, List.set_cons_succ]
                refine wpAnyH_take (i := 37) (oi := ⟨some 131, _, _, _, _, _⟩) (v := ?_) rfl (by kernel_rfl) (by kernel_rfl) (by kernel_rfl) (fun _ _ _ h => h) (Or.inl ⟨by kernel_rfl, ?_⟩) (by assumption) ?_
                rotate_left
                · (intro w hSw; subst hSw; (try dsimp only at hSw); go_simp; try with_reducible rfl)
                try simp only [Act.put, List.setIfInBounds_toArray, List.set_cons_zero, List.set_cons_succ]
                refine wpAnyH_take (i := 38) (oi := ⟨some 132, _, _, _, _, _⟩) (v := ?_) rfl (by kernel_rfl) (by kernel_rfl) (by kernel_rfl) (fun _ _ _ h => h) (Or.inl ⟨by kernel_rfl, ?_⟩) (by assumption) ?_
                rotate_left
                · (intro w hSw; subst hSw; (try dsimp only at hSw); go_simp; try with_reducible rfl)
                try simp only [Act.put, List.setIfInBounds_toArray, List.set_cons_zero, List.set_cons_succ]
                refine wpAnyH_done (by kernel_rfl) ?_ _
                go_wp2_with (at_mapUpdate; refine stop_intro ?_)
                refine stop_elim ?_
                refine wpList_mapPut rfl (.tmp 133) (.tmp 135) (.const (.bool true)) 50 (.inl rfl) (string_kind Tryd.underlying9) Tryd.underlying50 (HM5.out.frame (w' := w5.drew) rfl) rfl x.number rfl true rfl ?_
                intro w6 hm6 hg6
                have hm7 : MapF w6 wm.heap.size Value.string Value.bool (numK (((aidF c u s).take (i + 1)).map Sect.number)) := by
                  rw [HT.out, List.map_append, List.map_cons, List.map_nil, ← numK_add]
                  exact hm6
                have HM7 := Lib.hid hm7
                have hb6 := ((hbRS.trans (hb5.mono (by have := hbR.size; simp; omega))).drew).grown hg6 (by have := hM.out.lt; have := hb5.size; simp at *; omega) (fun k hk => by injection hk; omega)
                clear hm6 hm7
                go_wp2
                go_roundw
                case rel => exact ⟨i + 1, by omega, by go_num, HM7, hb6⟩
                case measure => simp [intOf]; omega
              · go_wp2
                go_ret
                exact ⟨rfl, b3.trans (hbR.mono b3.size)⟩
      · obtain ⟨n1, n2⟩ := ne_bool hE
        have HE : (aidF c u s).length = 0 := by unfold aidF; rw [if_neg hE]; rfl
        rw [HE]
        clear hE HE
        go_wp2
        go_ret
        exact ⟨rfl, b1.trans ((hbX.alloc (by have := hbX.size; simp at this; omega) _).mono (by omega))⟩
  · have d2 : decide ((10 : Int) < (s.size : Int)) = true := decide_eq_true (by omega)
    go_enter Tryd.func4, Tryd.ntmps4
    go_wp2_with fail
    refine (HA.out _ b1).mono ?_
    rintro e w1 ⟨rfl, hb1⟩
    have hbX := bnd_call hb0 (by simp) hb1
    obtain ⟨z0, z1, z2, zl⟩ := KC.out _ hbX
    go_wp2_with fail
    refine (HFW.out _ (b1.trans (hbX.mono (by omega)))).mono ?_
    rintro e w2 ⟨⟨b, rfl, hF⟩, hb2⟩
    have hbX := bnd_call hbX (by simp) hb2
    clear hb1 hb2 z0 z1 z2 zl
    obtain ⟨z0, z1, z2, zl⟩ := KC.out _ hbX
    cases b
    all_goals
      go_wp2
      go_ret
      exact ⟨rfl, b1.trans (hbX.mono (by omega))⟩
end Go.Proofs.YtbmlnflacdockaaDoor
