/- Plan of the program. -/
import Derived.Test.YthabpkigflldmaaSrch
namespace Go.Proofs.Ythabpkigflldmaa
open Go.RowKit

def planF (ls : List Shelf) (bs : List Box) (s t : List Int) : Option (List Carry) := ((reachF ls bs s).find? fun e => decide (e.1 = t)).map Prod.snd
theorem reach_found {ls : List Shelf} {bs : List Box} (hst : startE ls bs = 0) {s : List Int} (hg : Good ls bs s) : Found ltC (nbrF ls bs) s (reachF ls bs s) ∧ (∀ e ∈ reachF ls bs s, Good ls bs e.1) ∧ (reachF ls bs s).length ≤ 4096 := by
  have gen : ∀ (gk k : Nat) (out : Rows), KGood ls bs s gk k out → Found ltC (nbrF ls bs) s (reachF ls bs s) ∧ (∀ e ∈ reachF ls bs s, Good ls bs e.1) ∧ (reachF ls bs s).length ≤ 4096 := by
    intro gk
    induction gk with
    | zero =>
      intro k out h
      have h1 := h.few hst
      have h2 := h.num
      obtain ⟨h3, h4⟩ := h.done (by unfold fuelN at h2; omega)
      rw [h3]
      exact ⟨h4, h.good, h1⟩
    | succ gk ih =>
      intro k out h
      by_cases hk : k < out.length
      · obtain ⟨⟨y, p⟩, hyp⟩ := get_at out hk
        obtain ⟨g', e, hB⟩ := h.open_ hst hyp
        obtain rfl : gk = g' := by omega
        have gen2 : ∀ (n j : Nat) (out : Rows), (nbrF ls bs y).length - j = n → BGood ls bs s gk k j y p out → ∃ out', KGood ls bs s gk (k + 1) out' := by
          intro n
          induction n with
          | zero => exact fun j out hn hB => ⟨out, hB.close (by omega)⟩
          | succ n ih =>
            intro j out hn hB
            obtain ⟨⟨c, x⟩, hcx⟩ := get_at (nbrF ls bs y) (show j < (nbrF ls bs y).length by omega)
            by_cases hx : x ∈ out.map Prod.fst
            · exact ih (j + 1) out (by omega) (hB.old hst hcx hx)
            · exact ih (j + 1) _ (by omega) (hB.new hst hcx hx)
        obtain ⟨out', h'⟩ := gen2 _ 0 out rfl hB
        exact ih (k + 1) out' h'
      · obtain ⟨h3, h4⟩ := h.done (by omega)
        rw [h3]
        exact ⟨h4, h.good, h.few hst⟩
  exact gen _ _ _ (KGood.start hg)
theorem planF_some {ls : List Shelf} {bs : List Box} {s t : List Int} {p : List Carry} (h : planF ls bs s t = some p) : (t, p) ∈ reachF ls bs s := by
  unfold planF at h
  cases hf : (reachF ls bs s).find? (fun e => decide (e.1 = t)) with
  | none => rw [hf] at h; cases h
  | some e =>
    rw [hf] at h
    injection h with h
    have h1 := List.mem_of_find?_eq_some hf
    have h2 := List.find?_some hf
    simp at h2
    rw [← h, ← h2]
    exact h1
theorem planF_none {ls : List Shelf} {bs : List Box} {s t : List Int} (h : planF ls bs s t = none) : ∀ e ∈ reachF ls bs s, e.1 ≠ t := by
  unfold planF at h
  intro e he
  cases hf : (reachF ls bs s).find? (fun e => decide (e.1 = t)) with
  | none => simpa using List.find?_eq_none.1 hf e he
  | some e => rw [hf] at h; cases h
section
variable {κ ν : Type} [DecidableEq κ] {P : Program} {w : World} {b : Nat} {kenc : κ → Value} {venc : ν → Value}
theorem look_ok {t kt et : TypeId} (hK : KeyKind P kt kenc) (ht : P.underlying t = some (.map kt et)) {z : Value} (hz : (zeroValue et).run P w = .ok z w)
    {f : κ → Option ν} (h : MapF w b kenc venc f) {k : κ} {v : ν} (hf : f k = some v) {val : Value} (hval : venc v = val) : (Instr.lookup t (.map (some b)) (kenc k) true).run P w = .ok (.tuple #[val, .bool true]) w := by
  have hrun := run_lookup_at hK ht hz h k true
  rw [hf] at hrun
  simpa only [if_true, hval] using hrun
theorem look_no {t kt et : TypeId} (hK : KeyKind P kt kenc) (ht : P.underlying t = some (.map kt et)) {z : Value} (hz : (zeroValue et).run P w = .ok z w)
    {f : κ → Option ν} (h : MapF w b kenc venc f) {k : κ} (hf : f k = none) {val : Value} (hval : z = val) : (Instr.lookup t (.map (some b)) (kenc k) true).run P w = .ok (.tuple #[val, .bool false]) w := by
  have hrun := run_lookup_at hK ht hz h k true
  rw [hf] at hrun
  simpa only [if_true, hval] using hrun
end
theorem SlRep.set2 {W : World} {F : Nat → Prop} {xs : List Carry} {v : Value} {g : Nat} {a b : Value} {A1 A2 : Option Addr} {n1 c1 n2 c2 : Nat} (h : SlRep 3 (flat Carry.enc) W F xs v) (h0 : W.cell? ⟨g, 0, none⟩ = some (.slice A1 n1 c1)) (h1 : W.cell? ⟨g, 1, none⟩ = some (.slice A2 n2 c2)) :
    SlRep 3 (flat Carry.enc) ((W.setCell ⟨g, 0, none⟩ a).setCell ⟨g, 1, none⟩ b) F xs v := by
  obtain ⟨A, c, e, h2, h3, h4⟩ := h
  refine ⟨A, c, e, h2, h3, fun i x hx => ?_⟩
  obtain ⟨bb, off, cs, hA, hF, hr, hc⟩ := h4 i x hx
  refine ⟨bb, off, cs, hA, hF, hr, fun j u hu => ?_⟩
  have hcell := hc j u hu
  have hint : ∃ n, u = .int .i64 n := by
    have : u ∈ cs := List.mem_of_getElem? hu
    rw [hr] at this
    simp [Carry.enc] at this
    rcases this with rfl | rfl | rfl <;> exact ⟨_, rfl⟩
  obtain ⟨n, rfl⟩ := hint
  rw [World.cell?_setCell_other _ _ _ _ (fun he => by rw [← he, h1] at hcell; injection hcell with hcell; cases hcell), World.cell?_setCell_other _ _ _ _ (fun he => by rw [← he, h0] at hcell; injection hcell with hcell; cases hcell)]
  exact hcell
set_option maxHeartbeats 1000000 in
theorem Plan_bad1 (ls : List Shelf) (bs : List Box) (s : List Int) (vl vb vs vt : Value) (w : World) (B : Nat) (hB : B ≤ w.heap.size) (hl : Shelves w B ls vl) (hbx : Boxes w B bs vb) (ha : Ints w B s vs) (hp : possE ls bs s ≠ 0) :
    Calls Try.prog 13 #[vl, vb, vs, vt] w fun e w' => e = .returned (.tuple #[.slice none 0 0, .int .i64 (possE ls bs s)]) ∧ Below w.heap.size w w' := by
  have HO := Lib.hid (possible_c ls bs s vl vb vs w B hB hl hbx ha)
  obtain ⟨n1, n2⟩ := ne_bool hp
  clear hp
  go_enter Try.func13, Try.ntmps13
  go_wp2_with fail
  refine HO.out.mono ?_
  rintro e w1 ⟨rfl, hb1⟩
  go_wp2
  go_ret2
  exact ⟨rfl, hb1⟩
set_option maxHeartbeats 1000000 in
theorem Plan_bad2 (ls : List Shelf) (bs : List Box) (s t : List Int) (vl vb vs vt : Value) (w : World) (B : Nat) (hB : B ≤ w.heap.size) (hl : Shelves w B ls vl) (hbx : Boxes w B bs vb) (ha : Ints w B s vs) (hat : Ints w B t vt) (hp : possE ls bs s = 0) (hq : possE ls bs t ≠ 0) :
    Calls Try.prog 13 #[vl, vb, vs, vt] w fun e w' => e = .returned (.tuple #[.slice none 0 0, .int .i64 (possE ls bs t)]) ∧ Below w.heap.size w w' := by
  have HO := Lib.hid (possible_c ls bs s vl vb vs w B hB hl hbx ha)
  rw [hp] at HO
  have HO2 := Lib.hid (fun (W : World) (hW : Below w.heap.size w W) => possible_c ls bs t vl vb vt W B (Nat.le_trans hB hW.size) (hl.below shS (hW.mono hB)) (hbx.below boS (hW.mono hB)) (hat.below inS (hW.mono hB)))
  obtain ⟨n1, n2⟩ := ne_bool hq
  clear hp hq
  go_enter Try.func13, Try.ntmps13
  go_wp2_with fail
  refine HO.out.mono ?_
  rintro e w1 ⟨rfl, hb1⟩
  go_wp2_with fail
  refine (HO2.out _ hb1).mono ?_
  rintro e w2 ⟨rfl, hb2⟩
  go_wp2
  go_ret2
  exact ⟨rfl, hb1.trans (hb2.mono hb1.size)⟩
set_option maxRecDepth 10000 in
set_option maxHeartbeats 4000000 in
theorem Plan_none (ls : List Shelf) (bs : List Box) (s t : List Int) (vl vb vs vt : Value) (w : World) (B : Nat) (hB : B ≤ w.heap.size) (hl : Shelves w B ls vl) (hbx : Boxes w B bs vb) (ha : Ints w B s vs) (hat : Ints w B t vt) (hp : possE ls bs s = 0) (hq : possE ls bs t = 0) (hpl : planF ls bs s t = none) :
    Calls Try.prog 13 #[vl, vb, vs, vt] w fun e w' => e = .returned (.tuple #[.slice none 0 0, .int .i64 24]) ∧ Below w.heap.size w w' := by
  obtain ⟨hst, hr1, hh1⟩ := poss_zero hp
  obtain ⟨-, hr2, hh2⟩ := poss_zero hq
  have HO := Lib.hid (possible_c ls bs s vl vb vs w B hB hl hbx ha)
  rw [hp] at HO
  have HO2 := Lib.hid (fun (W : World) (hW : Below w.heap.size w W) => possible_c ls bs t vl vb vt W B (Nat.le_trans hB hW.size) (hl.below shS (hW.mono hB)) (hbx.below boS (hW.mono hB)) (hat.below inS (hW.mono hB)))
  rw [hq] at HO2
  have HSR := Lib.hid (fun (W : World) (hW : Below w.heap.size w W) => search_c ls bs s vl vb vs W B (Nat.le_trans hB hW.size) (hl.below shS (hW.mono hB)) (hbx.below boS (hW.mono hB)) (ha.below inS (hW.mono hB)) hst ⟨hr1, hh1⟩)
  have HKY := Lib.hid (fun (W : World) (hW : Below w.heap.size w W) => key_c ls bs t vl vb vt W B (Nat.le_trans hB hW.size) (hl.below shS (hW.mono hB)) (by obtain ⟨A, c, rfl, _⟩ := id hbx; exact ⟨_, _, _, rfl⟩) (hat.below inS (hW.mono hB)) hst hr2)
  have HF := Lib.hid (fun (bm : Nat) (F : Nat → Prop) (f : ByteArray → Option (Value × Value)) (W : World) (hM : MInv ls (reachF ls bs s) bm F f W) => show f (keyB ls t) = none by
    cases hfx : f (keyB ls t) with
    | none => rfl
    | some pr =>
      obtain ⟨e, he, hk⟩ := hM.only _ _ hfx
      exact absurd (keyB_inj hst hr2 ((reach_found hst ⟨hr1, hh1⟩).2.1 e he).1 hk).symm (planF_none hpl e he))
  have HLK := Lib.hid (fun (bm : Nat) (f : ByteArray → Option (Value × Value)) (W : World) (hm : MapF W bm Value.string pairEnc f) (hf : f (keyB ls t) = none) => show (Instr.lookup 70 (.map (some bm)) (.string (keyB ls t)) true).run Try.prog W = .ok (.tuple #[.agg #[.slice none 0 0, .slice none 0 0], .bool false]) W from look_no strKind Try.underlying70 (zeroReached W) hm hf rfl)
  clear hp hq hst hr1 hr2 hh1 hh2 hpl
  obtain ⟨A, c, rfl, hc1, hc2, _⟩ := id hl
  obtain ⟨A', c', rfl, hd1, hd2, _⟩ := id hbx
  go_enter Try.func13, Try.ntmps13
  go_wp2_with fail
  refine HO.out.mono ?_
  rintro e w1 ⟨rfl, hb1⟩
  go_wp2_with fail
  refine (HO2.out _ hb1).mono ?_
  rintro e w2 ⟨rfl, hb2⟩
  have B2 := hb1.trans (hb2.mono hb1.size)
  have hsB := B2.size
  have bq : Below w2.heap.size w2 (w2.alloc (houseC (.slice A ls.length c) (.slice A' bs.length c'))) := (Below.refl _ _).alloc (Nat.le_refl _) _
  have B3 := B2.trans (bq.mono hsB)
  have z0 : (w2.alloc (houseC (.slice A ls.length c) (.slice A' bs.length c'))).cell? ⟨w2.heap.size, 0, none⟩ = some (.slice A ls.length c) := by simp
  have z1 : (w2.alloc (houseC (.slice A ls.length c) (.slice A' bs.length c'))).cell? ⟨w2.heap.size, 1, none⟩ = some (.slice A' bs.length c') := by simp
  have hs3 : w2.heap.size < (w2.alloc (houseC (.slice A ls.length c) (.slice A' bs.length c'))).heap.size := by simp
  clear hb1 hb2 HO HO2
  go_upto_region 8 with fail
  generalize w2.alloc (houseC (.slice A ls.length c) (.slice A' bs.length c')) = wA at *
  have hsA := B3.size
  have HSX := Lib.hid (fun (W : World) (hW : Below wA.heap.size wA W) => HSR.out W (B3.trans (hW.mono hsA)))
  have HKX := Lib.hid (fun (W : World) (hW : Below wA.heap.size wA W) => HKY.out W (B3.trans (hW.mono hsA)))
  have KEEP := Lib.hid (fun (w' : World) (hW : Below wA.heap.size wA w') => (⟨(hW.cell (p := ⟨w2.heap.size, 0, none⟩) hs3).trans z0, (hW.cell (p := ⟨w2.heap.size, 1, none⟩) hs3).trans z1⟩ : w'.cell? ⟨w2.heap.size, 0, none⟩ = some (.slice A ls.length c) ∧ w'.cell? ⟨w2.heap.size, 1, none⟩ = some (.slice A' bs.length c')))
  have ZK := Lib.hid (fun (W W' : World) (hW : Below (W.heap.size + 1) (W.alloc zReached) W') => (⟨(hW.cell (p := ⟨W.heap.size, 0, none⟩) (by simp)).trans (by simp), (hW.cell (p := ⟨W.heap.size, 1, none⟩) (by simp)).trans (by simp), (hW.frozen (p := ⟨W.heap.size, 0, none⟩) (by simp)).trans (by simp), (hW.frozen (p := ⟨W.heap.size, 1, none⟩) (by simp)).trans (by simp), by have := hW.size; simp at this; omega⟩ : W'.cell? ⟨W.heap.size, 0, none⟩ = some (.slice none 0 0) ∧ W'.cell? ⟨W.heap.size, 1, none⟩ = some (.slice none 0 0) ∧ W'.frozen? ⟨W.heap.size, 0, none⟩ = false ∧ W'.frozen? ⟨W.heap.size, 1, none⟩ = false ∧ W.heap.size < W'.heap.size))
  go_cut [13, 14] (fun s13 s14 wx => ∃ gx : Nat, s13 = .pointer (some ⟨gx, 0, none⟩) ∧ s14 = .bool false ∧ Below wA.heap.size wA wx)
  case first =>
    have hbX : Below wA.heap.size wA wA.drew := (Below.refl _ _).drew
    have hbA : Below wA.heap.size wA (wA.alloc zReached).drew := ((Below.refl _ _).alloc (Nat.le_refl _) _).drew
    have hbA1 : Below (wA.heap.size + 1) (wA.alloc zReached) (wA.alloc zReached).drew := (Below.refl _ _).drew
    have hgX : wA.heap.size ≤ wA.heap.size := Nat.le_refl _
    go_region_held3 (fun w' => w'.cell? ⟨w2.heap.size, 0, none⟩ = some (.slice A ls.length c) ∧ w'.cell? ⟨w2.heap.size, 1, none⟩ = some (.slice A' bs.length c')) (first | with_reducible exact KEEP.out _ hbX | with_reducible exact KEEP.out _ hbA | with_reducible exact KEEP.out _ (hbX.alloc hbX.size _) | exact KEEP.out _ ((hbX.setCell hgX _).setCell hgX _)) (first
      | (go_at_call 41; (with_reducible refine (HSX.out _ hbX).mono ?_); rintro e wS ⟨bm, f, rfl, hbm, hM, hbN⟩; have hfx := HF.out _ _ _ _ hM; have hmp := hM.mp; have HFX := Lib.hid hfx; clear hfx; have hml := hmp.lt; have hlk := HLK.out _ _ _ hmp HFX.out; have hlk2 := HLK.out _ _ _ (hmp.below ((Below.refl _ _).alloc (Nat.le_refl _) zReached) hml) HFX.out; (first | (clear tokZ; have kz := kz.trans (hbN.mono (by have := kz.size; simpa using this)); obtain ⟨y0, y1, y2, y3, y4⟩ := ZK.out _ _ kz; have tokZ : True := trivial) | have tokN : True := trivial); have hbX := hbX.trans (hbN.mono hbX.size); have tokS : True := trivial)
      | (go_at_call 41; (with_reducible refine (HSX.out _ hbA).mono ?_); rintro e wS ⟨bm, f, rfl, hbm, hM, hbN⟩; have hfx := HF.out _ _ _ _ hM; have hmp := hM.mp; have HFX := Lib.hid hfx; clear hfx; have hml := hmp.lt; have hlk := HLK.out _ _ _ hmp HFX.out; have hlk2 := HLK.out _ _ _ (hmp.below ((Below.refl _ _).alloc (Nat.le_refl _) zReached) hml) HFX.out; have kz := hbA1.trans (hbN.mono (by simp)); obtain ⟨y0, y1, y2, y3, y4⟩ := ZK.out _ _ kz; have tokZ : True := trivial; have hbX := hbA.trans (hbN.mono hbA.size); have tokS : True := trivial)
      | (go_at_call 41; (with_reducible refine (HSX.out _ (hbX.alloc hbX.size _)).mono ?_); rintro e wS ⟨bm, f, rfl, hbm, hM, hbN⟩; have hfx := HF.out _ _ _ _ hM; have hmp := hM.mp; have HFX := Lib.hid hfx; clear hfx; have hml := hmp.lt; have hlk := HLK.out _ _ _ hmp HFX.out; have hlk2 := HLK.out _ _ _ (hmp.below ((Below.refl _ _).alloc (Nat.le_refl _) zReached) hml) HFX.out; have kz : Below (wK.heap.size + 1) (wK.alloc zReached) wS := hbN.mono (by simp); obtain ⟨y0, y1, y2, y3, y4⟩ := ZK.out _ _ kz; have hgX := hbX.size; have hbX := (hbX.alloc hbX.size _).trans (hbN.mono (hbX.alloc hbX.size _).size); have tokS : True := trivial)
      | (go_at_call 42; clear tokS; (with_reducible refine (HKX.out _ hbX).mono ?_); rintro e wK ⟨rfl, hbN⟩; have hmp := hmp.below hbN hml; have hml := hmp.lt; have hlk := HLK.out _ _ _ hmp HFX.out; have hlk2 := HLK.out _ _ _ (hmp.below ((Below.refl _ _).alloc (Nat.le_refl _) zReached) hml) HFX.out; (first | (clear tokZ; have kz := kz.trans (hbN.mono (by have := kz.size; simpa using this)); obtain ⟨y0, y1, y2, y3, y4⟩ := ZK.out _ _ kz; have tokZ : True := trivial) | have tokN : True := trivial); have hbX := hbX.trans (hbN.mono hbX.size))
      | (go_at_call 42; clear tokS; (with_reducible refine (HKX.out _ (hbX.alloc hbX.size _)).mono ?_); rintro e wK ⟨rfl, hbN⟩; have hbP := ((Below.refl wS.heap.size wS).alloc (Nat.le_refl _) zReached).trans (hbN.mono (by simp)); have hmp := hmp.below hbP hml; have hml := hmp.lt; have hlk := HLK.out _ _ _ hmp HFX.out; have kz : Below (wS.heap.size + 1) (wS.alloc zReached) wK := hbN.mono (by simp); obtain ⟨y0, y1, y2, y3, y4⟩ := ZK.out _ _ kz; have hgX := hbX.size; have hbX := (hbX.alloc hbX.size _).trans (hbN.mono (hbX.alloc hbX.size _).size))
      | (go_at_call 42; (with_reducible refine (HKX.out _ hbX).mono ?_); rintro e wK ⟨rfl, hbN⟩; have hbX := hbX.trans (hbN.mono hbX.size))
      | (go_at_call 42; (with_reducible refine (HKX.out _ hbA).mono ?_); rintro e wK ⟨rfl, hbN⟩; have kz := hbA1.trans (hbN.mono (by simp)); obtain ⟨y0, y1, y2, y3, y4⟩ := ZK.out _ _ kz; have tokZ : True := trivial; have hbX := hbA.trans (hbN.mono hbA.size)))
    all_goals (go_wp2_with fail; go_meet)
    all_goals first
      | exact ⟨_, rfl, rfl, hbX.alloc hbX.size _⟩
      | exact ⟨_, rfl, rfl, (hbX.setCell hgX _).setCell hgX _⟩
  case rest =>
    obtain ⟨gx, rfl, rfl, hbc⟩ := hcut
    go_wp2
    go_ret2
    exact ⟨rfl, B3.trans (hbc.mono hsA)⟩
set_option maxRecDepth 10000 in
set_option maxHeartbeats 4000000 in
theorem Plan_some (ls : List Shelf) (bs : List Box) (s t : List Int) (vl vb vs vt : Value) (w : World) (B : Nat) (hB : B ≤ w.heap.size) (hl : Shelves w B ls vl) (hbx : Boxes w B bs vb) (ha : Ints w B s vs) (hat : Ints w B t vt) (hp : possE ls bs s = 0) (hq : possE ls bs t = 0) (p : List Carry) (hpl : planF ls bs s t = some p) :
    Calls Try.prog 13 #[vl, vb, vs, vt] w fun e w' => ∃ v', e = .returned (.tuple #[v', .int .i64 0]) ∧ Carries w' w'.heap.size p v' ∧ Below w.heap.size w w' := by
  obtain ⟨hst, hr1, hh1⟩ := poss_zero hp
  obtain ⟨-, hr2, hh2⟩ := poss_zero hq
  have HO := Lib.hid (possible_c ls bs s vl vb vs w B hB hl hbx ha)
  rw [hp] at HO
  have HO2 := Lib.hid (fun (W : World) (hW : Below w.heap.size w W) => possible_c ls bs t vl vb vt W B (Nat.le_trans hB hW.size) (hl.below shS (hW.mono hB)) (hbx.below boS (hW.mono hB)) (hat.below inS (hW.mono hB)))
  rw [hq] at HO2
  have HSR := Lib.hid (fun (W : World) (hW : Below w.heap.size w W) => search_c ls bs s vl vb vs W B (Nat.le_trans hB hW.size) (hl.below shS (hW.mono hB)) (hbx.below boS (hW.mono hB)) (ha.below inS (hW.mono hB)) hst ⟨hr1, hh1⟩)
  have HKY := Lib.hid (fun (W : World) (hW : Below w.heap.size w W) => key_c ls bs t vl vb vt W B (Nat.le_trans hB hW.size) (hl.below shS (hW.mono hB)) (by obtain ⟨A, c, rfl, _⟩ := id hbx; exact ⟨_, _, _, rfl⟩) (hat.below inS (hW.mono hB)) hst hr2)
  have HF := Lib.hid (fun (bm : Nat) (F : Nat → Prop) (f : ByteArray → Option (Value × Value)) (W : World) (hM : MInv ls (reachF ls bs s) bm F f W) => (by
    obtain ⟨⟨pa, pp⟩, h1, h2, h3⟩ := hM.has _ (planF_some hpl)
    obtain ⟨A1, c1, e1, -⟩ := id h2
    obtain ⟨A2, c2, e2, -⟩ := id h3
    simp only at e1 e2
    subst e1 e2
    exact ⟨A1, c1, A2, c2, h1, h3⟩ : ∃ A1 c1 A2 c2, f (keyB ls t) = some (.slice A1 t.length c1, .slice A2 p.length c2) ∧ SlRep 3 (flat Carry.enc) W F p (.slice A2 p.length c2)))
  have HLK := Lib.hid (fun (bm : Nat) (f : ByteArray → Option (Value × Value)) (W : World) (A1 A2 : Option Addr) (c1 c2 : Nat) (hm : MapF W bm Value.string pairEnc f) (hf : f (keyB ls t) = some (.slice A1 t.length c1, .slice A2 p.length c2)) => show (Instr.lookup 70 (.map (some bm)) (.string (keyB ls t)) true).run Try.prog W = .ok (.tuple #[.agg #[.slice A1 t.length c1, .slice A2 p.length c2], .bool true]) W from look_ok strKind Try.underlying70 (zeroReached W) hm hf rfl)
  clear hp hq hst hr1 hr2 hh1 hh2 hpl
  obtain ⟨A, c, rfl, hc1, hc2, _⟩ := id hl
  obtain ⟨A', c', rfl, hd1, hd2, _⟩ := id hbx
  go_enter Try.func13, Try.ntmps13
  go_wp2_with fail
  refine HO.out.mono ?_
  rintro e w1 ⟨rfl, hb1⟩
  go_wp2_with fail
  refine (HO2.out _ hb1).mono ?_
  rintro e w2 ⟨rfl, hb2⟩
  have B2 := hb1.trans (hb2.mono hb1.size)
  have hsB := B2.size
  have bq : Below w2.heap.size w2 (w2.alloc (houseC (.slice A ls.length c) (.slice A' bs.length c'))) := (Below.refl _ _).alloc (Nat.le_refl _) _
  have B3 := B2.trans (bq.mono hsB)
  have z0 : (w2.alloc (houseC (.slice A ls.length c) (.slice A' bs.length c'))).cell? ⟨w2.heap.size, 0, none⟩ = some (.slice A ls.length c) := by simp
  have z1 : (w2.alloc (houseC (.slice A ls.length c) (.slice A' bs.length c'))).cell? ⟨w2.heap.size, 1, none⟩ = some (.slice A' bs.length c') := by simp
  have hs3 : w2.heap.size < (w2.alloc (houseC (.slice A ls.length c) (.slice A' bs.length c'))).heap.size := by simp
  clear hb1 hb2 HO HO2
  go_upto_region 8 with fail
  generalize w2.alloc (houseC (.slice A ls.length c) (.slice A' bs.length c')) = wA at *
  have hsA := B3.size
  have HSX := Lib.hid (fun (W : World) (hW : Below wA.heap.size wA W) => HSR.out W (B3.trans (hW.mono hsA)))
  have HKX := Lib.hid (fun (W : World) (hW : Below wA.heap.size wA W) => HKY.out W (B3.trans (hW.mono hsA)))
  have KEEP := Lib.hid (fun (w' : World) (hW : Below wA.heap.size wA w') => (⟨(hW.cell (p := ⟨w2.heap.size, 0, none⟩) hs3).trans z0, (hW.cell (p := ⟨w2.heap.size, 1, none⟩) hs3).trans z1⟩ : w'.cell? ⟨w2.heap.size, 0, none⟩ = some (.slice A ls.length c) ∧ w'.cell? ⟨w2.heap.size, 1, none⟩ = some (.slice A' bs.length c')))
  have ZK := Lib.hid (fun (W W' : World) (hW : Below (W.heap.size + 1) (W.alloc zReached) W') => (⟨(hW.cell (p := ⟨W.heap.size, 0, none⟩) (by simp)).trans (by simp), (hW.cell (p := ⟨W.heap.size, 1, none⟩) (by simp)).trans (by simp), (hW.frozen (p := ⟨W.heap.size, 0, none⟩) (by simp)).trans (by simp), (hW.frozen (p := ⟨W.heap.size, 1, none⟩) (by simp)).trans (by simp), by have := hW.size; simp at this; omega⟩ : W'.cell? ⟨W.heap.size, 0, none⟩ = some (.slice none 0 0) ∧ W'.cell? ⟨W.heap.size, 1, none⟩ = some (.slice none 0 0) ∧ W'.frozen? ⟨W.heap.size, 0, none⟩ = false ∧ W'.frozen? ⟨W.heap.size, 1, none⟩ = false ∧ W.heap.size < W'.heap.size))
  go_cut [13, 14] (fun s13 s14 wx => ∃ (gx : Nat) (A2 : Option Addr) (c2 : Nat), s13 = .pointer (some ⟨gx, 0, none⟩) ∧ s14 = .bool true ∧ gx < wx.heap.size ∧ wx.cell? ⟨gx, 1, none⟩ = some (.slice A2 p.length c2) ∧ SlRep 3 (flat Carry.enc) wx (fun b => b < wx.heap.size) p (.slice A2 p.length c2) ∧ Below wA.heap.size wA wx)
  case first =>
    have hbX : Below wA.heap.size wA wA.drew := (Below.refl _ _).drew
    have hbA : Below wA.heap.size wA (wA.alloc zReached).drew := ((Below.refl _ _).alloc (Nat.le_refl _) _).drew
    have hbA1 : Below (wA.heap.size + 1) (wA.alloc zReached) (wA.alloc zReached).drew := (Below.refl _ _).drew
    have hgX : wA.heap.size ≤ wA.heap.size := Nat.le_refl _
    go_region_held3 (fun w' => w'.cell? ⟨w2.heap.size, 0, none⟩ = some (.slice A ls.length c) ∧ w'.cell? ⟨w2.heap.size, 1, none⟩ = some (.slice A' bs.length c')) (first | with_reducible exact KEEP.out _ hbX | with_reducible exact KEEP.out _ hbA | with_reducible exact KEEP.out _ (hbX.alloc hbX.size _) | exact KEEP.out _ ((hbX.setCell hgX _).setCell hgX _)) (first
      | (go_at_call 41; (with_reducible refine (HSX.out _ hbX).mono ?_); rintro e wS ⟨bm, f, rfl, hbm, hM, hbN⟩; obtain ⟨A1, c1, A2, c2, hfx, hrp⟩ := HF.out _ _ _ _ hM; have hmp := hM.mp; have HFX := Lib.hid hfx; clear hfx; have hrp := hrp.monoF caS (F' := fun b => b < wS.heap.size) (fun b hb => hb.1); have hml := hmp.lt; have hlk := HLK.out _ _ _ _ _ _ _ hmp HFX.out; have hlk2 := HLK.out _ _ _ _ _ _ _ (hmp.below ((Below.refl _ _).alloc (Nat.le_refl _) zReached) hml) HFX.out; (first | (clear tokZ; have kz := kz.trans (hbN.mono (by have := kz.size; simpa using this)); obtain ⟨y0, y1, y2, y3, y4⟩ := ZK.out _ _ kz; have tokZ : True := trivial) | have tokN : True := trivial); have hbX := hbX.trans (hbN.mono hbX.size); have tokS : True := trivial)
      | (go_at_call 41; (with_reducible refine (HSX.out _ hbA).mono ?_); rintro e wS ⟨bm, f, rfl, hbm, hM, hbN⟩; obtain ⟨A1, c1, A2, c2, hfx, hrp⟩ := HF.out _ _ _ _ hM; have hmp := hM.mp; have HFX := Lib.hid hfx; clear hfx; have hrp := hrp.monoF caS (F' := fun b => b < wS.heap.size) (fun b hb => hb.1); have hml := hmp.lt; have hlk := HLK.out _ _ _ _ _ _ _ hmp HFX.out; have hlk2 := HLK.out _ _ _ _ _ _ _ (hmp.below ((Below.refl _ _).alloc (Nat.le_refl _) zReached) hml) HFX.out; have kz := hbA1.trans (hbN.mono (by simp)); obtain ⟨y0, y1, y2, y3, y4⟩ := ZK.out _ _ kz; have tokZ : True := trivial; have hbX := hbA.trans (hbN.mono hbA.size); have tokS : True := trivial)
      | (go_at_call 41; (with_reducible refine (HSX.out _ (hbX.alloc hbX.size _)).mono ?_); rintro e wS ⟨bm, f, rfl, hbm, hM, hbN⟩; obtain ⟨A1, c1, A2, c2, hfx, hrp⟩ := HF.out _ _ _ _ hM; have hmp := hM.mp; have HFX := Lib.hid hfx; clear hfx; have hrp := hrp.monoF caS (F' := fun b => b < wS.heap.size) (fun b hb => hb.1); have hml := hmp.lt; have hlk := HLK.out _ _ _ _ _ _ _ hmp HFX.out; have hlk2 := HLK.out _ _ _ _ _ _ _ (hmp.below ((Below.refl _ _).alloc (Nat.le_refl _) zReached) hml) HFX.out; have kz : Below (wK.heap.size + 1) (wK.alloc zReached) wS := hbN.mono (by simp); obtain ⟨y0, y1, y2, y3, y4⟩ := ZK.out _ _ kz; have hgX := hbX.size; have hbX := (hbX.alloc hbX.size _).trans (hbN.mono (hbX.alloc hbX.size _).size); have tokS : True := trivial)
      | (go_at_call 42; clear tokS; (with_reducible refine (HKX.out _ hbX).mono ?_); rintro e wK ⟨rfl, hbN⟩; have hmp := hmp.below hbN hml; have hrp := (hrp.below caS hbN).mono caS hbN.size; have hml := hmp.lt; have hlk := HLK.out _ _ _ _ _ _ _ hmp HFX.out; have hlk2 := HLK.out _ _ _ _ _ _ _ (hmp.below ((Below.refl _ _).alloc (Nat.le_refl _) zReached) hml) HFX.out; (first | (clear tokZ; have kz := kz.trans (hbN.mono (by have := kz.size; simpa using this)); obtain ⟨y0, y1, y2, y3, y4⟩ := ZK.out _ _ kz; have tokZ : True := trivial) | have tokN : True := trivial); have hbX := hbX.trans (hbN.mono hbX.size))
      | (go_at_call 42; clear tokS; (with_reducible refine (HKX.out _ (hbX.alloc hbX.size _)).mono ?_); rintro e wK ⟨rfl, hbN⟩; have hbP := ((Below.refl wS.heap.size wS).alloc (Nat.le_refl _) zReached).trans (hbN.mono (by simp)); have hmp := hmp.below hbP hml; have hrp := (hrp.below caS hbP).mono caS hbP.size; have hml := hmp.lt; have hlk := HLK.out _ _ _ _ _ _ _ hmp HFX.out; have kz : Below (wS.heap.size + 1) (wS.alloc zReached) wK := hbN.mono (by simp); obtain ⟨y0, y1, y2, y3, y4⟩ := ZK.out _ _ kz; have hgX := hbX.size; have hbX := (hbX.alloc hbX.size _).trans (hbN.mono (hbX.alloc hbX.size _).size))
      | (go_at_call 42; (with_reducible refine (HKX.out _ hbX).mono ?_); rintro e wK ⟨rfl, hbN⟩; have hbX := hbX.trans (hbN.mono hbX.size))
      | (go_at_call 42; (with_reducible refine (HKX.out _ hbA).mono ?_); rintro e wK ⟨rfl, hbN⟩; have kz := hbA1.trans (hbN.mono (by simp)); obtain ⟨y0, y1, y2, y3, y4⟩ := ZK.out _ _ kz; have tokZ : True := trivial; have hbX := hbA.trans (hbN.mono hbA.size)))
    all_goals (go_wp2_with fail; go_meet)
    all_goals first
      | exact ⟨_, A2, c2, rfl, rfl, by simp, by simp, (hrp.below caS ((Below.refl _ _).alloc (Nat.le_refl _) _)).mono caS (by simp), hbX.alloc hbX.size _⟩
      | exact ⟨_, A2, c2, rfl, rfl, by simp; omega, (set2_all _ _ (.slice A1 t.length c1) (.slice A2 p.length c2) _ _ y0 y1).2, (hrp.set2 y0 y1).mono caS (by simp), (hbX.setCell hgX _).setCell hgX _⟩
  case rest =>
    obtain ⟨gx, A2, c2, rfl, rfl, hgx, x1, hrp, hbc⟩ := hcut
    go_wp2
    go_ret2
    exact ⟨_, rfl, hrp, B3.trans (hbc.mono hsA)⟩
end Go.Proofs.Ythabpkigflldmaa
