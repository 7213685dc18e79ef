/- The reference of chapter 47: Chain, sheet, Check. -/
import Derived.Test.YtbmlnflacdockaaGreatDoorRaB
import Derived.Test.YtbmlnflacdockaaGreatDoorGenB
import Derived.Test.YtbmlnflacdockaaGreatDoorPrC
namespace Go.Proofs.YtbmlnflacdockaaGreatDoor
open Go.RowKit

theorem chainG_len (l : List Sheet) : ∀ (f : Nat) (i : Int), (chainG l f i).length ≤ f
  | 0, _ => by simp [chainG]
  | f + 1, i => by
    unfold chainG
    split
    · simp
    · split
      · simp
      · rename_i s _
        rw [List.length_cons]
        split
        · simp
        · have := chainG_len l f (shtIx (l.take i.toNat) s.parent)
          omega
theorem chainF_neg (l : List Sheet) {i : Int} (h : i < 0) : chainF l i = [] := chainG_neg l _ h
theorem shtIx_ge (l : List Sheet) (u : Int) : -1 ≤ shtIx l u := by
  rcases idxF_cases (fun s : Sheet => decide (s.unit = u)) l with ⟨e, _⟩ | ⟨k, x, e, _⟩
  · rw [show shtIx l u = -1 from e]; exact Int.le_refl _
  · rw [show shtIx l u = k from e]; omega
theorem cat_at3 {w W : World} {v1 v2 v3 : Value} (hW : Below (w.heap.size + 1) (w.alloc (catC v1 v2 v3)) W) : W.cell? ⟨w.heap.size, 0, none⟩ = some v1 ∧ W.cell? ⟨w.heap.size, 1, none⟩ = some v2 ∧ W.cell? ⟨w.heap.size, 2, none⟩ = some v3 ∧ w.heap.size < W.heap.size :=
  ⟨(hW.cell (p := ⟨w.heap.size, 0, none⟩) (by simp)).trans (by simp), (hW.cell (p := ⟨w.heap.size, 1, none⟩) (by simp)).trans (by simp), (hW.cell (p := ⟨w.heap.size, 2, none⟩) (by simp)).trans (by simp), by have := hW.size; simp at this; omega⟩
set_option maxRecDepth 100000 in
set_option maxHeartbeats 4000000 in
theorem rchain_c (c : Cat) (i : Int) (v1 v2 v3 : Value) (w : World) (B : Nat) (hB : B ≤ w.heap.size) (h : CatRep w B c v1 v2 v3) (hi : i < c.sheets.length) (hl : c.sheets.length ≤ 1000) :
    Calls Tryz.prog 40 #[.agg #[v1, v2, v3], .int .i64 i] w fun e w' => ∃ v', e = .returned v' ∧ OwnRep 1 (flat intEnc) 3 w.heap.size w' (chainF c.sheets i) v' ∧ Below w.heap.size w w' := by
  have b1 : Below w.heap.size w (w.alloc (catC v1 v2 v3)) := (Below.refl _ _).alloc (Nat.le_refl _) _
  have KC := Lib.hid (fun (W : World) (hW : Below (w.heap.size + 1) (w.alloc (catC v1 v2 v3)) W) => cat_at3 hW)
  have HIX := Lib.hid (fun (n : Nat) (u : Int) (hn : n ≤ c.sheets.length) (W : World) (hW : Below w.heap.size w W) => rindex_c c n u v1 v2 v3 W B (Nat.le_trans hB hW.size) (h.sheets.below shtS (hW.mono hB)) hn)
  have hX := h.sheets
  obtain ⟨A1, ca1, rfl, -⟩ := id h.langs
  obtain ⟨A2, ca2, rfl, -⟩ := id h.labels
  obtain ⟨A3, ca3, rfl, hc1, hc2, _⟩ := id h.sheets
  have HB := Lib.hid (show (chainF c.sheets i).length ≤ 1000 by
    rcases Int.lt_or_le i 0 with h0 | h0
    · rw [chainF_neg _ h0]; simp
    · have := chainG_len c.sheets (i.toNat + 1) i
      unfold chainF
      omega)
  have HI := Lib.hid hi
  clear h hi
  go_enter Tryz.func40, Tryz.ntmps40
  go_wp2
  go_loopw [1, 5] (fun vi vo wr => ∃ (j : Int) (o : List Int), vi = .int .i64 j ∧ j < c.sheets.length ∧ Hid (chainF c.sheets i = o ++ chainF c.sheets j) ∧ OwnRep 1 (flat intEnc) 3 (w.heap.size + 1) wr o vo ∧ Below (w.heap.size + 1) (w.alloc (catC (.slice A1 c.langs.length ca1) (.slice A2 c.labels.length ca2) (.slice A3 c.sheets.length ca3))) wr) (fun vi _ _ => (intOf vi + 1).toNat)
  case atStart => exact ⟨i, [], rfl, HI.out, Lib.hid rfl, OwnRep.nil_, Below.refl _ _⟩
  case round =>
    clear HI
    obtain ⟨j, o, rfl, hj, HS, hown, hb⟩ := hrel
    obtain ⟨z0, z1, z2, zl⟩ := KC.out wr hb
    have Br := b1.trans (hb.mono (by omega))
    have hsr := Br.size
    by_cases h0 : 0 ≤ j
    · obtain ⟨n, rfl⟩ : ∃ n : Nat, j = n := ⟨j.toNat, by omega⟩
      obtain ⟨x, hx⟩ := get_at c.sheets (show n < c.sheets.length by omega)
      have HCA := Lib.hid (chainF_at hx)
      have HX := Lib.hid (fun (W : World) (hW : Below w.heap.size w W) => Sheets.at_ (hX.below shtS (hW.mono hB)) hx)
      obtain ⟨b, off, vf, rfl, hbB, g0, g1, -⟩ := Sheets.at_ (hX.below shtS (Br.mono hB)) hx
      have hbw : b < wr.heap.size := by have : b < B := hbB; omega
      have HOL := Lib.hid (show o.length + 1 ≤ 1000 by
        have h1 := HB.out
        rw [HS.out, HCA.out, List.length_append, List.length_cons] at h1
        omega)
      have hnl := lt_of_at hx
      have hd0 : decide ((0 : Int) ≤ (n : Int)) = true := decide_eq_true (by omega)
      clear hx
      go_wp2_with (at_builtin; refine stop_intro ?_)
      refine stop_elim ?_
      have hA := hown.below intS ((Below.refl wr.heap.size wr).alloc (Nat.le_refl _) (.cells #[.int .i64 x.unit] 3))
      refine wpList_append_rep rfl intS intE_ (w.heap.size + 1) (.tmp 8) (.tmp 15) rfl rfl hA rfl (ys := [x.unit]) (SlRep.one_new intS (w := wr) (x := x.unit) (F := fun _ => False) rfl rfl (fun _ h => h.elim)) ?F ?n (by decide) ?hbase ?_
      case F =>
        intro b' hb'
        rcases hb' with hb' | hb'
        · exact hb'.elim
        · subst hb'
          exact ⟨by simp, fun e => by have := hown.own_lt _ e; omega⟩
      case n => have := HOL.out; simp; omega
      case hbase => simp; omega
      intro v5 w5 hown5 hg5 hat5
      have hb5 := (hb.alloc (by have := hb.size; simp at this; omega) (.cells #[.int .i64 x.unit] 3)).grown hg5 (by have := hb.size; simp at *; omega) (fun k hk => (hown.own_lt k hk).1)
      have B5 := b1.trans (hb5.mono (by omega))
      obtain ⟨y0, y1, y2, yl⟩ := KC.out _ hb5
      obtain ⟨_, _, _, e9, hbB5, r0, r1, -⟩ := HX.out _ B5
      cases e9
      have hbw5 : b < w5.heap.size := by have := hg5.size; simp at this; omega
      clear g0 g1 z0 z1 z2 zl hA hown
      by_cases hp : x.parent = 0
      · have e0 : (x.parent == 0) = true := by simp [hp]
        have HE := Lib.hid (show chainF c.sheets i = o ++ [x.unit] by rw [HS.out, HCA.out, if_pos hp])
        clear hp
        go_wp2
        go_ret
        exact ⟨_, rfl, by rw [HE.out]; exact hown5.base_le (Nat.le_succ _), B5⟩
      · have e0 : (x.parent == 0) = false := by simp [hp]
        have HE := Lib.hid (show chainF c.sheets i = (o ++ [x.unit]) ++ chainF c.sheets (shtIx (c.sheets.take n) x.parent) by rw [HS.out, HCA.out, if_neg hp, List.append_assoc]; rfl)
        have hlt := shtIx_lt (c.sheets.take n) x.parent
        have hge := shtIx_ge (c.sheets.take n) x.parent
        rw [List.length_take] at hlt
        have hki : (n : Int) < (c.sheets.length : Int) := by omega
        clear hp
        go_upto_region 6 with fail
        have hbX := hb5.drew
        have KS := Lib.hid (fun (W : World) (hW : Below (w.heap.size + 1) (w.alloc (catC (.slice A1 c.langs.length ca1) (.slice A2 c.labels.length ca2) (.slice (some ⟨b, off, none⟩) c.sheets.length ca3))) W) (hs : w5.heap.size ≤ W.heap.size) => (⟨(KC.out W hW).1, (KC.out W hW).2.1, (KC.out W hW).2.2.1, (KC.out W hW).2.2.2, by
          obtain ⟨_, _, _, e9, _, _, t1, -⟩ := HX.out W (b1.trans (hW.mono (by omega)))
          cases e9
          exact t1, Nat.lt_of_lt_of_le hbw5 hs⟩ : W.cell? ⟨w.heap.size, 0, none⟩ = some (.slice A1 c.langs.length ca1) ∧ W.cell? ⟨w.heap.size, 1, none⟩ = some (.slice A2 c.labels.length ca2) ∧ W.cell? ⟨w.heap.size, 2, none⟩ = some (.slice (some ⟨b, off, none⟩) c.sheets.length ca3) ∧ w.heap.size < W.heap.size ∧ W.cell? ⟨b, off + n * 6 + 1, none⟩ = some (.int .i64 x.parent) ∧ b < W.heap.size))
        have hs0 : w5.heap.size ≤ w5.drew.heap.size := Nat.le_refl _
        have hown6 := hown5.below intS (Below.refl _ _).drew
        have hnle := Nat.le_of_lt hnl
        clear r0 r1 y0 y1 y2 yl
        go_region_held3 (fun W => W.cell? ⟨w.heap.size, 0, none⟩ = some (.slice A1 c.langs.length ca1) ∧ W.cell? ⟨w.heap.size, 1, none⟩ = some (.slice A2 c.labels.length ca2) ∧ W.cell? ⟨w.heap.size, 2, none⟩ = some (.slice (some ⟨b, off, none⟩) c.sheets.length ca3) ∧ w.heap.size < W.heap.size ∧ W.cell? ⟨b, off + n * 6 + 1, none⟩ = some (.int .i64 x.parent) ∧ b < W.heap.size) (with_reducible exact KS.out _ hbX hs0) (first
          | (go_at_call 38; (with_reducible refine (HIX.out n x.parent hnle _ (b1.trans (hbX.mono (Nat.le_succ _)))).mono ?_); rintro e wI ⟨rfl, hbI⟩; have hbX := bnd_call hbX (by simp) hbI; have hs0 := Nat.le_trans hs0 hbI.size; have hown6 := hown6.below intS hbI))
        go_wp2
        go_roundw
        case rel => exact ⟨_, _, rfl, by omega, HE, hown6, hbX⟩
        case measure => simp [intOf]; omega
    · have hd0 : decide ((0 : Int) ≤ j) = false := decide_eq_false h0
      have HE := Lib.hid (show chainF c.sheets i = o by rw [HS.out, chainF_neg _ (by omega), List.append_nil])
      clear h0 hj
      go_wp2
      go_ret
      exact ⟨_, rfl, by rw [HE.out]; exact hown.base_le (Nat.le_succ _), Br⟩
theorem shW_at {w W : World} {v1 v2 v3 vf : Value} {x : Sheet} (hW : Below (w.heap.size + 2) ((w.alloc (catC v1 v2 v3)).alloc (shtC x vf)) W) : W.cell? ⟨w.heap.size, 0, none⟩ = some v1 ∧ W.cell? ⟨w.heap.size, 1, none⟩ = some v2 ∧ W.cell? ⟨w.heap.size, 2, none⟩ = some v3 ∧ W.cell? ⟨w.heap.size + 1, 0, none⟩ = some (.int .i64 x.unit) ∧ W.cell? ⟨w.heap.size + 1, 1, none⟩ = some (.int .i64 x.parent) ∧ W.cell? ⟨w.heap.size + 1, 5, none⟩ = some vf ∧ w.heap.size + 1 < W.heap.size := by
  have h0 : ((w.alloc (catC v1 v2 v3)).alloc (shtC x vf)).heap[w.heap.size]? = some (catC v1 v2 v3) := by
    rw [Below.heap_alloc _ _ _ (by simp)]
    show (w.heap.push _)[w.heap.size]? = _
    simp
  have h1 : ((w.alloc (catC v1 v2 v3)).alloc (shtC x vf)).heap[w.heap.size + 1]? = some (shtC x vf) := by
    rw [show w.heap.size + 1 = (w.alloc (catC v1 v2 v3)).heap.size by simp]
    exact Array.getElem?_push_size
  have k0 := (hW.block _ (by omega)).trans h0
  have k1 := (hW.block _ (by omega)).trans h1
  exact ⟨by rw [Lib.cell_of_heap k0]; rfl, by rw [Lib.cell_of_heap k0]; rfl, by rw [Lib.cell_of_heap k0]; rfl, by rw [Lib.cell_of_heap k1]; rfl, by rw [Lib.cell_of_heap k1]; rfl, by rw [Lib.cell_of_heap k1]; rfl, by have := hW.size; simp at this; omega⟩
set_option maxRecDepth 100000 in
set_option maxHeartbeats 8000000 in
theorem rsheet_c (c : Cat) (i : Nat) (x : Sheet) (v1 v2 v3 : Value) (w : World) (B : Nat) (hB : B ≤ w.heap.size) (h : CatRep w B c v1 v2 v3) (hx : c.sheets[i]? = some x) (hl : c.sheets.length ≤ 1000) :
    Calls Tryz.prog 48 #[.agg #[v1, v2, v3], .int .i64 i] w fun e w' => e = .returned (.int .i64 (rshtF c.langs c.sheets i x)) ∧ Below w.heap.size w w' := by
  have hil := lt_of_at hx
  have HIX := Lib.hid (fun (u : Int) (W : World) (hW : Below w.heap.size w W) => rindex_c c i u v1 v2 v3 W B (Nat.le_trans hB hW.size) (h.sheets.below shtS (hW.mono hB)) (Nat.le_of_lt hil))
  have HCH := Lib.hid (fun (j : Int) (hj : j < c.sheets.length) (W : World) (hW : Below w.heap.size w W) => rchain_c c j v1 v2 v3 W B (Nat.le_trans hB hW.size) (h.below (hW.mono hB)) hj hl)
  have hL := h.langs
  obtain ⟨A1, ca1, rfl, -⟩ := id h.langs
  obtain ⟨A2, ca2, rfl, -⟩ := id h.labels
  obtain ⟨A3, ca3, rfl, hc1, hc2, _⟩ := id h.sheets
  have b0 : Below w.heap.size w (w.alloc (catC (.slice A1 c.langs.length ca1) (.slice A2 c.labels.length ca2) (.slice A3 c.sheets.length ca3))) := (Below.refl _ _).alloc (Nat.le_refl _) _
  obtain ⟨b, off, vf, e9, hbB, g0, g1, g2, g3, g4, g5, hvf⟩ := Sheets.at_ h.sheets hx
  subst e9
  obtain ⟨Af, cf, rfl, -⟩ := id hvf
  have hbw0 : b < w.heap.size := by have : b < B := hbB; omega
  have hbw : b < (w.alloc (catC (.slice A1 c.langs.length ca1) (.slice A2 c.labels.length ca2) (.slice (some ⟨b, off, none⟩) c.sheets.length ca3))).heap.size := by simp; omega
  replace g0 := (b0.cell (p := ⟨b, _, none⟩) hbw0).trans g0
  replace g1 := (b0.cell (p := ⟨b, _, none⟩) hbw0).trans g1
  replace g2 := (b0.cell (p := ⟨b, _, none⟩) hbw0).trans g2
  replace g3 := (b0.cell (p := ⟨b, _, none⟩) hbw0).trans g3
  replace g4 := (b0.cell (p := ⟨b, _, none⟩) hbw0).trans g4
  replace g5 := (b0.cell (p := ⟨b, _, none⟩) hbw0).trans g5
  have b1 : Below w.heap.size w ((w.alloc (catC (.slice A1 c.langs.length ca1) (.slice A2 c.labels.length ca2) (.slice (some ⟨b, off, none⟩) c.sheets.length ca3))).alloc (shtC x (.slice Af x.facts.length cf))) := b0.alloc (by simp) _
  have hb0 : Below (w.heap.size + 2) ((w.alloc (catC (.slice A1 c.langs.length ca1) (.slice A2 c.labels.length ca2) (.slice (some ⟨b, off, none⟩) c.sheets.length ca3))).alloc (shtC x (.slice Af x.facts.length cf))) ((w.alloc (catC (.slice A1 c.langs.length ca1) (.slice A2 c.labels.length ca2) (.slice (some ⟨b, off, none⟩) c.sheets.length ca3))).alloc (shtC x (.slice Af x.facts.length cf))) := Below.refl _ _
  have KC := Lib.hid (fun (W : World) (hW : Below (w.heap.size + 2) ((w.alloc (catC (.slice A1 c.langs.length ca1) (.slice A2 c.labels.length ca2) (.slice (some ⟨b, off, none⟩) c.sheets.length ca3))).alloc (shtC x (.slice Af x.facts.length cf))) W) => shW_at hW)
  have HFC := Lib.hid (fun (W : World) (hW : Below w.heap.size w W) => rfacts_c c.langs x.facts (.slice A1 c.langs.length ca1) (.slice A2 c.labels.length ca2) (.slice (some ⟨b, off, none⟩) c.sheets.length ca3) (.slice Af x.facts.length cf) W B (Nat.le_trans hB hW.size) (hL.below strS (hW.mono hB)) (hvf.below fctS (hW.mono hB)))
  have hki : (i : Int) < (c.sheets.length : Int) := by omega
  clear h hvf hL b0 hx
  by_cases c1 : x.unit < 1 ∨ 1073741824 < x.unit ∨ x.level < 1 ∨ 4 < x.level
  · have HE := Lib.hid (show rshtF c.langs c.sheets i x = 2 by unfold rshtF; rw [if_pos c1])
    have HC1 := Lib.hid c1
    clear c1
    go_enter Tryz.func48, Tryz.ntmps48
    go_wp2_with fail
    all_goals first
      | (go_ret; exact ⟨ret_int HE.out.symm, b1⟩)
      | (exfalso; have := HC1.out; omega)
  · have d1 : decide (x.unit < 1) = false := by simp; omega
    have d2 : decide ((1073741824 : Int) < x.unit) = false := by simp; omega
    have d3 : decide (x.level < 1) = false := by simp; omega
    have d4 : decide ((4 : Int) < x.level) = false := by simp; omega
    by_cases c2 : 64 < x.mark.size ∨ x.title.size = 0 ∨ 64 < x.title.size
    · have HE := Lib.hid (show rshtF c.langs c.sheets i x = 4 by unfold rshtF; rw [if_neg c1, if_pos c2])
      clear c1
      by_cases m1 : 64 < x.mark.size
      · have d5 : decide ((64 : Int) < (x.mark.size : Int)) = true := decide_eq_true (by omega)
        clear c2 m1
        go_enter Tryz.func48, Tryz.ntmps48
        go_wp2_with fail
        go_ret
        exact ⟨ret_int HE.out.symm, b1⟩
      · have d5 : decide ((64 : Int) < (x.mark.size : Int)) = false := decide_eq_false (by omega)
        by_cases m2 : x.title.size = 0
        · have e4 : (x.title.toList == ([] : List UInt8)) = true := by have := str_empty x.title; rw [m2] at this; simpa using this
          clear c2 m1 m2
          go_enter Tryz.func48, Tryz.ntmps48
          go_wp2_with fail
          go_ret
          exact ⟨ret_int HE.out.symm, b1⟩
        · have e4 : (x.title.toList == ([] : List UInt8)) = false := by have := str_empty x.title; rw [decide_eq_false m2] at this; simpa using this
          have d6 : decide ((64 : Int) < (x.title.size : Int)) = true := decide_eq_true (by omega)
          clear c2 m1 m2
          go_enter Tryz.func48, Tryz.ntmps48
          go_wp2_with fail
          go_ret
          exact ⟨ret_int HE.out.symm, b1⟩
    · have d5 : decide ((64 : Int) < (x.mark.size : Int)) = false := decide_eq_false (by omega)
      have e4 : (x.title.toList == ([] : List UInt8)) = false := by have := str_empty x.title; rw [decide_eq_false (by omega)] at this; simpa using this
      have d6 : decide ((64 : Int) < (x.title.size : Int)) = false := decide_eq_false (by omega)
      have HE := Lib.hid (show rshtF c.langs c.sheets i x = if 0 ≤ shtIx (c.sheets.take i) x.unit then 6
          else if x.parent ≠ 0 ∧ (i = 0 ∨ inB (chainF c.sheets ((i : Int) - 1)) x.parent = false) then 7
          else if x.parent ≠ 0 ∧ 12 ≤ (chainF c.sheets (shtIx (c.sheets.take i) x.parent)).length then 15
          else fctE c.langs x.facts by unfold rshtF; rw [if_neg c1, if_neg c2])
      clear c1 c2
      by_cases c3 : 0 ≤ shtIx (c.sheets.take i) x.unit
      · have HE := Lib.hid (HE.out.trans (if_pos c3))
        have d7 : decide ((0 : Int) ≤ shtIx (c.sheets.take i) x.unit) = true := decide_eq_true c3
        clear c3
        go_enter Tryz.func48, Tryz.ntmps48
        go_wp2_with fail
        refine (HIX.out x.unit _ b1).mono ?_
        rintro e wI ⟨rfl, hbI⟩
        have hbX := bnd_call hb0 (by simp) hbI
        obtain ⟨z0, z1, z2, y0, y1, y5, yl⟩ := KC.out _ hbX
        go_wp2
        go_ret
        exact ⟨ret_int HE.out.symm, b1.trans (hbX.mono (by omega))⟩
      · have HE := Lib.hid (HE.out.trans (if_neg c3))
        have d7 : decide ((0 : Int) ≤ shtIx (c.sheets.take i) x.unit) = false := decide_eq_false c3
        clear c3
        by_cases hp : x.parent = 0
        · have HE := Lib.hid ((HE.out.trans (if_neg (by simp [hp]))).trans (if_neg (by simp [hp])))
          have p0 : (x.parent != 0) = false := by simp [hp]
          clear hp
          go_enter Tryz.func48, Tryz.ntmps48
          go_wp2_with fail
          refine (HIX.out x.unit _ b1).mono ?_
          rintro e wI ⟨rfl, hbI⟩
          have hbX := bnd_call hb0 (by simp) hbI
          obtain ⟨z0, z1, z2, y0, y1, y5, yl⟩ := KC.out _ hbX
          go_wp2_with fail
          refine (HFC.out _ (b1.trans (hbX.mono (by omega)))).mono ?_
          rintro e wF ⟨rfl, hbF⟩
          have hbX := bnd_call hbX (by simp) hbF
          go_wp2
          go_ret
          exact ⟨ret_int HE.out.symm, b1.trans (hbX.mono (by omega))⟩

        · have p0 : (x.parent != 0) = true := by simp [hp]
          rcases Nat.eq_zero_or_pos i with hi0 | hi0
          · have HE7 := Lib.hid (HE.out.trans (if_pos ⟨hp, .inl hi0⟩))
            clear hp HE
            subst hi0
            simp only [Nat.zero_mul, Nat.add_zero] at g0 g1 g2 g3 g4 g5
            go_enter Tryz.func48, Tryz.ntmps48
            go_wp2_with fail
            refine (HIX.out x.unit _ b1).mono ?_
            rintro e wI ⟨rfl, hbI⟩
            have hbX := bnd_call hb0 (by simp) hbI
            obtain ⟨z0, z1, z2, y0, y1, y5, yl⟩ := KC.out _ hbX
            go_wp2
            go_quiet (fail)
            go_wp2
            go_ret
            exact ⟨ret_int HE7.out.symm, b1.trans ((hbX.trans (below_of_drew _ ⟨_, rfl⟩)).mono (by omega))⟩
          · obtain ⟨i', rfl⟩ : ∃ i', i = i' + 1 := ⟨i - 1, by omega⟩
            have hj1 : (i' : Int) < (c.sheets.length : Int) := by omega
            have hj2 : shtIx (c.sheets.take (i' + 1)) x.parent < (c.sheets.length : Int) := by have := shtIx_lt (c.sheets.take (i' + 1)) x.parent; rw [List.length_take] at this; omega
            have hw0 : IntKind.i64.wrap ((i' : Int) + 1 - 1) = (i' : Int) := by rw [Int.add_sub_cancel]; exact IntWalk.i64_in _ (by omega)
            have hw1 : IntKind.i64.wrap (i' : Int) = (i' : Int) := IntWalk.i64_in _ (by omega)
            have hw2 : ((i' : Int) + 1 == 0) = false := by rw [beq_eq_false_iff_ne]; omega
            have HEQ := Lib.hid (show ((i' + 1 : Nat) : Int) - 1 = (i' : Int) by omega)
            rw [show ((i' + 1 : Nat) : Int) = (i' : Int) + 1 from rfl] at hki HIX ⊢
            cases hin : inB (chainF c.sheets (i' : Int)) x.parent
            · have HE := Lib.hid (HE.out.trans (if_pos ⟨hp, .inr (by rw [HEQ.out]; exact hin)⟩))
              have HIN := Lib.hid hin
              clear hp hi0 hin
              go_enter Tryz.func48, Tryz.ntmps48
              go_wp2_with fail
              refine (HIX.out x.unit _ b1).mono ?_
              rintro e wI ⟨rfl, hbI⟩
              have hbX := bnd_call hb0 (by simp) hbI
              obtain ⟨z0, z1, z2, y0, y1, y5, yl⟩ := KC.out _ hbX
              go_wp2
              have hbX := hbX.drew
              clear z0 z1 z2 y0 y1 y5 yl
              go_region_held3 (fun W => W.cell? ⟨w.heap.size, 0, none⟩ = some (.slice A1 c.langs.length ca1) ∧ W.cell? ⟨w.heap.size, 1, none⟩ = some (.slice A2 c.labels.length ca2) ∧ W.cell? ⟨w.heap.size, 2, none⟩ = some (.slice (some ⟨b, off, none⟩) c.sheets.length ca3) ∧ W.cell? ⟨w.heap.size + 1, 0, none⟩ = some (.int .i64 x.unit) ∧ W.cell? ⟨w.heap.size + 1, 1, none⟩ = some (.int .i64 x.parent) ∧ W.cell? ⟨w.heap.size + 1, 5, none⟩ = some (.slice Af x.facts.length cf) ∧ w.heap.size + 1 < W.heap.size) (with_reducible exact KC.out _ hbX) (first
                | (go_at_call 40; (with_reducible refine (HCH.out (i' : Int) hj1 _ (b1.trans (hbX.mono (Nat.le_add_right _ _)))).mono ?_); rintro e wC ⟨vC, rfl, hownC, hbC⟩; have hbX := bnd_call hbX (by simp) hbC; have hch := hownC.toSl intS; obtain ⟨AC, cC, rfl, -⟩ := id hch)
                | (go_at_call 39; (with_reducible refine (rin_c (chainF c.sheets (i' : Int)) x.parent _ _ (fun b => b < wC.heap.size) (fun _ h => h) hch).mono ?_); rintro e w1 ⟨he, rfl⟩; rw [HIN.out] at he; subst he))
              obtain ⟨z0, z1, z2, y0, y1, y5, yl⟩ := KC.out _ hbX
              go_wp2
              go_ret
              exact ⟨ret_int HE.out.symm, b1.trans (hbX.mono (by omega))⟩
            · have HE := Lib.hid (HE.out.trans (if_neg (by rw [HEQ.out, hin]; simp)))
              have HIN := Lib.hid hin
              by_cases c5 : 12 ≤ (chainF c.sheets (shtIx (c.sheets.take (i' + 1)) x.parent)).length
              · have HE := Lib.hid (HE.out.trans (if_pos ⟨hp, c5⟩))
                have d8 : decide ((12 : Int) ≤ ((chainF c.sheets (shtIx (c.sheets.take (i' + 1)) x.parent)).length : Int)) = true := decide_eq_true (by omega)
                clear hp hi0 hin c5
                go_enter Tryz.func48, Tryz.ntmps48
                go_wp2_with fail
                refine (HIX.out x.unit _ b1).mono ?_
                rintro e wI ⟨rfl, hbI⟩
                have hbX := bnd_call hb0 (by simp) hbI
                obtain ⟨z0, z1, z2, y0, y1, y5, yl⟩ := KC.out _ hbX
                go_wp2
                have hbX := hbX.drew
                clear z0 z1 z2 y0 y1 y5 yl
                go_region_held3 (fun W => W.cell? ⟨w.heap.size, 0, none⟩ = some (.slice A1 c.langs.length ca1) ∧ W.cell? ⟨w.heap.size, 1, none⟩ = some (.slice A2 c.labels.length ca2) ∧ W.cell? ⟨w.heap.size, 2, none⟩ = some (.slice (some ⟨b, off, none⟩) c.sheets.length ca3) ∧ W.cell? ⟨w.heap.size + 1, 0, none⟩ = some (.int .i64 x.unit) ∧ W.cell? ⟨w.heap.size + 1, 1, none⟩ = some (.int .i64 x.parent) ∧ W.cell? ⟨w.heap.size + 1, 5, none⟩ = some (.slice Af x.facts.length cf) ∧ w.heap.size + 1 < W.heap.size) (with_reducible exact KC.out _ hbX) (first
                  | (go_at_call 40; (with_reducible refine (HCH.out (i' : Int) hj1 _ (b1.trans (hbX.mono (Nat.le_add_right _ _)))).mono ?_); rintro e wC ⟨vC, rfl, hownC, hbC⟩; have hbX := bnd_call hbX (by simp) hbC; have hch := hownC.toSl intS; obtain ⟨AC, cC, rfl, -⟩ := id hch)
                  | (go_at_call 39; (with_reducible refine (rin_c (chainF c.sheets (i' : Int)) x.parent _ _ (fun b => b < wC.heap.size) (fun _ h => h) hch).mono ?_); rintro e w1 ⟨he, rfl⟩; rw [HIN.out] at he; subst he))
                obtain ⟨z0, z1, z2, y0, y1, y5, yl⟩ := KC.out _ hbX
                go_wp2
                have hbX := hbX.drew
                clear z0 z1 z2 y0 y1 y5 yl
                go_region_held3 (fun W => W.cell? ⟨w.heap.size, 0, none⟩ = some (.slice A1 c.langs.length ca1) ∧ W.cell? ⟨w.heap.size, 1, none⟩ = some (.slice A2 c.labels.length ca2) ∧ W.cell? ⟨w.heap.size, 2, none⟩ = some (.slice (some ⟨b, off, none⟩) c.sheets.length ca3) ∧ W.cell? ⟨w.heap.size + 1, 0, none⟩ = some (.int .i64 x.unit) ∧ W.cell? ⟨w.heap.size + 1, 1, none⟩ = some (.int .i64 x.parent) ∧ W.cell? ⟨w.heap.size + 1, 5, none⟩ = some (.slice Af x.facts.length cf) ∧ w.heap.size + 1 < W.heap.size) (with_reducible exact KC.out _ hbX) (first
                  | (go_at_call 38; (with_reducible refine (HIX.out x.parent _ (b1.trans (hbX.mono (Nat.le_add_right _ _)))).mono ?_); rintro e wJ ⟨rfl, hbJ⟩; have hbX := bnd_call hbX (by simp) hbJ)
                  | (go_at_call 40; (with_reducible refine (HCH.out _ hj2 _ (b1.trans (hbX.mono (Nat.le_add_right _ _)))).mono ?_); rintro e wD ⟨vD, rfl, hownD, hbD⟩; have hbX := bnd_call hbX (by simp) hbD; obtain ⟨AD, cD, rfl, -⟩ := id (hownD.toSl intS)))
                obtain ⟨z0, z1, z2, y0, y1, y5, yl⟩ := KC.out _ hbX
                go_wp2
                go_ret
                exact ⟨ret_int HE.out.symm, b1.trans (hbX.mono (by omega))⟩
              · have HE := Lib.hid (HE.out.trans (if_neg (by simp [c5])))
                have d8 : decide ((12 : Int) ≤ ((chainF c.sheets (shtIx (c.sheets.take (i' + 1)) x.parent)).length : Int)) = false := decide_eq_false (by omega)
                clear hp hi0 hin c5
                go_enter Tryz.func48, Tryz.ntmps48
                go_wp2_with fail
                refine (HIX.out x.unit _ b1).mono ?_
                rintro e wI ⟨rfl, hbI⟩
                have hbX := bnd_call hb0 (by simp) hbI
                obtain ⟨z0, z1, z2, y0, y1, y5, yl⟩ := KC.out _ hbX
                go_wp2
                have hbX := hbX.drew
                clear z0 z1 z2 y0 y1 y5 yl
                go_region_held3 (fun W => W.cell? ⟨w.heap.size, 0, none⟩ = some (.slice A1 c.langs.length ca1) ∧ W.cell? ⟨w.heap.size, 1, none⟩ = some (.slice A2 c.labels.length ca2) ∧ W.cell? ⟨w.heap.size, 2, none⟩ = some (.slice (some ⟨b, off, none⟩) c.sheets.length ca3) ∧ W.cell? ⟨w.heap.size + 1, 0, none⟩ = some (.int .i64 x.unit) ∧ W.cell? ⟨w.heap.size + 1, 1, none⟩ = some (.int .i64 x.parent) ∧ W.cell? ⟨w.heap.size + 1, 5, none⟩ = some (.slice Af x.facts.length cf) ∧ w.heap.size + 1 < W.heap.size) (with_reducible exact KC.out _ hbX) (first
                  | (go_at_call 40; (with_reducible refine (HCH.out (i' : Int) hj1 _ (b1.trans (hbX.mono (Nat.le_add_right _ _)))).mono ?_); rintro e wC ⟨vC, rfl, hownC, hbC⟩; have hbX := bnd_call hbX (by simp) hbC; have hch := hownC.toSl intS; obtain ⟨AC, cC, rfl, -⟩ := id hch)
                  | (go_at_call 39; (with_reducible refine (rin_c (chainF c.sheets (i' : Int)) x.parent _ _ (fun b => b < wC.heap.size) (fun _ h => h) hch).mono ?_); rintro e w1 ⟨he, rfl⟩; rw [HIN.out] at he; subst he))
                obtain ⟨z0, z1, z2, y0, y1, y5, yl⟩ := KC.out _ hbX
                go_wp2
                have hbX := hbX.drew
                clear z0 z1 z2 y0 y1 y5 yl
                go_region_held3 (fun W => W.cell? ⟨w.heap.size, 0, none⟩ = some (.slice A1 c.langs.length ca1) ∧ W.cell? ⟨w.heap.size, 1, none⟩ = some (.slice A2 c.labels.length ca2) ∧ W.cell? ⟨w.heap.size, 2, none⟩ = some (.slice (some ⟨b, off, none⟩) c.sheets.length ca3) ∧ W.cell? ⟨w.heap.size + 1, 0, none⟩ = some (.int .i64 x.unit) ∧ W.cell? ⟨w.heap.size + 1, 1, none⟩ = some (.int .i64 x.parent) ∧ W.cell? ⟨w.heap.size + 1, 5, none⟩ = some (.slice Af x.facts.length cf) ∧ w.heap.size + 1 < W.heap.size) (with_reducible exact KC.out _ hbX) (first
                  | (go_at_call 38; (with_reducible refine (HIX.out x.parent _ (b1.trans (hbX.mono (Nat.le_add_right _ _)))).mono ?_); rintro e wJ ⟨rfl, hbJ⟩; have hbX := bnd_call hbX (by simp) hbJ)
                  | (go_at_call 40; (with_reducible refine (HCH.out _ hj2 _ (b1.trans (hbX.mono (Nat.le_add_right _ _)))).mono ?_); rintro e wD ⟨vD, rfl, hownD, hbD⟩; have hbX := bnd_call hbX (by simp) hbD; obtain ⟨AD, cD, rfl, -⟩ := id (hownD.toSl intS)))
                obtain ⟨z0, z1, z2, y0, y1, y5, yl⟩ := KC.out _ hbX
                go_wp2_with fail
                refine (HFC.out _ (b1.trans (hbX.mono (by omega)))).mono ?_
                rintro e wF ⟨rfl, hbF⟩
                have hbX := bnd_call hbX (by simp) hbF
                go_wp2
                go_ret
                exact ⟨ret_int HE.out.symm, b1.trans (hbX.mono (by omega))⟩

theorem rshtG_cons (ls : List ByteArray) (l : List Sheet) (i : Nat) (s : Sheet) (r : List Sheet) : rshtG ls l i (s :: r) = if rshtF ls l i s = 0 then rshtG ls l (i + 1) r else rshtF ls l i s := rfl
theorem ne_boolR {a : Int} (h : a ≠ 0) : (a != 0) = true ∧ (a == 0) = false := ⟨by simpa using h, by simpa using h⟩
set_option maxRecDepth 100000 in
set_option maxHeartbeats 4000000 in
theorem rcheck47_c (c : Cat) (v1 v2 v3 : Value) (w : World) (B : Nat) (hB : B ≤ w.heap.size) (h : CatRep w B c v1 v2 v3) (hl : c.sheets.length ≤ 1000) :
    Calls Tryz.prog 13 #[.agg #[v1, v2, v3]] w fun e w' => e = .returned (.int .i64 (catE c)) ∧ Below w.heap.size w w' := by
  have b1 : Below w.heap.size w (w.alloc (catC v1 v2 v3)) := (Below.refl _ _).alloc (Nat.le_refl _) _
  have hb0 : Below (w.heap.size + 1) (w.alloc (catC v1 v2 v3)) (w.alloc (catC v1 v2 v3)) := Below.refl _ _
  have KC := Lib.hid (fun (W : World) (hW : Below (w.heap.size + 1) (w.alloc (catC v1 v2 v3)) W) => cat_at3 hW)
  have HLA := Lib.hid (fun (W : World) (hW : Below w.heap.size w W) => rlanguages_c c.langs v1 W (fun b => b < B) (fun b hb => by have : b < B := hb; have := hW.size; omega) (h.langs.below strS (hW.mono hB)))
  have HLB := Lib.hid (fun (W : World) (hW : Below w.heap.size w W) => rlabels_c c v1 v2 v3 W B (Nat.le_trans hB hW.size) (h.below (hW.mono hB)))
  have HSH := Lib.hid (fun (i : Nat) (x : Sheet) (hx : c.sheets[i]? = some x) (W : World) (hW : Below w.heap.size w W) => rsheet_c c i x v1 v2 v3 W B (Nat.le_trans hB hW.size) (h.below (hW.mono hB)) hx hl)
  obtain ⟨A1, ca1, rfl, -⟩ := id h.langs
  obtain ⟨A2, ca2, rfl, -⟩ := id h.labels
  obtain ⟨A3, ca3, rfl, hc1, hc2, _⟩ := id h.sheets
  rw [← rcat_eq]
  clear h
  go_enter Tryz.func13, Tryz.ntmps13
  go_wp2_with fail
  refine (HLA.out _ b1).mono ?_
  rintro e w1 ⟨rfl, hb1⟩
  have hbX := bnd_call hb0 (by simp) hb1
  obtain ⟨z0, z1, z2, zl⟩ := KC.out _ hbX
  by_cases h1 : langE c.langs = 0
  · rw [h1]
    go_wp2_with fail
    refine (HLB.out _ (b1.trans (hbX.mono (Nat.le_succ _)))).mono ?_
    rintro e w2 ⟨rfl, hb2⟩
    have hbX := bnd_call hbX (by simp) hb2
    clear z0 z1 z2 zl
    obtain ⟨z0, z1, z2, zl⟩ := KC.out _ hbX
    by_cases h2 : labE c.langs c.labels = 0
    · rw [h2]
      by_cases h3 : 256 < c.sheets.length
      · have d3 : decide ((256 : Int) < (c.sheets.length : Int)) = true := decide_eq_true (by omega)
        have HE := Lib.hid (show rcatE c = 8 by unfold rcatE; rw [if_neg (by simp [h1]), if_neg (by simp [h2]), if_pos h3])
        clear h1 h2 h3
        go_wp2
        go_ret
        exact ⟨ret_int HE.out.symm, b1.trans (hbX.mono (Nat.le_succ _))⟩
      · have d3 : decide ((256 : Int) < (c.sheets.length : Int)) = false := decide_eq_false (by omega)
        have HE := Lib.hid (show rcatE c = rshtG c.langs c.sheets 0 (c.sheets.drop 0) by unfold rcatE; rw [if_neg (by simp [h1]), if_neg (by simp [h2]), if_neg h3]; rfl)
        clear h1 h2 h3
        go_wp2
        clear z0 z1 z2 zl
        go_loopw [5] (fun i wr => ∃ k : Nat, k ≤ c.sheets.length ∧ i = .int .i64 k ∧ Hid (rcatE c = rshtG c.langs c.sheets k (c.sheets.drop k)) ∧ Below (w.heap.size + 1) (w.alloc (catC (.slice A1 c.langs.length ca1) (.slice A2 c.labels.length ca2) (.slice A3 c.sheets.length ca3))) wr) (fun i _ => c.sheets.length - (intOf i).toNat)
        case atStart => exact ⟨0, Nat.zero_le _, rfl, HE, hbX⟩
        case round =>
          clear HE hbX
          obtain ⟨k, hk, rfl, HS, hb⟩ := hrel
          obtain ⟨z0, z1, z2, zl⟩ := KC.out wr hb
          have Br := b1.trans (hb.mono (Nat.le_succ _))
          by_cases hlt : k < c.sheets.length
          · obtain ⟨x, hx⟩ := get_at c.sheets hlt
            have HD := Lib.hid (drop_at hx)
            have HSX := Lib.hid (HSH.out k x hx wr Br)
            clear hx
            by_cases h0 : rshtF c.langs c.sheets k x = 0
            · have HE := Lib.hid (show rcatE c = rshtG c.langs c.sheets (k + 1) (c.sheets.drop (k + 1)) by rw [HS.out, HD.out, rshtG_cons, if_pos h0])
              rw [h0] at HSX
              clear h0
              go_wp2_with fail
              refine HSX.out.mono ?_
              rintro e w3 ⟨rfl, hb3⟩
              go_wp2
              go_roundw
              case rel => exact ⟨k + 1, by omega, by go_num, HE, bnd_call hb (by simp) hb3⟩
              case measure => simp [intOf]; omega
            · have HE := Lib.hid (show rcatE c = rshtF c.langs c.sheets k x by rw [HS.out, HD.out, rshtG_cons, if_neg h0])
              obtain ⟨n1, n2⟩ := ne_boolR h0
              clear h0
              go_wp2_with fail
              refine HSX.out.mono ?_
              rintro e w3 ⟨rfl, hb3⟩
              go_wp2
              go_ret
              exact ⟨ret_int HE.out.symm, b1.trans ((bnd_call hb (by simp) hb3).mono (Nat.le_succ _))⟩
          · have HE := Lib.hid (show rcatE c = 0 by rw [HS.out, List.drop_of_length_le (by omega)]; rfl)
            go_wp2
            go_ret
            exact ⟨ret_int HE.out.symm, Br⟩
    · have HE := Lib.hid (show rcatE c = labE c.langs c.labels by unfold rcatE; rw [if_neg (by simp [h1]), if_pos h2])
      obtain ⟨n1, n2⟩ := ne_boolR h2
      clear h1 h2
      go_wp2
      go_ret
      exact ⟨ret_int HE.out.symm, b1.trans (hbX.mono (Nat.le_succ _))⟩
  · have HE := Lib.hid (show rcatE c = langE c.langs by unfold rcatE; rw [if_pos h1])
    obtain ⟨n1, n2⟩ := ne_boolR h1
    clear h1
    go_wp2
    go_ret
    exact ⟨ret_int HE.out.symm, b1.trans (hbX.mono (Nat.le_succ _))⟩
end Go.Proofs.YtbmlnflacdockaaGreatDoor
