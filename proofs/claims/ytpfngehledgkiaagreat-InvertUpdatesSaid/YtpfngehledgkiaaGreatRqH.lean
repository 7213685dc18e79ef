/- The reference of chapter 55: changed, Update. -/
import Derived.Test.YtpfngehledgkiaaGreatRqG
import Derived.Test.YtpfngehledgkiaaGreatUpd
namespace Go.Proofs.YtpfngehledgkiaaGreat
open Go.RowKit

theorem insU_len : ∀ (l : List Int) (u : Int), (insU l u).length ≤ l.length + 1
  | [], u => by simp [insU]
  | x :: l, u => by
    unfold insU
    split
    · have := insU_len l u
      simp only [List.length_cons]
      omega
    · split
      · simp only [List.length_cons]; omega
      · simp only [List.length_cons]; omega
set_option maxRecDepth 100000 in
set_option maxHeartbeats 8000000 in
theorem rchanged5_c (a b : Cat) (s : ByteArray) (a1 a2 a3 b1 b2 b3 : Value) (w : World) (B : Nat) (hB : B ≤ w.heap.size) (ha : CatRep w B a a1 a2 a3) (hb : CatRep w B b b1 b2 b3) (la1 : a.sheets.length ≤ 1000) (la2 : a.langs.length ≤ 1000) (lb1 : b.sheets.length ≤ 1000) (lb2 : b.langs.length ≤ 1000) (hra : rightE a s = 0) (hrb : rightE b s = 0) :
    Calls Tryz.prog 67 #[.agg #[a1, a2, a3], .agg #[b1, b2, b3], .string s] w fun e w' => ∃ v', e = .returned v' ∧ SlRep 1 (flat intEnc) w' (fun b => b < w'.heap.size) (chgF (fun u => ofF a s u) (fun u => ofF b s u) (unitsL a b)) v' ∧ Below w.heap.size w w' := by
  have b1' : Below w.heap.size w ((w.alloc (catC a1 a2 a3)).alloc (catC b1 b2 b3)) := ((Below.refl _ _).alloc (Nat.le_refl _) _).alloc (by simp) _
  have hb0 : Below (w.heap.size + 2) ((w.alloc (catC a1 a2 a3)).alloc (catC b1 b2 b3)) ((w.alloc (catC a1 a2 a3)).alloc (catC b1 b2 b3)) := Below.refl _ _
  have KC := Lib.hid (fun (W : World) (hW : Below (w.heap.size + 2) ((w.alloc (catC a1 a2 a3)).alloc (catC b1 b2 b3)) W) => catW2_at hW)
  have HOA := Lib.hid (fun (u : Int) (W : World) (hW : Below w.heap.size w W) => show Calls Tryz.prog 14 #[.agg #[a1, a2, a3], .string s, .int .i64 u] W fun e w' => ∃ v', e = .returned v' ∧ Posts w' w'.heap.size (ofF a s u) v' ∧ Below W.heap.size W w' by
    have := rOf5_c a s u a1 a2 a3 W B (Nat.le_trans hB hW.size) (ha.below (hW.mono hB)) la1 la2
    rwa [if_pos hra] at this)
  have HOB := Lib.hid (fun (u : Int) (W : World) (hW : Below w.heap.size w W) => show Calls Tryz.prog 14 #[.agg #[b1, b2, b3], .string s, .int .i64 u] W fun e w' => ∃ v', e = .returned v' ∧ Posts w' w'.heap.size (ofF b s u) v' ∧ Below W.heap.size W w' by
    have := rOf5_c b s u b1 b2 b3 W B (Nat.le_trans hB hW.size) (hb.below (hW.mono hB)) lb1 lb2
    rwa [if_pos hrb] at this)
  have HSA := Lib.hid (fun (xs ys : List Post) (v v' : Value) (W : World) (hv : Posts W W.heap.size xs v) (hv' : Posts W W.heap.size ys v') => rsame5_c xs ys v v' W W.heap.size (Nat.le_refl _) hv hv')
  obtain ⟨A1, c1, rfl, -⟩ := id ha.langs
  obtain ⟨A2, c2, rfl, -⟩ := id ha.labels
  obtain ⟨A3, c3, rfl, -⟩ := id ha.sheets
  obtain ⟨B1, d1, rfl, -⟩ := id hb.langs
  obtain ⟨B2, d2, rfl, -⟩ := id hb.labels
  obtain ⟨B3, d3, rfl, -⟩ := id hb.sheets
  go_enter Tryz.func67, Tryz.ntmps67
  go_wp2_with (at_builtin; refine stop_intro ?_)
  have hs0 : ((w.alloc (catC (.slice A1 a.langs.length c1) (.slice A2 a.labels.length c2) (.slice A3 a.sheets.length c3))).alloc (catC (.slice B1 b.langs.length d1) (.slice B2 b.labels.length d2) (.slice B3 b.sheets.length d3))).heap.size = w.heap.size + 2 := by simp
  generalize (w.alloc (catC (.slice A1 a.langs.length c1) (.slice A2 a.labels.length c2) (.slice A3 a.sheets.length c3))).alloc (catC (.slice B1 b.langs.length d1) (.slice B2 b.labels.length d2) (.slice B3 b.sheets.length d3)) = W0 at *
  have hbY : Below (w.heap.size + 2) W0 W0.drew := (Below.refl _ _).drew
  have hbZ : Below (w.heap.size + 2) W0 (W0.alloc (.cells #[] 50)).drew := ((Below.refl _ _).alloc (by omega) _).drew
  have KEEP := Lib.hid (fun (W : World) (hW : Below (w.heap.size + 2) W0 W) => (⟨(KC.out _ hW).2.2.1, (KC.out _ hW).2.2.2.2.2.1⟩ : W.cell? ⟨w.heap.size, 2, none⟩ = some (.slice A3 a.sheets.length c3) ∧ W.cell? ⟨w.heap.size + 1, 2, none⟩ = some (.slice B3 b.sheets.length d3)))
  have hSA := Lib.hid (fun (W : World) (hW : Below (w.heap.size + 2) W0 W) => ha.sheets.below shtS ((b1'.trans (hW.mono (Nat.le_add_right _ 2))).mono hB))
  have hSB := Lib.hid (fun (W : World) (hW : Below (w.heap.size + 2) W0 W) => hb.sheets.below shtS ((b1'.trans (hW.mono (Nat.le_add_right _ 2))).mono hB))
  have kO : OwnRep 6 shtR 50 (w.heap.size + 2) ((W0.alloc (.cells #[] 50)).drew) ([] : List Sheet) (.slice (some ⟨w.heap.size + 2, 0, none⟩) 0 0) := (OwnRep.empty_new (w := W0) hs0 (by omega)).below shtS ((Below.refl _ _).drew)
  have kS := hSA.out _ hbZ
  have kF : ∀ b', b' < B → b' < ((W0.alloc (.cells #[] 50)).drew).heap.size ∧ (Value.slice (some ⟨w.heap.size + 2, 0, none⟩) 0 0).ownBlock ≠ some b' := fun b' hb' => ⟨by simp; omega, by show some (w.heap.size + 2) ≠ some b'; simp; omega⟩
  have kN : ([] : List Sheet).length + a.sheets.length ≤ 4294967296 := by simp; omega
  have kB : w.heap.size + 2 ≤ ((W0.alloc (.cells #[] 50)).drew).heap.size := by simp; omega
  have kN2 : a.sheets.length + b.sheets.length ≤ 4294967296 := by omega
  go_region_held3 (fun W => W.cell? ⟨w.heap.size, 2, none⟩ = some (.slice A3 a.sheets.length c3) ∧ W.cell? ⟨w.heap.size + 1, 2, none⟩ = some (.slice B3 b.sheets.length d3)) (first | with_reducible exact KEEP.out _ hbY | with_reducible exact KEEP.out _ hbZ | with_reducible exact KEEP.out _ hb6 | with_reducible exact KEEP.out _ hb7) (first
    | (refine step_append_rep rfl shtS shtE_ (w.heap.size + 2) (.tmp 13) (.tmp 15) rfl rfl kO rfl (ys := a.sheets) kS kF kN (by decide) kB ?_; intro v6 w6 hown6 hg6 hat6; have hb6 := hbZ.grown hg6 kB (fun k hk => by have : some (w.heap.size + 2) = some k := hk; injection this; omega); have hlo6 := hown6.own_lt; have kS2 := hSB.out _ hb6; have hs6 := hb6.size)
    | (refine step_append_rep rfl shtS shtE_ (w.heap.size + 2) (.tmp 16) (.tmp 18) rfl rfl hown6 rfl (ys := b.sheets) kS2 (fun b' (hb' : b' < B) => ⟨by omega, fun e => by have := (hlo6 b' e).1; omega⟩) (by simp only [List.nil_append]; exact kN2) (by decide) (by omega) ?_; intro v7 w7 hown7 hg7 hat7; have hb7 := hb6.grown hg7 (by omega) (fun k hk => (hlo6 k hk).1)))
  rw [List.nil_append] at hown7
  have hlo7 := hown7.own_lt
  have HSH := Lib.hid (own_sht0 hown7)
  have hs7 := hb7.size
  have hown7b := Lib.hid hown7
  obtain ⟨A7, n7, c7, rfl, hn7⟩ := own_form shtS hown7
  clear kO kS kF kN kB hb6 hg6 hg7 hlo6 kS2 hs6 hown6 hbY hbZ hat6 hat7 hown7
  have HC0 := Lib.hid (show chgF (fun u => ofF a s u) (fun u => ofF b s u) (unitsL a b) = chgG (fun u => ofF a s u) (fun u => ofF b s u) [] ((unitsL a b).drop 0) from rfl)
  go_wp2
  go_loopw [7, 9] (fun sl i wr => ∃ (k : Nat) (o : List Int) (v' : Value), k ≤ n7 ∧ i = .int .i64 k ∧ sl = v' ∧ Hid (chgF (fun u => ofF a s u) (fun u => ofF b s u) (unitsL a b) = chgG (fun u => ofF a s u) (fun u => ofF b s u) o ((unitsL a b).drop k)) ∧ SlRep 1 (flat intEnc) wr (fun b => b < wr.heap.size) o v' ∧ Hid (o.length ≤ k) ∧ Below w7.heap.size w7 wr) (fun _ i _ => n7 - (intOf i).toNat)
  case atStart => exact ⟨0, [], _, Nat.zero_le _, rfl, rfl, HC0, SlRep.nil_, Lib.hid (Nat.zero_le _), Below.refl _ _⟩
  case round =>
    obtain ⟨k, o, v', hk, rfl, hv', HS, ho, hol, hbW⟩ := hrel
    subst hv'
    obtain ⟨Ao, co, rfl, hco1, hco2, -⟩ := id ho
    have hsW7 := hbW.size
    have hb7W := hb7.trans (hbW.mono (by have := hs7; omega))
    obtain ⟨z0, z1, z2, z3, z4, z5, zl⟩ := KC.out _ hb7W
    have zl0 := Nat.lt_of_succ_lt zl
    have bW := b1'.trans (hb7W.mono (Nat.le_add_right _ 2))
    have hsW := bW.size
    by_cases hlt : k < n7
    · obtain ⟨x, hx⟩ := get_at (a.sheets ++ b.sheets) (show k < (a.sheets ++ b.sheets).length by rw [← hn7.out]; exact hlt)
      have hux : (unitsL a b)[k]? = some x.unit := by unfold unitsL; rw [List.getElem?_map, hx]; rfl
      have hkN : n7 ≤ 2000 := by rw [hn7.out, List.length_append]; omega
      have hol2 : o.length ≤ 2000 := by have := hol.out; omega
      obtain ⟨bs, offs, As, ns, cs', e9, hbs, q0, -⟩ := Sheet0.at_ (HSH.out.frame sht0S (fun b' hb' => hbW.block b' (hlo7 b' hb').2)) hx
      subst e9
      have hbsl : bs < wr.heap.size := Nat.lt_of_lt_of_le (hlo7 bs hbs).2 hsW7
      have hki : (k : Int) < (n7 : Int) := by omega
      have hbY : Below wr.heap.size wr wr.drew := (Below.refl _ _).drew
      have KEEP2 := Lib.hid (fun (W : World) (hW : Below wr.heap.size wr W) => (⟨(hW.cell (p := ⟨w.heap.size, 0, none⟩) zl0).trans z0, (hW.cell (p := ⟨w.heap.size, 1, none⟩) zl0).trans z1, (hW.cell (p := ⟨w.heap.size, 2, none⟩) zl0).trans z2, (hW.cell (p := ⟨w.heap.size + 1, 0, none⟩) zl).trans z3, (hW.cell (p := ⟨w.heap.size + 1, 1, none⟩) zl).trans z4, (hW.cell (p := ⟨w.heap.size + 1, 2, none⟩) zl).trans z5⟩ : W.cell? ⟨w.heap.size, 0, none⟩ = some (.slice A1 a.langs.length c1) ∧ W.cell? ⟨w.heap.size, 1, none⟩ = some (.slice A2 a.labels.length c2) ∧ W.cell? ⟨w.heap.size, 2, none⟩ = some (.slice A3 a.sheets.length c3) ∧ W.cell? ⟨w.heap.size + 1, 0, none⟩ = some (.slice B1 b.langs.length d1) ∧ W.cell? ⟨w.heap.size + 1, 1, none⟩ = some (.slice B2 b.labels.length d2) ∧ W.cell? ⟨w.heap.size + 1, 2, none⟩ = some (.slice B3 b.sheets.length d3)))
      clear z0 z1 z2 z3 z4 z5
      by_cases heq : ofF a s x.unit = ofF b s x.unit
      · have HN := Lib.hid (show chgF (fun u => ofF a s u) (fun u => ofF b s u) (unitsL a b) = chgG (fun u => ofF a s u) (fun u => ofF b s u) o ((unitsL a b).drop (k + 1)) by
          rw [HS.out, drop_at hux]
          show chgG (fun u => ofF a s u) (fun u => ofF b s u) (if ofF a s x.unit = ofF b s x.unit then o else insU o x.unit) _ = _
          rw [if_pos heq])
        have HSM := Lib.hid (fun (v v' : Value) (W : World) (hv : Posts W W.heap.size (ofF a s x.unit) v) (hv' : Posts W W.heap.size (ofF b s x.unit) v') => show Calls Tryz.prog 12 #[v, v'] W fun e w' => e = .returned (.bool true) ∧ Below W.heap.size W w' by
          have := HSA.out _ _ v v' W hv hv'
          rwa [(eqL_iff eqPost_iff _ _).2 heq] at this)
        have hlk : o.length ≤ k + 1 := by have := hol.out; omega
        have HLI := Lib.hid hlk
        clear hx hux heq HS hlk
        go_wp2
        clear q0
        go_region_held3 (fun W => W.cell? ⟨w.heap.size, 0, none⟩ = some (.slice A1 a.langs.length c1) ∧ W.cell? ⟨w.heap.size, 1, none⟩ = some (.slice A2 a.labels.length c2) ∧ W.cell? ⟨w.heap.size, 2, none⟩ = some (.slice A3 a.sheets.length c3) ∧ W.cell? ⟨w.heap.size + 1, 0, none⟩ = some (.slice B1 b.langs.length d1) ∧ W.cell? ⟨w.heap.size + 1, 1, none⟩ = some (.slice B2 b.labels.length d2) ∧ W.cell? ⟨w.heap.size + 1, 2, none⟩ = some (.slice B3 b.sheets.length d3)) (with_reducible exact KEEP2.out _ hbY) (first
          | (go_at_call 14; (with_reducible refine (HOA.out x.unit _ (bW.trans (hbY.mono hsW))).mono ?_); rintro e w8 ⟨va, rfl, hpa, hb8⟩; have hbY := bnd_call hbY (Nat.le_refl _) hb8)
          | (go_at_call 14; (with_reducible refine (HOB.out x.unit _ (bW.trans (hbY.mono hsW))).mono ?_); rintro e w9 ⟨vb, rfl, hpb, hb9⟩; have hbY := bnd_call hbY (Nat.le_refl _) hb9; have hpa := (hpa.below pstS hb9).mono pstS hb9.size)
          | (go_at_call 12; (with_reducible refine (HSM.out _ _ _ hpa hpb).mono ?_); rintro e w10 ⟨rfl, hb10⟩; have hbY := bnd_call hbY (Nat.le_refl _) hb10))
        have ho10 := (ho.below intS hbY).mono intS hbY.size
        go_wp2
        go_roundw
        case rel => exact ⟨k + 1, o, _, by omega, by go_num, rfl, HN, ho10, HLI, hbW.trans (hbY.mono hbW.size)⟩
        case measure => simp [intOf]; omega
      · have HN := Lib.hid (show chgF (fun u => ofF a s u) (fun u => ofF b s u) (unitsL a b) = chgG (fun u => ofF a s u) (fun u => ofF b s u) (insU o x.unit) ((unitsL a b).drop (k + 1)) by
          rw [HS.out, drop_at hux]
          show chgG (fun u => ofF a s u) (fun u => ofF b s u) (if ofF a s x.unit = ofF b s x.unit then o else insU o x.unit) _ = _
          rw [if_neg heq])
        have HSM := Lib.hid (fun (v v' : Value) (W : World) (hv : Posts W W.heap.size (ofF a s x.unit) v) (hv' : Posts W W.heap.size (ofF b s x.unit) v') => show Calls Tryz.prog 12 #[v, v'] W fun e w' => e = .returned (.bool false) ∧ Below W.heap.size W w' by
          have := HSA.out _ _ v v' W hv hv'
          rwa [show eqL eqPost (ofF a s x.unit) (ofF b s x.unit) = false from Bool.eq_false_iff.2 (fun h => heq ((eqL_iff eqPost_iff _ _).1 h))] at this)
        have HLI := Lib.hid (show (insU o x.unit).length ≤ k + 1 by have := insU_len o x.unit; have := hol.out; omega)
        have HI0 := Lib.hid (show insU o x.unit = o.take 0 ++ insU (o.drop 0) x.unit from rfl)
        have HUL := Lib.hid hol
        clear hx hux heq HS hol
        go_wp2
        clear q0
        go_region_held3 (fun W => W.cell? ⟨w.heap.size, 0, none⟩ = some (.slice A1 a.langs.length c1) ∧ W.cell? ⟨w.heap.size, 1, none⟩ = some (.slice A2 a.labels.length c2) ∧ W.cell? ⟨w.heap.size, 2, none⟩ = some (.slice A3 a.sheets.length c3) ∧ W.cell? ⟨w.heap.size + 1, 0, none⟩ = some (.slice B1 b.langs.length d1) ∧ W.cell? ⟨w.heap.size + 1, 1, none⟩ = some (.slice B2 b.labels.length d2) ∧ W.cell? ⟨w.heap.size + 1, 2, none⟩ = some (.slice B3 b.sheets.length d3)) (with_reducible exact KEEP2.out _ hbY) (first
          | (go_at_call 14; (with_reducible refine (HOA.out x.unit _ (bW.trans (hbY.mono hsW))).mono ?_); rintro e w8 ⟨va, rfl, hpa, hb8⟩; have hbY := bnd_call hbY (Nat.le_refl _) hb8)
          | (go_at_call 14; (with_reducible refine (HOB.out x.unit _ (bW.trans (hbY.mono hsW))).mono ?_); rintro e w9 ⟨vb, rfl, hpb, hb9⟩; have hbY := bnd_call hbY (Nat.le_refl _) hb9; have hpa := (hpa.below pstS hb9).mono pstS hb9.size)
          | (go_at_call 12; (with_reducible refine (HSM.out _ _ _ hpa hpb).mono ?_); rintro e w10 ⟨rfl, hb10⟩; have hbY := bnd_call hbY (Nat.le_refl _) hb10))
        have ho10 := (ho.below intS hbY).mono intS hbY.size
        have hs10 := hbY.size
        have hsx : w.heap.size ≤ w10.heap.size := Nat.le_trans hsW hs10
        go_wp2
        go_loop [11] (fun i => ∃ j : Nat, j ≤ o.length ∧ i = .int .i64 j ∧ Hid (insU o x.unit = o.take j ++ insU (o.drop j) x.unit)) (fun i => o.length - (intOf i).toNat)
        case atStart => exact ⟨0, Nat.zero_le _, rfl, HI0⟩
        case round =>
          clear HI0
          obtain ⟨j, hj, rfl, HI⟩ := hrel
          by_cases hjl : j < o.length
          · obtain ⟨y, hy⟩ := get_at o hjl
            have hd := drop_at hy
            have htk := take_at hy
            obtain ⟨bo, oo, e9, hbo, q0⟩ := Ints.at_ ho10 hy
            subst e9
            have hbol : bo < w10.heap.size := hbo
            have hji : (j : Int) < (o.length : Int) := by omega
            by_cases hyu : y < x.unit
            · have HI2 := Lib.hid (show insU o x.unit = o.take (j + 1) ++ insU (o.drop (j + 1)) x.unit by rw [HI.out, hd, htk, insU, if_pos hyu]; simp)
              clear hd htk hy HI
              go_wp2
              go_round
              case rel => exact ⟨j + 1, by omega, by go_num, HI2⟩
              case measure => simp [intOf]; omega
            · by_cases hye : y = x.unit
              · have HE := Lib.hid (show insU o x.unit = o by rw [HI.out, hd, insU, if_neg hyu, if_pos hye, ← hd, List.take_append_drop])
                have hyb : (y == x.unit) = true := by simpa using hye
                rw [HE.out] at HN HLI
                clear hd htk hy HI HE
                go_wp2
                go_roundw
                case rel => exact ⟨k + 1, o, _, by omega, by go_num, rfl, HN, ho10, HLI, hbW.trans (hbY.mono hbW.size)⟩
                case measure => simp [intOf]; omega
              · have HE := Lib.hid (show insU o x.unit = o.take j ++ ([x.unit] ++ o.drop j) by rw [HI.out, hd, insU, if_neg hyu, if_neg hye]; rfl)
                have hyb : (y == x.unit) = false := by simpa using hye
                have HSL := Lib.hid (ho10.take_ (Nat.le_of_lt hjl))
                have HSD := Lib.hid (show SlRep 1 (flat intEnc) w10 (fun b => b < w10.heap.size) (o.drop j) (.slice (some ⟨bo, oo + j, none⟩) (o.length - j) (co - j)) by
                  have := SlRep.drop_ ho10 (Nat.le_of_lt hjl)
                  rw [Nat.mul_one] at this
                  rwa [if_neg (show ¬ co = j by omega)] at this)
                clear hd htk hy HI
                go_wp2_with (at_builtin; refine stop_intro ?_)
                refine stop_elim ?_
                refine wpList_append_rep rfl intS intE_ w.heap.size (.tmp 66) (.tmp 69) rfl rfl OwnRep.nil_ rfl (ys := o.take j) HSL.out (fun b' (hb' : b' < w10.heap.size) => ⟨by omega, fun e => by cases e⟩) (by simp only [List.length_nil]; (try rw [List.length_take]); omega) (by decide) hsx ?_
                intro v13 w13 hown13 hg13 hat13
                rw [List.nil_append] at hown13
                have hb13 := below_of_grown (B := w10.heap.size) hg13 (Nat.le_refl _) (fun j hj => by cases hj)
                have hs13 := hb13.size
                have hlo13 := hown13.own_lt
                have hnew13 : ∀ b', v13.ownBlock = some b' → w10.heap.size ≤ b' := fun b' hb' => by
                  rcases hat13 with e | e
                  · rw [e] at hb'; cases hb'
                  · rw [e] at hb'; injection hb' with hb'; omega
                have bx : Below w13.heap.size w13 (w13.alloc (.cells #[.int .i64 x.unit] 3)) := (Below.refl _ _).alloc (Nat.le_refl _) _
                have hownx := hown13.below intS bx
                obtain ⟨A13, n13, c13, rfl, hn13⟩ := own_form intS hown13
                go_wp2_with (at_builtin; refine stop_intro ?_)
                refine stop_elim ?_
                refine wpList_append_rep rfl intS intE_ w.heap.size (.tmp 71) (.tmp 73) rfl rfl hownx rfl (ys := [x.unit]) (SlRep.one_new intS (w := w13) (F := fun _ => False) (x := x.unit) (cs := intEnc x.unit) rfl rfl (fun _ hb => hb.elim)) (fun b' hb' => by
                  rcases hb' with hb' | rfl
                  · exact hb'.elim
                  · exact ⟨by simp, fun e => by have := (hlo13 _ e).2; omega⟩) (by simp only [List.length_cons, List.length_nil]; (try rw [List.length_take]); omega) (by decide) (by simp; omega) ?_
                intro v14 w14 hown14 hg14 hat14
                have hb14 := (hb13.trans (bx.mono hs13)).grown hg14 (by simp; omega) (fun j hj => hnew13 j hj)
                have hs14 := hb14.size
                have hlo14 := hown14.own_lt
                have hnew14 : ∀ b', v14.ownBlock = some b' → w10.heap.size ≤ b' := fun b' hb' => by
                  rcases hat14 with e | e
                  · rw [e] at hb'; exact hnew13 b' hb'
                  · rw [e] at hb'; injection hb' with hb'; simp at hb'; omega
                obtain ⟨A14, n14, c14, rfl, hn14⟩ := own_form intS hown14
                go_wp2_with (at_builtin; refine stop_intro ?_)
                all_goals
                  refine stop_elim ?_
                  refine wpList_append_rep rfl intS intE_ w.heap.size (.tmp 75) (.tmp 78) rfl rfl hown14 rfl (ys := o.drop j) (HSD.out.below intS hb14) (fun b' (hb' : b' < w10.heap.size) => ⟨by omega, fun e => by have := hnew14 b' e; omega⟩) (by simp only [List.length_append, List.length_cons, List.length_nil, List.length_drop, List.length_take]; omega) (by decide) (by omega) ?_
                  intro v15 w15 hown15 hg15 hat15
                  have hb15 := hb14.grown hg15 (by omega) (fun j hj => hnew14 j hj)
                  rw [List.append_assoc, ← HE.out] at hown15
                  have ho15 := hown15.toSl intS
                  obtain ⟨A15, n15, c15, rfl, hn15⟩ := own_form intS hown15
                  go_wp2
                  go_roundw
                  case rel => exact ⟨k + 1, insU o x.unit, _, by omega, by go_num, rfl, HN, ho15, HLI, (hbW.trans (hbY.mono hbW.size)).trans (hb15.mono (Nat.le_trans hbW.size hbY.size))⟩
                  case measure => simp [intOf]; omega
          · have HE := Lib.hid (show insU o x.unit = o ++ ([x.unit] ++ []) by rw [HI.out, List.drop_of_length_le (by omega), List.take_of_length_le (by omega)]; rfl)
            obtain rfl : j = o.length := by omega
            clear HI
            go_wp2_with (at_builtin; refine stop_intro ?_)
            refine stop_elim ?_
            refine wpList_append_rep rfl intS intE_ w.heap.size (.tmp 66) (.tmp 69) rfl rfl OwnRep.nil_ rfl (ys := o) ho10 (fun b' (hb' : b' < w10.heap.size) => ⟨by omega, fun e => by cases e⟩) (by simp only [List.length_nil]; skip; omega) (by decide) hsx ?_
            intro v13 w13 hown13 hg13 hat13
            rw [List.nil_append] at hown13
            have hb13 := below_of_grown (B := w10.heap.size) hg13 (Nat.le_refl _) (fun j hj => by cases hj)
            have hs13 := hb13.size
            have hlo13 := hown13.own_lt
            have hnew13 : ∀ b', v13.ownBlock = some b' → w10.heap.size ≤ b' := fun b' hb' => by
              rcases hat13 with e | e
              · rw [e] at hb'; cases hb'
              · rw [e] at hb'; injection hb' with hb'; omega
            have bx : Below w13.heap.size w13 (w13.alloc (.cells #[.int .i64 x.unit] 3)) := (Below.refl _ _).alloc (Nat.le_refl _) _
            have hownx := hown13.below intS bx
            obtain ⟨A13, n13, c13, rfl, hn13⟩ := own_form intS hown13
            go_wp2_with (at_builtin; refine stop_intro ?_)
            refine stop_elim ?_
            refine wpList_append_rep rfl intS intE_ w.heap.size (.tmp 71) (.tmp 73) rfl rfl hownx rfl (ys := [x.unit]) (SlRep.one_new intS (w := w13) (F := fun _ => False) (x := x.unit) (cs := intEnc x.unit) rfl rfl (fun _ hb => hb.elim)) (fun b' hb' => by
              rcases hb' with hb' | rfl
              · exact hb'.elim
              · exact ⟨by simp, fun e => by have := (hlo13 _ e).2; omega⟩) (by simp only [List.length_cons, List.length_nil]; skip; omega) (by decide) (by simp; omega) ?_
            intro v14 w14 hown14 hg14 hat14
            have hb14 := (hb13.trans (bx.mono hs13)).grown hg14 (by simp; omega) (fun j hj => hnew13 j hj)
            have hs14 := hb14.size
            have hlo14 := hown14.own_lt
            have hnew14 : ∀ b', v14.ownBlock = some b' → w10.heap.size ≤ b' := fun b' hb' => by
              rcases hat14 with e | e
              · rw [e] at hb'; exact hnew13 b' hb'
              · rw [e] at hb'; injection hb' with hb'; simp at hb'; omega
            obtain ⟨A14, n14, c14, rfl, hn14⟩ := own_form intS hown14
            go_wp2_with (at_builtin; refine stop_intro ?_)
            all_goals
              refine stop_elim ?_
              refine wpList_append_rep rfl intS intE_ w.heap.size (.tmp 75) (.tmp 78) rfl rfl hown14 rfl (ys := ([] : List Int)) (nil_any (by omega)) (fun b' (hb' : b' < w10.heap.size) => ⟨by omega, fun e => by have := hnew14 b' e; omega⟩) (by simp only [List.length_append, List.length_cons, List.length_nil]; omega) (by decide) (by omega) ?_
              intro v15 w15 hown15 hg15 hat15
              have hb15 := hb14.grown hg15 (by omega) (fun j hj => hnew14 j hj)
              rw [List.append_assoc, ← HE.out] at hown15
              have ho15 := hown15.toSl intS
              obtain ⟨A15, n15, c15, rfl, hn15⟩ := own_form intS hown15
              go_wp2
              go_roundw
              case rel => exact ⟨k + 1, insU o x.unit, _, by omega, by go_num, rfl, HN, ho15, HLI, (hbW.trans (hbY.mono hbW.size)).trans (hb15.mono (Nat.le_trans hbW.size hbY.size))⟩
              case measure => simp [intOf]; omega
    · have HE := Lib.hid (show chgF (fun u => ofF a s u) (fun u => ofF b s u) (unitsL a b) = o by
        rw [HS.out, List.drop_of_length_le (by unfold unitsL; rw [List.length_map, ← hn7.out]; omega)]
        rfl)
      have hki : ¬ (k : Int) < (n7 : Int) := by omega
      clear HS
      go_wp2
      go_ret
      exact ⟨_, rfl, by rw [HE.out]; exact ho, bW⟩
theorem chgG_len (A B : Int → List Post) : ∀ (us o : List Int), (chgG A B o us).length ≤ o.length + us.length
  | [], o => Nat.le_refl _
  | u :: us, o => by
    show (chgG A B (if A u = B u then o else insU o u) us).length ≤ _
    have h1 := chgG_len A B us (if A u = B u then o else insU o u)
    have h2 : (if A u = B u then o else insU o u).length ≤ o.length + 1 := by
      split
      · omega
      · exact insU_len o u
    rw [List.length_cons]
    omega
set_option maxRecDepth 100000 in
set_option maxHeartbeats 8000000 in
theorem rUpdate5_c (l : List Post) (a b : Cat) (s : ByteArray) (vl a1 a2 a3 b1 b2 b3 : Value) (w : World) (B : Nat) (hB : B ≤ w.heap.size) (hl : Posts w B l vl) (ha : CatRep w B a a1 a2 a3) (hb : CatRep w B b b1 b2 b3) (hw : ∀ p ∈ l, p.word.size ≤ 1000000) (hn : l.length ≤ 100000) (la1 : a.sheets.length ≤ 1000) (la2 : a.langs.length ≤ 1000) (lb1 : b.sheets.length ≤ 1000) (lb2 : b.langs.length ≤ 1000) (sa : catE a = 0 → a.sheets.length ≤ 100) (sb : catE b = 0 → b.sheets.length ≤ 100) :
    Calls Tryz.prog 18 #[vl, .agg #[a1, a2, a3], .agg #[b1, b2, b3], .string s] w fun e w' => ∃ v u, e = .returned (.tuple #[v, u, .int .i64 (updE l a b s)]) ∧ Posts w' w'.heap.size (updL l a b s) v ∧ SlRep 1 (flat intEnc) w' (fun b => b < w'.heap.size) (updU l a b s) u ∧ Below w.heap.size w w' := by
  have HCL := Lib.hid (fun (W : World) (hW : Below w.heap.size w W) => rcheck5_c l vl W B (Nat.le_trans hB hW.size) (hl.below pstS (hW.mono hB)) hw)
  have HCA := Lib.hid (fun (W : World) (hW : Below w.heap.size w W) => rcheck47_c a a1 a2 a3 W B (Nat.le_trans hB hW.size) (ha.below (hW.mono hB)) la1)
  have HCB := Lib.hid (fun (W : World) (hW : Below w.heap.size w W) => rcheck47_c b b1 b2 b3 W B (Nat.le_trans hB hW.size) (hb.below (hW.mono hB)) lb1)
  have HSA := Lib.hid (fun (W : World) (hW : Below w.heap.size w W) => rhas_c a.langs s a1 W (fun b => b < B) (fun b hb => by have : b < B := hb; have := hW.size; omega) (ha.langs.below strS (hW.mono hB)))
  have HSB := Lib.hid (fun (W : World) (hW : Below w.heap.size w W) => rhas_c b.langs s b1 W (fun b => b < B) (fun b hb => by have : b < B := hb; have := hW.size; omega) (hb.langs.below strS (hW.mono hB)))
  have HCH := Lib.hid (fun (hra : rightE a s = 0) (hrb : rightE b s = 0) (W : World) (hW : Below w.heap.size w W) => rchanged5_c a b s a1 a2 a3 b1 b2 b3 W B (Nat.le_trans hB hW.size) (ha.below (hW.mono hB)) (hb.below (hW.mono hB)) la1 la2 lb1 lb2 hra hrb)
  have HOB := Lib.hid (fun (hrb : rightE b s = 0) (u : Int) (W : World) (hW : Below w.heap.size w W) => show Calls Tryz.prog 14 #[.agg #[b1, b2, b3], .string s, .int .i64 u] W fun e w' => ∃ v', e = .returned v' ∧ Posts w' w'.heap.size (ofF b s u) v' ∧ Below W.heap.size W w' by
    have := rOf5_c b s u b1 b2 b3 W B (Nat.le_trans hB hW.size) (hb.below (hW.mono hB)) lb1 lb2
    rwa [if_pos hrb] at this)
  have b1_ : Below w.heap.size w ((w.alloc (catC a1 a2 a3)).alloc (catC b1 b2 b3)) := ((Below.refl _ _).alloc (Nat.le_refl _) _).alloc (by simp) _
  have hb0 : Below (w.heap.size + 2) ((w.alloc (catC a1 a2 a3)).alloc (catC b1 b2 b3)) ((w.alloc (catC a1 a2 a3)).alloc (catC b1 b2 b3)) := Below.refl _ _
  have KC := Lib.hid (fun (W : World) (hW : Below (w.heap.size + 2) ((w.alloc (catC a1 a2 a3)).alloc (catC b1 b2 b3)) W) => catW2_at hW)
  obtain ⟨El, Cl, rfl, -⟩ := id hl
  obtain ⟨A1, ca1, rfl, -⟩ := id ha.langs
  obtain ⟨A2, ca2, rfl, -⟩ := id ha.labels
  obtain ⟨A3, ca3, rfl, -⟩ := id ha.sheets
  obtain ⟨B1, cb1, rfl, -⟩ := id hb.langs
  obtain ⟨B2, cb2, rfl, -⟩ := id hb.labels
  obtain ⟨B3, cb3, rfl, -⟩ := id hb.sheets
  by_cases hc1 : chkL l = 0
  · rw [hc1] at HCL
    by_cases hc2 : catE a = 0
    · rw [hc2] at HCA
      by_cases hc3 : catE b = 0
      · rw [hc3] at HCB
        cases hs1 : hasS a.langs s
        · have HE := Lib.hid (show updE l a b s = 10 by unfold updE; rw [if_neg (by simp [hc1, hc2, hc3]), if_pos (.inl hs1)])
          have HU := Lib.hid (upd_err HE.out (by decide))
          rw [hs1] at HSA
          clear hc1 hc2 hc3 hs1 HCH HOB sa sb
          go_enter Tryz.func18, Tryz.ntmps18
          have hbX := hb0
          go_wp2_with fail
          refine (HCL.out _ (b1_.trans (hbX.mono (by omega)))).mono ?_
          rintro e w1 ⟨rfl, h1⟩
          have hbX := bnd_call hbX (by simp) h1
          clear h1
          obtain ⟨z0, z1, z2, z3, z4, z5, zl⟩ := KC.out _ hbX
          have zl0 := Nat.lt_of_succ_lt zl
          go_wp2_with fail
          refine (HCA.out _ (b1_.trans (hbX.mono (by omega)))).mono ?_
          rintro e w2 ⟨rfl, h2⟩
          have hbX := bnd_call hbX (by simp) h2
          clear h2
          clear z0 z1 z2 z3 z4 z5 zl zl0
          obtain ⟨z0, z1, z2, z3, z4, z5, zl⟩ := KC.out _ hbX
          have zl0 := Nat.lt_of_succ_lt zl
          go_wp2_with fail
          refine (HCB.out _ (b1_.trans (hbX.mono (by omega)))).mono ?_
          rintro e w3 ⟨rfl, h3⟩
          have hbX := bnd_call hbX (by simp) h3
          clear h3
          clear z0 z1 z2 z3 z4 z5 zl zl0
          obtain ⟨z0, z1, z2, z3, z4, z5, zl⟩ := KC.out _ hbX
          have zl0 := Nat.lt_of_succ_lt zl
          go_wp2_with fail
          refine (HSA.out _ (b1_.trans (hbX.mono (by omega)))).mono ?_
          rintro e w9 ⟨rfl, rfl⟩
          go_wp2
          go_ret3
          exact ⟨_, _, by rw [HE.out]; rfl, by rw [HU.out.1]; exact SlRep.nil_, by rw [HU.out.2]; exact SlRep.nil_, b1_.trans (hbX.mono (by omega))⟩
        · rw [hs1] at HSA
          cases hs2 : hasS b.langs s
          · have HE := Lib.hid (show updE l a b s = 10 by unfold updE; rw [if_neg (by simp [hc1, hc2, hc3]), if_pos (.inr hs2)])
            have HU := Lib.hid (upd_err HE.out (by decide))
            rw [hs2] at HSB
            clear hc1 hc2 hc3 hs1 hs2 HCH HOB sa sb
            go_enter Tryz.func18, Tryz.ntmps18
            have hbX := hb0
            go_wp2_with fail
            refine (HCL.out _ (b1_.trans (hbX.mono (by omega)))).mono ?_
            rintro e w1 ⟨rfl, h1⟩
            have hbX := bnd_call hbX (by simp) h1
            clear h1
            obtain ⟨z0, z1, z2, z3, z4, z5, zl⟩ := KC.out _ hbX
            have zl0 := Nat.lt_of_succ_lt zl
            go_wp2_with fail
            refine (HCA.out _ (b1_.trans (hbX.mono (by omega)))).mono ?_
            rintro e w2 ⟨rfl, h2⟩
            have hbX := bnd_call hbX (by simp) h2
            clear h2
            clear z0 z1 z2 z3 z4 z5 zl zl0
            obtain ⟨z0, z1, z2, z3, z4, z5, zl⟩ := KC.out _ hbX
            have zl0 := Nat.lt_of_succ_lt zl
            go_wp2_with fail
            refine (HCB.out _ (b1_.trans (hbX.mono (by omega)))).mono ?_
            rintro e w3 ⟨rfl, h3⟩
            have hbX := bnd_call hbX (by simp) h3
            clear h3
            clear z0 z1 z2 z3 z4 z5 zl zl0
            obtain ⟨z0, z1, z2, z3, z4, z5, zl⟩ := KC.out _ hbX
            have zl0 := Nat.lt_of_succ_lt zl
            go_wp2_with fail
            refine (HSA.out _ (b1_.trans (hbX.mono (by omega)))).mono ?_
            rintro e w9 ⟨rfl, rfl⟩
            go_wp2_with fail
            refine (HSB.out _ (b1_.trans (hbX.mono (by omega)))).mono ?_
            rintro e w9 ⟨rfl, rfl⟩
            go_wp2
            go_ret3
            exact ⟨_, _, by rw [HE.out]; rfl, by rw [HU.out.1]; exact SlRep.nil_, by rw [HU.out.2]; exact SlRep.nil_, b1_.trans (hbX.mono (by omega))⟩
          · rw [hs2] at HSB
            have hra : rightE a s = 0 := by unfold rightE; rw [if_neg (show ¬ (catE a ≠ 0) from fun h => h hc2), if_neg (show ¬ (hasS a.langs s = false) by rw [hs1]; decide)]
            have hrb : rightE b s = 0 := by unfold rightE; rw [if_neg (show ¬ (catE b ≠ 0) from fun h => h hc3), if_neg (show ¬ (hasS b.langs s = false) by rw [hs2]; decide)]
            have HUE := Lib.hid (show updE l a b s = if 65536 < (updO l a b s).length then 8 else 0 by unfold updE; rw [if_neg (by simp [hc1, hc2, hc3]), if_neg (by rw [hs1, hs2]; simp)])
            have hsl := strict_sorted (chkL_zero hc1).2.2
            have hla := sa hc2
            have hlb := sb hc3
            have HOL := Lib.hid (fun u => ofF_len s u hc3)
            have HCH := Lib.hid (HCH.out hra hrb)
            have HOB := Lib.hid (HOB.out hrb)
            clear hc1 hc2 hc3 hs1 hs2 sa sb hra hrb
            go_enter Tryz.func18, Tryz.ntmps18
            have hbX := hb0
            go_wp2_with fail
            refine (HCL.out _ (b1_.trans (hbX.mono (by omega)))).mono ?_
            rintro e w1 ⟨rfl, h1⟩
            have hbX := bnd_call hbX (by simp) h1
            clear h1
            obtain ⟨z0, z1, z2, z3, z4, z5, zl⟩ := KC.out _ hbX
            have zl0 := Nat.lt_of_succ_lt zl
            go_wp2_with fail
            refine (HCA.out _ (b1_.trans (hbX.mono (by omega)))).mono ?_
            rintro e w2 ⟨rfl, h2⟩
            have hbX := bnd_call hbX (by simp) h2
            clear h2
            clear z0 z1 z2 z3 z4 z5 zl zl0
            obtain ⟨z0, z1, z2, z3, z4, z5, zl⟩ := KC.out _ hbX
            have zl0 := Nat.lt_of_succ_lt zl
            go_wp2_with fail
            refine (HCB.out _ (b1_.trans (hbX.mono (by omega)))).mono ?_
            rintro e w3 ⟨rfl, h3⟩
            have hbX := bnd_call hbX (by simp) h3
            clear h3
            clear z0 z1 z2 z3 z4 z5 zl zl0
            obtain ⟨z0, z1, z2, z3, z4, z5, zl⟩ := KC.out _ hbX
            have zl0 := Nat.lt_of_succ_lt zl
            go_wp2_with fail
            refine (HSA.out _ (b1_.trans (hbX.mono (by omega)))).mono ?_
            rintro e w9 ⟨rfl, rfl⟩
            go_wp2_with fail
            refine (HSB.out _ (b1_.trans (hbX.mono (by omega)))).mono ?_
            rintro e w9 ⟨rfl, rfl⟩
            go_wp2_with fail
            refine (HCH.out _ (b1_.trans (hbX.mono (by omega)))).mono ?_
            rintro e w6 ⟨vu, rfl, hus, h6⟩
            have hbX := bnd_call hbX (by simp) h6
            clear h6 z0 z1 z2 z3 z4 z5 zl zl0 HCL HCA HCB HSA HSB HCH
            have hul := chgG_len (fun u => ofF a s u) (fun u => ofF b s u) (unitsL a b) []
            have hul2 : (unitsL a b).length ≤ 200 := by unfold unitsL; rw [List.length_map, List.length_append]; omega
            have HUO := Lib.hid (show updO l a b s = addAll (restL (chgF (fun u => ofF a s u) (fun u => ofF b s u) (unitsL a b)) l) ((chgF (fun u => ofF a s u) (fun u => ofF b s u) (unitsL a b)).flatMap fun u => ofF b s u) from (upd_ref _ _ hsl).symm)
            obtain ⟨us, hUS⟩ : ∃ us, chgF (fun u => ofF a s u) (fun u => ofF b s u) (unitsL a b) = us := ⟨_, rfl⟩
            have hul3 : us.length ≤ 200 := by rw [← hUS]; unfold chgF; simp only [List.length_nil] at hul; omega
            have HUS := Lib.hid hUS
            rw [hUS] at hus HUO
            clear hul hul2 hUS
            obtain ⟨Eu, Cu, rfl, -⟩ := id hus
            have bW6 := b1_.trans (hbX.mono (show w.heap.size ≤ w.heap.size + 2 by omega))
            have hs6 := bW6.size
            have HR0 := Lib.hid (show restL us (l.take 0) = [] from rfl)
            go_wp2
            go_loopw [12, 13] (fun so i wr => ∃ (k : Nat) (v' : Value), k ≤ l.length ∧ i = .int .i64 k ∧ so = v' ∧ OwnRep 4 (flat Post.enc) 43 w6.heap.size wr (restL us (l.take k)) v' ∧ Below w6.heap.size w6 wr) (fun _ i _ => l.length - (intOf i).toNat)
            case atStart => exact ⟨0, _, Nat.zero_le _, rfl, rfl, by rw [HR0.out]; exact OwnRep.nil_, Below.refl _ _⟩
            case round =>
              clear HR0
              obtain ⟨k, v', hk, rfl, rfl, ho, hb7⟩ := hrel
              have hbW := bW6.trans (hb7.mono hs6)
              have hs7 := hb7.size
              have hlo := ho.own_lt
              have hrl : (restL us (l.take k)).length ≤ 100000 := by
                have := List.length_filter_le (fun p : Post => decide (p.unit ∉ us)) (l.take k)
                unfold restL
                rw [List.length_take] at this
                omega
              obtain ⟨Ao, no, co, rfl, hno⟩ := own_form pstS ho
              by_cases hlt : k < l.length
              · obtain ⟨x, hx⟩ := get_at l hlt
                have htk := take_at hx
                obtain ⟨b', off', rfl, hbB, q0, q1, q2, q3⟩ := Posts.at_ (hl.below pstS (hbW.mono hB)) hx
                have hbw : b' < wr.heap.size := by have : b' < B := hbB; omega
                have hki : (k : Int) < (l.length : Int) := by omega
                have hIN := rin5_c us x.unit (.slice Eu us.length Cu) wr ((hus.below intS hb7).monoF intS (fun _ _ => trivial))
                by_cases hin : x.unit ∈ us
                · have HN := Lib.hid (show restL us (l.take (k + 1)) = restL us (l.take k) by
                    rw [htk]
                    unfold restL
                    rw [List.filter_append, List.filter_cons, if_neg (by simpa using hin)]
                    simp)
                  rw [decide_eq_true hin] at hIN
                  have HIN := Lib.hid hIN
                  clear hIN hin hx htk
                  go_wp2_with fail
                  refine HIN.out.mono ?_
                  rintro e w9 ⟨rfl, rfl⟩
                  go_wp2
                  go_roundw
                  case rel => exact ⟨k + 1, _, by omega, by go_num, rfl, by rw [HN.out]; exact ho, hb7⟩
                  case measure => simp [intOf]; omega
                · have HN := Lib.hid (show restL us (l.take (k + 1)) = restL us (l.take k) ++ [x] by
                    rw [htk]
                    unfold restL
                    rw [List.filter_append, List.filter_cons, if_pos (by simpa using hin)]
                    simp)
                  rw [decide_eq_false hin] at hIN
                  have HIN := Lib.hid hIN
                  clear hIN hin hx htk
                  go_wp2_with fail
                  refine HIN.out.mono ?_
                  rintro e w9 ⟨rfl, rfl⟩
                  have bx : Below wr.heap.size wr (wr.alloc (pstC x)) := (Below.refl _ _).alloc (Nat.le_refl _) _
                  go_wp2_with (at_builtin; refine stop_intro ?_)
                  refine stop_elim ?_
                  refine wpList_append_rep rfl pstS pstE_ w6.heap.size (.tmp 60) (.tmp 65) rfl rfl (ho.below pstS bx) rfl (ys := [x]) (SlRep.one_new pstS (w := wr) (F := fun _ => False) (x := x) (cs := Post.enc x) rfl rfl (fun _ hb => hb.elim)) (fun b' hb' => by
                    rcases hb' with hb' | rfl
                    · exact hb'.elim
                    · exact ⟨by simp, fun e => by have := (hlo _ e).2; omega⟩) (by simp only [List.length_cons, List.length_nil]; omega) (by decide) (Nat.le_trans hs7 bx.size) ?_
                  intro v8 w8 hown8 hg8 hat8
                  have hb8 := (hb7.trans (bx.mono hs7)).grown hg8 (Nat.le_trans hs7 bx.size) (fun j hj => (hlo j hj).1)
                  rw [← HN.out] at hown8
                  obtain ⟨A8, n8, c8, rfl, hn8⟩ := own_form pstS hown8
                  go_wp2
                  go_roundw
                  case rel => exact ⟨k + 1, _, by omega, by go_num, rfl, hown8, hb8⟩
                  case measure => simp [intOf]; omega
              · have hki : ¬ (k : Int) < (l.length : Int) := by omega
                have HE := Lib.hid (show restL us (l.take k) = restL us l by rw [List.take_of_length_le (by omega)])
                rw [HE.out] at ho hrl
                have hm0 := ho.toSl pstS
                have hbX7 := hbX.trans (hb7.mono (by have := hbX.size; simp at this; omega))
                have hus7 := hus.below intS hb7
                obtain ⟨m0, hm0e⟩ : ∃ m0, restL us l = m0 := ⟨_, rfl⟩
                rw [hm0e] at hm0 hrl HUO
                have HA0 := Lib.hid (show updO l a b s = addAll m0 ((us.drop 0).flatMap fun u => ofF b s u) from HUO.out)
                have HM0 := Lib.hid (show m0.length ≤ 100000 + 0 * 200000 by omega)
                obtain ⟨w7, rfl⟩ : ∃ w7 : World, w7 = wr := ⟨_, rfl⟩
                clear hm0e HE hno hlo ho hrl hus
                go_wp2
                go_loopw [12, 14] (fun so i wr => ∃ (k : Nat) (m : List Post) (v' : Value), k ≤ us.length ∧ i = .int .i64 k ∧ so = v' ∧ Hid (updO l a b s = addAll m ((us.drop k).flatMap fun u => ofF b s u)) ∧ Posts wr wr.heap.size m v' ∧ Hid (m.length ≤ 100000 + k * 200000) ∧ Below w7.heap.size w7 wr) (fun _ i _ => us.length - (intOf i).toNat)
                case atStart => exact ⟨0, m0, _, Nat.zero_le _, rfl, rfl, HA0, hm0, HM0, Below.refl _ _⟩
                case round =>
                  clear HA0 HM0 hm0
                  obtain ⟨k2, m, v', hk2, rfl, hv', HS, hm, hml, hbR⟩ := hrel
                  subst hv'
                  have hbXr := hbX7.trans (hbR.mono (by have := hbX7.size; simp at this; omega))
                  obtain ⟨z0, z1, z2, z3, z4, z5, zl⟩ := KC.out _ hbXr
                  have zl0 := Nat.lt_of_succ_lt zl
                  have Br := b1_.trans (hbXr.mono (show w.heap.size ≤ w.heap.size + 2 by omega))
                  have hsr := Br.size
                  obtain ⟨Am, cm, rfl, -⟩ := id hm
                  by_cases hlt2 : k2 < us.length
                  · obtain ⟨u, hu⟩ := get_at us hlt2
                    have HN := Lib.hid (show updO l a b s = addAll (addAll m (ofF b s u)) ((us.drop (k2 + 1)).flatMap fun u => ofF b s u) by rw [HS.out, drop_at hu, List.flatMap_cons, addAll_app])
                    have hpl := HOL.out u
                    have hl2 := Lib.hid (show (addAll m (ofF b s u)).length ≤ 100000 + (k2 + 1) * 200000 by
                      rw [addAll_len]
                      have := hml.out
                      omega)
                    have hmb : m.length + (ofF b s u).length ≤ 100000000 := by
                      have := hml.out
                      have : k2 * 200000 ≤ 200 * 200000 := Nat.mul_le_mul_right _ (by omega)
                      omega
                    have HMB := Lib.hid hmb
                    obtain ⟨bu, ou, rfl, hbu, q0⟩ := Ints.at_ (hus7.below intS (hbR.mono hs7)) hu
                    have hbul : bu < wr.heap.size := by have : bu < w6.heap.size := hbu; have := hbR.size; omega
                    have hki2 : (k2 : Int) < (us.length : Int) := by omega
                    have hbY : Below wr.heap.size wr wr.drew := (Below.refl _ _).drew
                    have KEEP := Lib.hid (fun (W : World) (hW : Below wr.heap.size wr W) => (⟨(hW.cell (p := ⟨w.heap.size + 1, 0, none⟩) zl).trans z3, (hW.cell (p := ⟨w.heap.size + 1, 1, none⟩) zl).trans z4, (hW.cell (p := ⟨w.heap.size + 1, 2, none⟩) zl).trans z5, (hW.cell (p := ⟨bu, ou + k2, none⟩) hbul).trans q0⟩ : W.cell? ⟨w.heap.size + 1, 0, none⟩ = some (.slice B1 b.langs.length cb1) ∧ W.cell? ⟨w.heap.size + 1, 1, none⟩ = some (.slice B2 b.labels.length cb2) ∧ W.cell? ⟨w.heap.size + 1, 2, none⟩ = some (.slice B3 b.sheets.length cb3) ∧ W.cell? ⟨bu, ou + k2, none⟩ = some (.int .i64 u)))
                    have HOX := Lib.hid (fun (W : World) (hW : Below wr.heap.size wr W) => HOB.out u W (Br.trans (hW.mono hsr)))
                    obtain ⟨ps, hps⟩ : ∃ ps, ofF b s u = ps := ⟨_, rfl⟩
                    rw [hps] at HOX HN hl2 HMB hpl
                    clear hu HS hps hmb
                    have HA1 := Lib.hid (show addAll m ps = addAll m (ps.drop 0) from rfl)
                    go_wp2
                    clear z0 z1 z2 z3 z4 z5 q0
                    go_region_held3 (fun W => W.cell? ⟨w.heap.size + 1, 0, none⟩ = some (.slice B1 b.langs.length cb1) ∧ W.cell? ⟨w.heap.size + 1, 1, none⟩ = some (.slice B2 b.labels.length cb2) ∧ W.cell? ⟨w.heap.size + 1, 2, none⟩ = some (.slice B3 b.sheets.length cb3) ∧ W.cell? ⟨bu, ou + k2, none⟩ = some (.int .i64 u)) (with_reducible exact KEEP.out _ hbY) (first
                      | (go_at_call 14; (with_reducible refine (HOX.out _ hbY).mono ?_); rintro e w8 ⟨vp, rfl, hp5, hb8⟩; have hbY := bnd_call hbY (Nat.le_refl _) hb8))
                    have hm5 := (hm.below pstS hbY).mono pstS hbY.size
                    have hbR5 := hbR.trans (hbY.mono hbR.size)
                    obtain ⟨Ap, cp, rfl, hq1, hq2, -⟩ := id hp5
                    clear KEEP HOX hbY hb8
                    go_wp2
                    obtain ⟨wo, rfl⟩ : ∃ wo : World, wo = wr := ⟨_, rfl⟩
                    go_loopw [12, 16] (fun sl i wr => ∃ (j : Nat) (m' : List Post) (v'' : Value), j ≤ ps.length ∧ i = .int .i64 j ∧ sl = v'' ∧ Hid (addAll m ps = addAll m' (ps.drop j)) ∧ Posts wr wr.heap.size m' v'' ∧ Hid (m'.length ≤ m.length + j) ∧ Below w8.heap.size w8 wr) (fun _ i _ => ps.length - (intOf i).toNat)
                    case atStart => exact ⟨0, m, _, Nat.zero_le _, rfl, rfl, HA1, hm5, Lib.hid (Nat.le_refl _), Below.refl _ _⟩
                    case round =>
                      clear hm5 HA1 hm
                      obtain ⟨j, m', v'', hj, rfl, hv', HS, hm', hml', hb⟩ := hrel
                      subst hv'
                      have hbs := hb.size
                      obtain ⟨An, cn, rfl, -⟩ := id hm'
                      by_cases hlt3 : j < ps.length
                      · obtain ⟨y, hy⟩ := get_at ps hlt3
                        have HN2 := Lib.hid (show addAll m ps = addAll (insP m' y) (ps.drop (j + 1)) by rw [HS.out, drop_at hy, addAll_cons])
                        have hl3 := Lib.hid (show (insP m' y).length ≤ m.length + (j + 1) by
                          rw [(insP_perm _ _).length_eq, List.length_cons]
                          have := hml'.out
                          omega)
                        obtain ⟨b2, off2, e9, hbB2, q0, q1, q2, q3⟩ := Posts.at_ (hp5.below pstS hb) hy
                        subst e9
                        have hbw2 : b2 < wr.heap.size := by have : b2 < w8.heap.size := hbB2; omega
                        have hki3 : (j : Int) < (ps.length : Int) := by omega
                        have HAD := Lib.hid (fun (W : World) (hW : Below wr.heap.size wr W) => radd5_c m' y (.slice An m'.length cn) W W.heap.size (Nat.le_refl _) ((hm'.below pstS hW).mono pstS hW.size) (by have := hml'.out; have := HMB.out; omega))
                        generalize insP m' y = m2 at *
                        clear hy HS
                        go_wp2_with fail
                        refine (HAD.out _ (Below.refl _ _)).mono ?_
                        rintro e w9 ⟨v2, rfl, hown9, hbY⟩
                        have hm2 := hown9.toSl pstS
                        obtain ⟨A2', n2, c2, rfl, hn2⟩ := own_form pstS hown9
                        go_wp2
                        go_roundw
                        case rel => exact ⟨j + 1, m2, _, by omega, by go_num, rfl, HN2, hm2, hl3, hb.trans (hbY.mono hbs)⟩
                        case measure => simp [intOf]; omega
                      · have HE := Lib.hid (show addAll m ps = m' by
                          rw [HS.out, List.drop_of_length_le (by omega)]
                          rfl)
                        rw [HE.out] at HN hl2
                        clear HS HE
                        go_wp2
                        go_roundw
                        case rel => exact ⟨k2 + 1, m', _, by omega, by go_num, rfl, HN, hm', hl2, hbR5.trans (hb.mono hbR5.size)⟩
                        case measure => simp [intOf]; omega
                  · have HE := Lib.hid (show updO l a b s = m by
                      rw [HS.out, List.drop_of_length_le (by omega)]
                      rfl)
                    have HLN := Lib.hid (show m.length = (updO l a b s).length by rw [← HE.out])
                    have hki2 : ¬ (k2 : Int) < (us.length : Int) := by omega
                    have husr := (hus7.below intS (hbR.mono hs7)).mono intS (Nat.le_trans hs7 hbR.size)
                    by_cases hbig : 65536 < (updO l a b s).length
                    · have HBB := Lib.hid (show updE l a b s = 8 by rw [HUE.out, if_pos hbig])
                      have HU := Lib.hid (upd_err HBB.out (by decide))
                      have hnb : (65536 : Int) < (m.length : Int) := by have := HLN.out; omega
                      clear HE hbig HLN HS
                      go_wp2
                      go_ret3
                      exact ⟨_, _, by rw [HBB.out]; rfl, by rw [HU.out.1]; exact SlRep.nil_, by rw [HU.out.2]; exact SlRep.nil_, Br⟩
                    · have HBB := Lib.hid (show updE l a b s = 0 by rw [HUE.out, if_neg hbig])
                      have HBL := Lib.hid (show updL l a b s = updO l a b s by unfold updL; rw [if_pos HBB.out])
                      have HBU := Lib.hid (show updU l a b s = us by unfold updU; rw [if_pos HBB.out]; exact HUS.out)
                      have hnb : ¬ (65536 : Int) < (m.length : Int) := by have := HLN.out; omega
                      clear hbig HLN HS
                      go_wp2
                      go_ret3
                      exact ⟨_, _, by rw [HBB.out]; rfl, by rw [HBL.out, HE.out]; exact hm, by rw [HBU.out]; exact husr, Br⟩
      · have HE := Lib.hid (show updE l a b s = 1 by unfold updE; rw [if_pos (.inr (.inr hc3))])
        have HU := Lib.hid (upd_err HE.out (by decide))
        have hne : (catE b != 0) = true := by simpa using hc3
        clear hc1 hc2 hc3 HCH HOB sa sb
        go_enter Tryz.func18, Tryz.ntmps18
        have hbX := hb0
        go_wp2_with fail
        refine (HCL.out _ (b1_.trans (hbX.mono (by omega)))).mono ?_
        rintro e w1 ⟨rfl, h1⟩
        have hbX := bnd_call hbX (by simp) h1
        clear h1
        obtain ⟨z0, z1, z2, z3, z4, z5, zl⟩ := KC.out _ hbX
        have zl0 := Nat.lt_of_succ_lt zl
        go_wp2_with fail
        refine (HCA.out _ (b1_.trans (hbX.mono (by omega)))).mono ?_
        rintro e w2 ⟨rfl, h2⟩
        have hbX := bnd_call hbX (by simp) h2
        clear h2
        clear z0 z1 z2 z3 z4 z5 zl zl0
        obtain ⟨z0, z1, z2, z3, z4, z5, zl⟩ := KC.out _ hbX
        have zl0 := Nat.lt_of_succ_lt zl
        go_wp2_with fail
        refine (HCB.out _ (b1_.trans (hbX.mono (by omega)))).mono ?_
        rintro e w3 ⟨rfl, h3⟩
        have hbX := bnd_call hbX (by simp) h3
        clear h3
        clear z0 z1 z2 z3 z4 z5 zl zl0
        obtain ⟨z0, z1, z2, z3, z4, z5, zl⟩ := KC.out _ hbX
        have zl0 := Nat.lt_of_succ_lt zl
        go_wp2
        go_ret3
        exact ⟨_, _, by rw [HE.out]; rfl, by rw [HU.out.1]; exact SlRep.nil_, by rw [HU.out.2]; exact SlRep.nil_, b1_.trans (hbX.mono (by omega))⟩
    · have HE := Lib.hid (show updE l a b s = 1 by unfold updE; rw [if_pos (.inr (.inl hc2))])
      have HU := Lib.hid (upd_err HE.out (by decide))
      have hne : (catE a != 0) = true := by simpa using hc2
      clear hc1 hc2 HCH HOB sa sb
      go_enter Tryz.func18, Tryz.ntmps18
      have hbX := hb0
      go_wp2_with fail
      refine (HCL.out _ (b1_.trans (hbX.mono (by omega)))).mono ?_
      rintro e w1 ⟨rfl, h1⟩
      have hbX := bnd_call hbX (by simp) h1
      clear h1
      obtain ⟨z0, z1, z2, z3, z4, z5, zl⟩ := KC.out _ hbX
      have zl0 := Nat.lt_of_succ_lt zl
      go_wp2_with fail
      refine (HCA.out _ (b1_.trans (hbX.mono (by omega)))).mono ?_
      rintro e w2 ⟨rfl, h2⟩
      have hbX := bnd_call hbX (by simp) h2
      clear h2
      clear z0 z1 z2 z3 z4 z5 zl zl0
      obtain ⟨z0, z1, z2, z3, z4, z5, zl⟩ := KC.out _ hbX
      have zl0 := Nat.lt_of_succ_lt zl
      go_wp2
      go_ret3
      exact ⟨_, _, by rw [HE.out]; rfl, by rw [HU.out.1]; exact SlRep.nil_, by rw [HU.out.2]; exact SlRep.nil_, b1_.trans (hbX.mono (by omega))⟩
  · have HE := Lib.hid (show updE l a b s = 1 by unfold updE; rw [if_pos (.inl hc1)])
    have HU := Lib.hid (upd_err HE.out (by decide))
    have hne : (chkL l != 0) = true := by simpa using hc1
    clear hc1 HCH HOB sa sb
    go_enter Tryz.func18, Tryz.ntmps18
    have hbX := hb0
    go_wp2_with fail
    refine (HCL.out _ (b1_.trans (hbX.mono (by omega)))).mono ?_
    rintro e w1 ⟨rfl, h1⟩
    have hbX := bnd_call hbX (by simp) h1
    clear h1
    obtain ⟨z0, z1, z2, z3, z4, z5, zl⟩ := KC.out _ hbX
    have zl0 := Nat.lt_of_succ_lt zl
    go_wp2
    go_ret3
    exact ⟨_, _, by rw [HE.out]; rfl, by rw [HU.out.1]; exact SlRep.nil_, by rw [HU.out.2]; exact SlRep.nil_, b1_.trans (hbX.mono (by omega))⟩
end Go.Proofs.YtpfngehledgkiaaGreat
