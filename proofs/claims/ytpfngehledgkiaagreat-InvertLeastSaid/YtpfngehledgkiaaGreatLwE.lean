/- InvertLeast returns true. -/
import Derived.Test.YtpfngehledgkiaaGreatAwI
import Derived.Test.YtpfngehledgkiaaGreatRfG
import Derived.Test.YtpfngehledgkiaaGreatFwI
import Derived.Test.YtpfngehledgkiaaGreatLbL
namespace Go.Proofs.YtpfngehledgkiaaGreat
open Go.RowKit

theorem cat_two {w : World} {B : Nat} {a b : Cat} {a1 a2 a3 b1 b2 b3 : Value} (hB : B ≤ w.heap.size) (ha : CatRep w B a a1 a2 a3) (hb : CatRep w B b b1 b2 b3) {W : World} {g : Nat} (hW : Below w.heap.size w W) (hg : W.heap[g]? = some (.cells #[a1, a2, a3, b1, b2, b3] 26)) : SlRep 3 catR W (fun b => b < W.heap.size) [a, b] (.slice (some ⟨g, 0, none⟩) 2 2) := by
  have h1 := (ha.below (hW.mono hB)).mono (Nat.le_trans hB hW.size)
  have h2 := (hb.below (hW.mono hB)).mono (Nat.le_trans hB hW.size)
  refine sl_at (css := [[a1, a2, a3], [b1, b2, b3]]) (t := 26) catS rfl hg (fun i x cs hx hcs => ?_) (heap_ltQ hg) rfl (by simp)
  match i, hx, hcs with
  | 0, hx, hcs =>
    simp at hx hcs
    subst hx hcs
    exact ⟨a1, a2, a3, rfl, h1.langs, h1.labels, h1.sheets⟩
  | 1, hx, hcs =>
    simp at hx hcs
    subst hx hcs
    exact ⟨b1, b2, b3, rfl, h2.langs, h2.labels, h2.sheets⟩
theorem insU_len : ∀ (l : List Int) (u : Int), (insU l u).length ≤ l.length + 1
  | [], u => by simp [insU]
  | x :: l, u => by
    unfold insU
    split
    · have := insU_len l u
      simp only [List.length_cons]
      omega
    · split
      · simp only [List.length_cons]; omega
      · simp only [List.length_cons]; omega
theorem chgG_len (A B : Int → List Post) : ∀ (us o : List Int), (chgG A B o us).length ≤ o.length + us.length
  | [], o => Nat.le_refl _
  | u :: us, o => by
    show (chgG A B (if A u = B u then o else insU o u) us).length ≤ _
    have h1 := chgG_len A B us (if A u = B u then o else insU o u)
    have h2 : (if A u = B u then o else insU o u).length ≤ o.length + 1 := by
      split
      · omega
      · exact insU_len o u
    rw [List.length_cons]
    omega
theorem upd0 {a b : Cat} {s : ByteArray} (h : updE [] a b s = 0) : catE a = 0 ∧ catE b = 0 ∧ hasS a.langs s = true ∧ hasS b.langs s = true ∧ updU [] a b s = chgF (fun u => ofF a s u) (fun u => ofF b s u) (unitsL a b) := by
  have hu : updU [] a b s = chgF (fun u => ofF a s u) (fun u => ofF b s u) (unitsL a b) := by unfold updU; rw [if_pos h]
  unfold updE at h
  by_cases h1 : chkL [] ≠ 0 ∨ catE a ≠ 0 ∨ catE b ≠ 0
  · rw [if_pos h1] at h; cases h
  · rw [if_neg h1] at h
    by_cases h2 : hasS a.langs s = false ∨ hasS b.langs s = false
    · rw [if_pos h2] at h; cases h
    · simp only [not_or, Classical.not_not] at h1
      simp only [not_or, Bool.not_eq_false] at h2
      exact ⟨h1.2.1, h1.2.2, h2.1, h2.2, hu⟩
set_option maxRecDepth 100000 in
set_option maxHeartbeats 16000000 in
theorem least_law (a b : Cat) (s : ByteArray) (a1 a2 a3 b1 b2 b3 : Value) (w : World) (B : Nat) (hB : B ≤ w.heap.size) (ha : CatRep w B a a1 a2 a3) (hb : CatRep w B b b1 b2 b3) :
    Calls Tryz.prog 5 #[.agg #[a1, a2, a3], .agg #[b1, b2, b3], .string s] w fun e w' => e = .returned (.bool true) ∧ Below w.heap.size w w' := by
  have HA := Lib.hid (fun (W : World) => awake5_c W)
  have HFW := Lib.hid (fun (v : Value) (W : World) (hv : SlRep 3 catR W (fun b => b < W.heap.size) [a, b] v) => few5_c [a, b] v W W.heap.size (Nat.le_refl _) hv)
  have HCA := Lib.hid (fun (hF : FewOk a) (W : World) (hW : Below w.heap.size w W) => rcopy_c a a1 a2 a3 W B (Nat.le_trans hB hW.size) (ha.below (hW.mono hB)) hF)
  have HCB := Lib.hid (fun (hF : FewOk b) (W : World) (hW : Below w.heap.size w W) => rcopy_c b b1 b2 b3 W B (Nat.le_trans hB hW.size) (hb.below (hW.mono hB)) hF)
  have b0 : Below w.heap.size w ((w.alloc (catC a1 a2 a3)).alloc (catC b1 b2 b3)) := ((Below.refl _ _).alloc (Nat.le_refl _) _).alloc (by simp) _
  have hb0 : Below (w.heap.size + 2) ((w.alloc (catC a1 a2 a3)).alloc (catC b1 b2 b3)) ((w.alloc (catC a1 a2 a3)).alloc (catC b1 b2 b3)) := Below.refl _ _
  have KC := Lib.hid (fun (W : World) (hW : Below (w.heap.size + 2) ((w.alloc (catC a1 a2 a3)).alloc (catC b1 b2 b3)) W) => catW2_at hW)
  have HTWO := Lib.hid (fun (W : World) (hW : Below w.heap.size w W) => cat_two hB ha hb (W := W.alloc (.cells #[a1, a2, a3, b1, b2, b3] 26)) (g := W.heap.size) (hW.alloc hW.size _) (heap_newL W _))
  obtain ⟨A1, ca1, rfl, -⟩ := id ha.langs
  obtain ⟨A2, ca2, rfl, -⟩ := id ha.labels
  obtain ⟨A3, ca3, rfl, -⟩ := id ha.sheets
  obtain ⟨B1, cb1, rfl, -⟩ := id hb.langs
  obtain ⟨B2, cb2, rfl, -⟩ := id hb.labels
  obtain ⟨B3, cb3, rfl, -⟩ := id hb.sheets
  by_cases hsz : 10 < s.size
  · have hl' : (10 : Int) < (s.size : Int) := by omega
    go_enter Tryz.func5, Tryz.ntmps5
    go_wp2_with fail
    refine (HA.out _).mono ?_
    rintro e w1 ⟨rfl, b1⟩
    have bX := bnd_call hb0 (by simp) b1
    have bW := b0.trans (bX.mono (Nat.le_add_right _ 2))
    obtain ⟨z0, z1, z2, z3, z4, z5, zl⟩ := KC.out _ bX
    have zl0 := Nat.lt_of_succ_lt zl
    go_wp2_with fail
    refine (HFW.out _ _ (HTWO.out _ bW)).mono ?_
    rintro e w2 ⟨⟨b, rfl, -⟩, hb2⟩
    cases b
    all_goals
      go_wp2
      go_ret
      exact ⟨rfl, (bW.alloc bW.size _).trans (hb2.mono (by have := bW.size; simp; omega))⟩
  · have hl' : ¬ (10 : Int) < (s.size : Int) := by omega
    go_enter Tryz.func5, Tryz.ntmps5
    go_wp2_with fail
    refine (HA.out _).mono ?_
    rintro e w1 ⟨rfl, b1⟩
    have bX := bnd_call hb0 (by simp) b1
    have bW := b0.trans (bX.mono (Nat.le_add_right _ 2))
    obtain ⟨z0, z1, z2, z3, z4, z5, zl⟩ := KC.out _ bX
    have zl0 := Nat.lt_of_succ_lt zl
    go_wp2_with fail
    refine (HFW.out _ _ (HTWO.out _ bW)).mono ?_
    rintro e w3 ⟨⟨b, rfl, hfew⟩, hb2⟩
    cases b
    · go_wp2
      go_ret
      exact ⟨rfl, (bW.alloc bW.size _).trans (hb2.mono (by have := bW.size; simp; omega))⟩
    · have hFa := hfew rfl a (by simp)
      have hFb := hfew rfl b (by simp)
      have bX := (bX.alloc (by have := bX.size; simp at this; omega) (.cells #[.slice A1 a.langs.length ca1, .slice A2 a.labels.length ca2, .slice A3 a.sheets.length ca3, .slice B1 b.langs.length cb1, .slice B2 b.labels.length cb2, .slice B3 b.sheets.length cb3] 26)).trans (hb2.mono (by have := bX.size; simp at this; simp; omega))
      clear hfew b1 hb2 z0 z1 z2 z3 z4 z5 zl zl0 bW
      have bW := b0.trans (bX.mono (Nat.le_add_right _ 2))
      have bs := bW.size
      obtain ⟨z0, z1, z2, z3, z4, z5, zl⟩ := KC.out _ bX
      have zl0 := Nat.lt_of_succ_lt zl
      have hla1 : a.sheets.length ≤ 1000 := by have := hFa.sheets; omega
      have hlb1 : b.sheets.length ≤ 1000 := by have := hFb.sheets; omega
      have HUP := Lib.hid (fun (v x1 x2 x3 y1 y2 y3 : Value) (W : World) (h1 : Posts W W.heap.size [] v) (h2 : CatRep W W.heap.size a x1 x2 x3) (h3 : CatRep W W.heap.size b y1 y2 y3) => update_c [] a b s v x1 x2 x3 y1 y2 y3 W W.heap.size (Nat.le_refl _) h1 h2 h3 (by simp) (by simp))
      have HC1 := Lib.hid (HCA.out hFa)
      have HC2 := Lib.hid (HCB.out hFb)
      have KEEP := Lib.hid (fun (W : World) (hW : Below w3.heap.size w3 W) => (⟨(hW.cell (p := ⟨w.heap.size, 0, none⟩) zl0).trans z0, (hW.cell (p := ⟨w.heap.size, 1, none⟩) zl0).trans z1, (hW.cell (p := ⟨w.heap.size, 2, none⟩) zl0).trans z2, (hW.cell (p := ⟨w.heap.size + 1, 0, none⟩) zl).trans z3, (hW.cell (p := ⟨w.heap.size + 1, 1, none⟩) zl).trans z4, (hW.cell (p := ⟨w.heap.size + 1, 2, none⟩) zl).trans z5⟩ : W.cell? ⟨w.heap.size, 0, none⟩ = some (.slice A1 a.langs.length ca1) ∧ W.cell? ⟨w.heap.size, 1, none⟩ = some (.slice A2 a.labels.length ca2) ∧ W.cell? ⟨w.heap.size, 2, none⟩ = some (.slice A3 a.sheets.length ca3) ∧ W.cell? ⟨w.heap.size + 1, 0, none⟩ = some (.slice B1 b.langs.length cb1) ∧ W.cell? ⟨w.heap.size + 1, 1, none⟩ = some (.slice B2 b.labels.length cb2) ∧ W.cell? ⟨w.heap.size + 1, 2, none⟩ = some (.slice B3 b.sheets.length cb3)))
      have hbY : Below w3.heap.size w3 w3.drew := (Below.refl _ _).drew
      clear HCA HCB HFW HTWO
      go_wp2
      clear z0 z1 z2 z3 z4 z5
      go_region_held3 (fun W => W.cell? ⟨w.heap.size, 0, none⟩ = some (.slice A1 a.langs.length ca1) ∧ W.cell? ⟨w.heap.size, 1, none⟩ = some (.slice A2 a.labels.length ca2) ∧ W.cell? ⟨w.heap.size, 2, none⟩ = some (.slice A3 a.sheets.length ca3) ∧ W.cell? ⟨w.heap.size + 1, 0, none⟩ = some (.slice B1 b.langs.length cb1) ∧ W.cell? ⟨w.heap.size + 1, 1, none⟩ = some (.slice B2 b.labels.length cb2) ∧ W.cell? ⟨w.heap.size + 1, 2, none⟩ = some (.slice B3 b.sheets.length cb3)) (with_reducible exact KEEP.out _ hbY) (first
        | (go_at_call 10; (with_reducible refine (HC1.out _ (bW.trans (hbY.mono bs))).mono ?_); rintro e w5 ⟨x1, x2, x3, rfl, hxa, -, hb5⟩; have hbY := bnd_call hbY (Nat.le_refl _) hb5)
        | (go_at_call 10; (with_reducible refine (HC2.out _ (bW.trans (hbY.mono bs))).mono ?_); rintro e w6 ⟨y1, y2, y3, rfl, hyb, -, hb6⟩; have hbY := bnd_call hbY (Nat.le_refl _) hb6; have hxa := (hxa.below hb6).mono hb6.size)
        | (go_at_call 16; (with_reducible refine (HUP.out _ _ _ _ _ _ _ _ SlRep.nil_ hxa hyb).mono ?_); rintro e w7 ⟨vx, vu, rfl, -, hou, hb7⟩; have hbY := bnd_call hbY (Nat.le_refl _) hb7))
      have hup := hou.toSl intS
      obtain ⟨Au, nu, cu, rfl, hnu⟩ := own_form intS hou
      obtain ⟨z0, z1, z2, z3, z4, z5⟩ := KEEP.out _ hbY
      have zq := Nat.lt_of_lt_of_le zl hbY.size
      have zq0 := Nat.lt_of_succ_lt zq
      have bW7 := bW.trans (hbY.mono bs)
      have bs7 := bW7.size
      by_cases he : updE [] a b s = 0
      · obtain ⟨ca0, cb0, hha, hhb, hUU⟩ := upd0 he
        have he2 : (updE [] a b s != 0) = false := by simp [he]
        clear he
        have hnu' := hnu.out
        rw [hUU] at hup hnu'
        have HAS := Lib.hid (chgF_asc (fun u => ofF a s u) (fun u => ofF b s u) (unitsL a b))
        have HMM := Lib.hid (chgF_mem (fun u => ofF a s u) (fun u => ofF b s u) (unitsL a b))
        have hul := chgG_len (fun u => ofF a s u) (fun u => ofF b s u) (unitsL a b) []
        have hul2 : (unitsL a b).length ≤ 2000 := by unfold unitsL; rw [List.length_map, List.length_append]; omega
        obtain ⟨us, hus⟩ : ∃ us, chgF (fun u => ofF a s u) (fun u => ofF b s u) (unitsL a b) = us := ⟨_, rfl⟩
        have hul3 : us.length ≤ 2000 := by rw [← hus]; unfold chgF; simp only [List.length_nil] at hul; omega
        rw [hus] at hup HAS HMM hnu'
        clear hus hUU hul hul2 hou hnu
        subst hnu'
        have HIS := Lib.hid (isSortedI_c us (.slice Au us.length cu) w7 (fun b => b < w7.heap.size) (fun _ h => h) hup HAS.out)
        go_wp2_with fail
        refine HIS.out.mono ?_
        rintro e w8 ⟨rfl, n8, rfl⟩
        have hb8 : Below w7.heap.size w7 (w7.drewN n8) := below_of_drew _ ⟨_, rfl⟩
        have bY8 := hbY.trans (hb8.mono hbY.size)
        generalize w7.drewN n8 = w8 at *
        clear z0 z1 z2 z3 z4 z5 zq zq0 HIS
        obtain ⟨z0, z1, z2, z3, z4, z5⟩ := KEEP.out _ bY8
        have zq := Nat.lt_of_lt_of_le zl bY8.size
        have zq0 := Nat.lt_of_succ_lt zq
        have hup8 := hup.below intS hb8
        go_wp2_with fail
        refine (cloneI_c us _ w8 w7.heap.size hb8.size hup8 (by omega)).mono ?_
        rintro e w9 ⟨vc, rfl, hoc, hb9⟩
        have HC9 := Lib.hid (compactI_c us vc w9 (fun b => b < w9.heap.size) (fun _ h => h) (hoc.toSl intS) HAS.out)
        obtain ⟨Ac, cc, e9, -⟩ := hoc.toSl intS
        subst e9
        go_wp2_with fail
        refine HC9.out.mono ?_
        rintro e w10 ⟨rfl, n10, rfl⟩
        have hb10 : Below w8.heap.size w8 (w9.drewN n10) := hb9.trans (below_of_drew _ ⟨_, rfl⟩)
        have bY10 := bY8.trans (hb10.mono bY8.size)
        have hb710 := hb8.trans (hb10.mono hb8.size)
        generalize w9.drewN n10 = w10 at *
        clear z0 z1 z2 z3 z4 z5 zq zq0 HC9 hoc hb9 hup8 bY8 hb8 hb10
        obtain ⟨z0, z1, z2, z3, z4, z5⟩ := KEEP.out _ bY10
        have zq := Nat.lt_of_lt_of_le zl bY10.size
        have zq0 := Nat.lt_of_succ_lt zq
        have bW10 := bW.trans (bY10.mono bs)
        have bx : Below w10.heap.size w10 (w10.alloc (.cells #[.slice A3 a.sheets.length ca3, .slice B3 b.sheets.length cb3] 24)) := (Below.refl _ _).alloc (Nat.le_refl _) _
        have bWx := bW10.trans (bx.mono bW10.size)
        have HCN := Lib.hid (concatSh_c a.sheets b.sheets (.slice A3 a.sheets.length ca3) (.slice B3 b.sheets.length cb3) w10.heap.size (w10.alloc (.cells #[.slice A3 a.sheets.length ca3, .slice B3 b.sheets.length cb3] 24)) B (Nat.le_trans hB bWx.size) (ha.sheets.below shtS (bWx.mono hB)) (hb.sheets.below shtS (bWx.mono hB)) hla1 hlb1 (by simp) (by simp))
        go_wp2_with fail
        refine HCN.out.mono ?_
        rintro e w11 ⟨vs, rfl, hos, hb11⟩
        have bY11 := (bY10.trans (bx.mono bY10.size)).trans (hb11.mono (Nat.le_trans bY10.size bx.size))
        have hb711 := (hb710.trans (bx.mono hb710.size)).trans (hb11.mono (Nat.le_trans hb710.size bx.size))
        have HSH := Lib.hid (own_sht0 hos)
        have hlo := hos.own_lt
        obtain ⟨As, ns, cs, rfl, hns⟩ := own_form shtS hos
        clear z0 z1 z2 z3 z4 z5 zq zq0 HCN hos hb11 bx bWx bW10
        obtain ⟨z0, z1, z2, z3, z4, z5⟩ := KEEP.out _ bY11
        have zq := Nat.lt_of_lt_of_le zl bY11.size
        have zq0 := Nat.lt_of_succ_lt zq
        have bW11 := bW.trans (bY11.mono bs)
        go_wp2
        have hra : rightE a s = 0 := by unfold rightE; rw [if_neg (show ¬ (catE a ≠ 0) from fun h => h ca0), if_neg (show ¬ (hasS a.langs s = false) by rw [hha]; decide)]
        have hrb : rightE b s = 0 := by unfold rightE; rw [if_neg (show ¬ (catE b ≠ 0) from fun h => h cb0), if_neg (show ¬ (hasS b.langs s = false) by rw [hhb]; decide)]
        go_loopw [62] (fun i wr => ∃ k : Nat, k ≤ ns ∧ i = .int .i64 k ∧ Below w11.heap.size w11 wr) (fun i _ => ns - (intOf i).toNat)
        case atStart => exact ⟨0, Nat.zero_le _, rfl, Below.refl _ _⟩
        case round =>
          clear z0 z1 z2 z3 z4 z5 zq zq0
          obtain ⟨k, hk, rfl, hbr⟩ := hrel
          have bY := bY11.trans (hbr.mono bY11.size)
          have hb7r := hb711.trans (hbr.mono hb711.size)
          obtain ⟨z0, z1, z2, z3, z4, z5⟩ := KEEP.out _ bY
          have zq := Nat.lt_of_lt_of_le zl bY.size
          have zq0 := Nat.lt_of_succ_lt zq
          have bWr := bW.trans (bY.mono bs)
          have bsr := bWr.size
          by_cases hlt : k < ns
          · obtain ⟨x, hx⟩ := get_at (a.sheets ++ b.sheets) (show k < (a.sheets ++ b.sheets).length by rw [← hns.out]; exact hlt)
            have hxm : x.unit ∈ unitsL a b := by
              unfold unitsL
              exact List.mem_map.2 ⟨x, List.mem_of_getElem? hx, rfl⟩
            obtain ⟨bs_, offs, Af, nf, cf, e9, hbs, q0, q1, q2, q3, q4, q5⟩ := Sheet0.at_ (HSH.out.frame sht0S (fun b' hb' => hbr.block b' (hlo b' hb').2)) hx
            subst e9
            have hbsl : bs_ < wr.heap.size := Nat.lt_of_lt_of_le (hlo bs_ hbs).2 hbr.size
            have hki : (k : Int) < (ns : Int) := by omega
            have hkN : ns ≤ 2000 := by rw [hns.out, List.length_append]; omega
            have hbR0 : Below wr.heap.size wr (wr.alloc (.cells #[.int .i64 x.unit, .int .i64 x.parent, .int .i64 x.level, .string x.mark, .string x.title, .slice Af nf cf] 50)) := (Below.refl _ _).alloc (Nat.le_refl _) _
            have hbY : Below (wr.heap.size + 1) (wr.alloc (.cells #[.int .i64 x.unit, .int .i64 x.parent, .int .i64 x.level, .string x.mark, .string x.title, .slice Af nf cf] 50)) (wr.alloc (.cells #[.int .i64 x.unit, .int .i64 x.parent, .int .i64 x.level, .string x.mark, .string x.title, .slice Af nf cf] 50)).drew := (Below.refl _ _).drew
            have KEEP2 := Lib.hid (fun (W : World) (hW : Below (wr.heap.size + 1) (wr.alloc (.cells #[.int .i64 x.unit, .int .i64 x.parent, .int .i64 x.level, .string x.mark, .string x.title, .slice Af nf cf] 50)) W) => (have hV := hbR0.trans (hW.mono (Nat.le_succ _)); ⟨(hV.cell (p := ⟨w.heap.size, 0, none⟩) zq0).trans z0, (hV.cell (p := ⟨w.heap.size, 1, none⟩) zq0).trans z1, (hV.cell (p := ⟨w.heap.size, 2, none⟩) zq0).trans z2, (hV.cell (p := ⟨w.heap.size + 1, 0, none⟩) zq).trans z3, (hV.cell (p := ⟨w.heap.size + 1, 1, none⟩) zq).trans z4, (hV.cell (p := ⟨w.heap.size + 1, 2, none⟩) zq).trans z5, (hW.cell (p := ⟨wr.heap.size, 0, none⟩) (by simp)).trans (by simp)⟩ : W.cell? ⟨w.heap.size, 0, none⟩ = some (.slice A1 a.langs.length ca1) ∧ W.cell? ⟨w.heap.size, 1, none⟩ = some (.slice A2 a.labels.length ca2) ∧ W.cell? ⟨w.heap.size, 2, none⟩ = some (.slice A3 a.sheets.length ca3) ∧ W.cell? ⟨w.heap.size + 1, 0, none⟩ = some (.slice B1 b.langs.length cb1) ∧ W.cell? ⟨w.heap.size + 1, 1, none⟩ = some (.slice B2 b.labels.length cb2) ∧ W.cell? ⟨w.heap.size + 1, 2, none⟩ = some (.slice B3 b.sheets.length cb3) ∧ W.cell? ⟨wr.heap.size, 0, none⟩ = some (.int .i64 x.unit)))
            have HT1 := Lib.hid (fun (W : World) (hW : Below w.heap.size w W) => title_c a x.unit _ _ _ W B (Nat.le_trans hB hW.size) (ha.below (hW.mono hB)))
            have HT2 := Lib.hid (fun (W : World) (hW : Below w.heap.size w W) => title_c b x.unit _ _ _ W B (Nat.le_trans hB hW.size) (hb.below (hW.mono hB)))
            have HCH1 := Lib.hid (fun (x1 x2 x3 : Value) (W : World) (h2 : CatRep W W.heap.size a x1 x2 x3) => Choose_c a x.unit s x1 x2 x3 W W.heap.size (Nat.le_refl _) h2)
            have HCH2 := Lib.hid (fun (x1 x2 x3 : Value) (W : World) (h2 : CatRep W W.heap.size b x1 x2 x3) => Choose_c b x.unit s x1 x2 x3 W W.heap.size (Nat.le_refl _) h2)
            have HO1 := Lib.hid (fun (x1 x2 x3 : Value) (W : World) (h2 : CatRep W W.heap.size a x1 x2 x3) => show Calls Tryz.prog 13 #[.agg #[x1, x2, x3], .string s, .int .i64 x.unit] W fun e w' => ∃ v', e = .returned v' ∧ OwnRep 4 (flat Post.enc) 43 W.heap.size w' (ofF a s x.unit) v' ∧ Below W.heap.size W w' by
              have := iOf_c a s x.unit x1 x2 x3 W W.heap.size (Nat.le_refl _) h2
              rwa [if_pos hra] at this)
            have HO2 := Lib.hid (fun (x1 x2 x3 : Value) (W : World) (h2 : CatRep W W.heap.size b x1 x2 x3) => show Calls Tryz.prog 13 #[.agg #[x1, x2, x3], .string s, .int .i64 x.unit] W fun e w' => ∃ v', e = .returned v' ∧ OwnRep 4 (flat Post.enc) 43 W.heap.size w' (ofF b s x.unit) v' ∧ Below W.heap.size W w' by
              have := iOf_c b s x.unit x1 x2 x3 W W.heap.size (Nat.le_refl _) h2
              rwa [if_pos hrb] at this)
            have HQF := Lib.hid (fun (v v' : Value) (W : World) (hv : SlRep 3 (flat Fact.enc) W (fun b => b < W.heap.size) (chooseR a x.unit s) v) (hv' : SlRep 3 (flat Fact.enc) W (fun b => b < W.heap.size) (chooseR b x.unit s) v') => show Calls Tryz.prog 25 #[v, v'] W fun e w' => e = .returned (.bool (eqL eqFact (chooseR a x.unit s) (chooseR b x.unit s))) ∧ Below W.heap.size W w' from Calls.below_of (equalFacts_c _ _ v v' W W.heap.size (Nat.le_refl _) hv hv'))
            have HQP := Lib.hid (fun (v v' : Value) (W : World) (hv : Posts W W.heap.size (ofF a s x.unit) v) (hv' : Posts W W.heap.size (ofF b s x.unit) v') => show Calls Tryz.prog 27 #[v, v'] W fun e w' => e = .returned (.bool (eqL eqPost (ofF a s x.unit) (ofF b s x.unit))) ∧ Below W.heap.size W w' from Calls.below_of (equalPosts_c _ _ v v' W W.heap.size (Nat.le_refl _) hv hv'))
            have HCT := Lib.hid (fun (W : World) (hW : Below wr.heap.size wr W) => show Calls Tryz.prog 28 #[.slice Au us.length cu, .int .i64 x.unit] W fun e w' => e = .returned (.bool (!eqL eqPost (ofF a s x.unit) (ofF b s x.unit))) ∧ W = w' by
              have h7 := hb7r.trans (hW.mono hb7r.size)
              have := icontains_c x.unit us (.slice Au us.length cu) W (fun b => b < w7.heap.size) (fun b hb => Nat.lt_of_lt_of_le hb h7.size) (hup.below intS h7)
              rwa [show (us.any fun y => decide (y = x.unit)) = !eqL eqPost (ofF a s x.unit) (ofF b s x.unit) by
                rw [Bool.eq_iff_iff, List.any_eq_true, Bool.not_eq_true', Bool.eq_false_iff]
                constructor
                · rintro ⟨y, hy, hyx⟩ h
                  have hyx' : y = x.unit := by simpa using hyx
                  subst hyx'
                  exact ((HMM.out x.unit).1 hy).2 ((eqL_iff eqPost_iff _ _).1 h)
                · intro h
                  exact ⟨x.unit, (HMM.out x.unit).2 ⟨hxm, fun e => h ((eqL_iff eqPost_iff _ _).2 e)⟩, by simp⟩] at this)
            have h5 : ((titG a.sheets x.unit).toList == (titG b.sheets x.unit).toList) = true → eqL eqFact (chooseR a x.unit s) (chooseR b x.unit s) = true → eqL eqPost (ofF a s x.unit) (ofF b s x.unit) = true := by
              intro h1 h2
              rw [str_eq] at h1
              exact (eqL_iff eqPost_iff _ _).2 (of_same (by simpa using h1) ((eqL_iff eqFact_iff _ _).1 h2))
            generalize titG a.sheets x.unit = ta at *
            generalize titG b.sheets x.unit = tb at *
            generalize eqL eqFact (chooseR a x.unit s) (chooseR b x.unit s) = fb at *
            generalize eqL eqPost (ofF a s x.unit) (ofF b s x.unit) = ob at *
            clear hx hxm
            cases ht : (ta.toList == tb.toList)
            · go_wp2
              clear z0 z1 z2 z3 z4 z5 q0 q1 q2 q3 q4 q5
              refine wp_region_noPanic ?_
              refine wp_region_held_drew (S := fun W => W.cell? ⟨w.heap.size, 0, none⟩ = some (.slice A1 a.langs.length ca1) ∧ W.cell? ⟨w.heap.size, 1, none⟩ = some (.slice A2 a.labels.length ca2) ∧ W.cell? ⟨w.heap.size, 2, none⟩ = some (.slice A3 a.sheets.length ca3) ∧ W.cell? ⟨w.heap.size + 1, 0, none⟩ = some (.slice B1 b.langs.length cb1) ∧ W.cell? ⟨w.heap.size + 1, 1, none⟩ = some (.slice B2 b.labels.length cb2) ∧ W.cell? ⟨w.heap.size + 1, 2, none⟩ = some (.slice B3 b.sheets.length cb3) ∧ W.cell? ⟨wr.heap.size, 0, none⟩ = some (.int .i64 x.unit)) (by kernel_rfl) (by with_reducible exact KEEP2.out _ hbY) (fun hHeld0 => ?_)
              refine wpAnyH_take (i := 0) (oi := { dst := some 66, op := Go.Op.move (Go.Operand.tmp 10), type := 51, pos := "law.go:168", after := #[], guard := none }) (v := ?_) rfl (by kernel_rfl) (by kernel_rfl) (by kernel_rfl) (fun _ _ _ h => h) (Or.inl ⟨by rfl, ?_⟩) hHeld0 ?_
              rotate_left
              · intro w hSw
                (try dsimp only at hSw)
                go_simp
                (try with_reducible rfl)
              (try simp only [Act.put, List.setIfInBounds_toArray, List.set_cons_zero, List.set_cons_succ])
              refine wpAnyH_take (i := 1) (oi := { dst := some 67, op := Go.Op.load 26 (Go.Operand.tmp 3), type := 26, pos := "law.go:168", after := #[], guard := none }) (v := ?_) rfl (by kernel_rfl) (by kernel_rfl) (by kernel_rfl) (fun _ _ _ h => h) (Or.inl ⟨by rfl, ?_⟩) hHeld0 ?_
              rotate_left
              · intro w hSw
                (try dsimp only at hSw)
                go_simp
                (try with_reducible rfl)
              (try simp only [Act.put, List.setIfInBounds_toArray, List.set_cons_zero, List.set_cons_succ])
              refine wpAnyH_take (i := 2) (oi := { dst := some 68, op := Go.Op.fieldAddr 50 (Go.Operand.tmp 12) 0, type := 0, pos := "law.go:168", after := #[], guard := none }) (v := ?_) rfl (by kernel_rfl) (by kernel_rfl) (by kernel_rfl) (fun _ _ _ h => h) (Or.inl ⟨by rfl, ?_⟩) hHeld0 ?_
              rotate_left
              · intro w hSw
                (try dsimp only at hSw)
                go_simp
                (try with_reducible rfl)
              (try simp only [Act.put, List.setIfInBounds_toArray, List.set_cons_zero, List.set_cons_succ])
              refine wpAnyH_take (i := 3) (oi := { dst := some 69, op := Go.Op.load 3 (Go.Operand.tmp 68), type := 3, pos := "law.go:168", after := #[{ on := 2, ground := Go.Ground.data }], guard := none }) (v := ?_) rfl (by kernel_rfl) (by kernel_rfl) (by kernel_rfl) (fun _ _ _ h => h) (Or.inl ⟨by rfl, ?_⟩) hHeld0 ?_
              rotate_left
              · intro w hSw
                (try dsimp only at hSw)
                go_simp
                (try with_reducible rfl)
              (try simp only [Act.put, List.setIfInBounds_toArray, List.set_cons_zero, List.set_cons_succ])
              refine wpAnyH_take (i := 5) (oi := { dst := some 71, op := Go.Op.move (Go.Operand.tmp 10), type := 51, pos := "law.go:168", after := #[], guard := none }) (v := ?_) rfl (by kernel_rfl) (by kernel_rfl) (by kernel_rfl) (fun _ _ _ h => h) (Or.inl ⟨by rfl, ?_⟩) hHeld0 ?_
              rotate_left
              · intro w hSw
                (try dsimp only at hSw)
                go_simp
                (try with_reducible rfl)
              (try simp only [Act.put, List.setIfInBounds_toArray, List.set_cons_zero, List.set_cons_succ])
              refine wpAnyH_take (i := 6) (oi := { dst := some 72, op := Go.Op.load 26 (Go.Operand.tmp 4), type := 26, pos := "law.go:168", after := #[], guard := none }) (v := ?_) rfl (by kernel_rfl) (by kernel_rfl) (by kernel_rfl) (fun _ _ _ h => h) (Or.inl ⟨by rfl, ?_⟩) hHeld0 ?_
              rotate_left
              · intro w hSw
                (try dsimp only at hSw)
                go_simp
                (try with_reducible rfl)
              (try simp only [Act.put, List.setIfInBounds_toArray, List.set_cons_zero, List.set_cons_succ])
              refine wpAnyH_take (i := 7) (oi := { dst := some 73, op := Go.Op.fieldAddr 50 (Go.Operand.tmp 12) 0, type := 0, pos := "law.go:168", after := #[], guard := none }) (v := ?_) rfl (by kernel_rfl) (by kernel_rfl) (by kernel_rfl) (fun _ _ _ h => h) (Or.inl ⟨by rfl, ?_⟩) hHeld0 ?_
              rotate_left
              · intro w hSw
                (try dsimp only at hSw)
                go_simp
                (try with_reducible rfl)
              (try simp only [Act.put, List.setIfInBounds_toArray, List.set_cons_zero, List.set_cons_succ])
              refine wpAnyH_take (i := 8) (oi := { dst := some 74, op := Go.Op.load 3 (Go.Operand.tmp 73), type := 3, pos := "law.go:168", after := #[{ on := 7, ground := Go.Ground.data }], guard := none }) (v := ?_) rfl (by kernel_rfl) (by kernel_rfl) (by kernel_rfl) (fun _ _ _ h => h) (Or.inl ⟨by rfl, ?_⟩) hHeld0 ?_
              rotate_left
              · intro w hSw
                (try dsimp only at hSw)
                go_simp
                (try with_reducible rfl)
              (try simp only [Act.put, List.setIfInBounds_toArray, List.set_cons_zero, List.set_cons_succ])
              refine wpAnyH_ready (rs := [4]) (by kernel_rfl) (by simp) ?_
              refine AllReadyH.cons (o := { dst := some 70, op := Go.Op.call { callee := Go.Callee.value (Go.Operand.tmp 66), args := #[Go.Operand.tmp 67, Go.Operand.tmp 69], argTypes := #[26, 3] }, type := 9, pos := "law.go:168", after := #[{ on := 0, ground := Go.Ground.data }, { on := 1, ground := Go.Ground.data }, { on := 3, ground := Go.Ground.data }], guard := none }) rfl (fun K hK => ?_) AllReadyH.nil
              go_simp
              go_at_call 23
              (with_reducible refine (HT1.out _ (bWr.trans ((hbR0.trans (hbY.mono (Nat.le_succ _))).mono bsr))).mono ?_)
              rintro e w20 ⟨rfl, hb20⟩
              have hbY := bnd_call hbY (by simp) hb20
              refine hK.out _ _ (by with_reducible exact KEEP2.out _ hbY) (fun hHeld1 => ?_)
              clear hK K hHeld0
              (try simp only [Act.put, List.setIfInBounds_toArray, List.set_cons_zero, List.set_cons_succ])
              refine wpAnyH_ready (rs := [9]) (by kernel_rfl) (by simp) ?_
              refine AllReadyH.cons (o := { dst := some 75, op := Go.Op.call { callee := Go.Callee.value (Go.Operand.tmp 71), args := #[Go.Operand.tmp 72, Go.Operand.tmp 74], argTypes := #[26, 3] }, type := 9, pos := "law.go:168", after := #[{ on := 5, ground := Go.Ground.data }, { on := 6, ground := Go.Ground.data }, { on := 8, ground := Go.Ground.data }, { on := 4, ground := Go.Ground.chain }], guard := none }) rfl (fun K hK => ?_) AllReadyH.nil
              go_simp
              go_at_call 23
              (with_reducible refine (HT2.out _ (bWr.trans ((hbR0.trans (hbY.mono (Nat.le_succ _))).mono bsr))).mono ?_)
              rintro e w21 ⟨rfl, hb21⟩
              have hbY := bnd_call hbY (by simp) hb21
              refine hK.out _ _ (by with_reducible exact KEEP2.out _ hbY) (fun hHeld2 => ?_)
              clear hK K hHeld1
              (try simp only [Act.put, List.setIfInBounds_toArray, List.set_cons_zero, List.set_cons_succ])
              refine wpAnyH_take (i := 10) (oi := { dst := some 76, op := Go.Op.binOp Go.BinOp.eql 9 (Go.Operand.tmp 70) (Go.Operand.tmp 75) 9, type := 4, pos := "law.go:168", after := #[{ on := 4, ground := Go.Ground.data }, { on := 9, ground := Go.Ground.data }], guard := none }) (v := ?_) rfl (by kernel_rfl) (by kernel_rfl) (by kernel_rfl) (fun _ _ _ h => h) (Or.inl ⟨by rfl, ?_⟩) hHeld2 ?_
              rotate_left
              · intro w hSw
                (try dsimp only at hSw)
                go_simp
                (try with_reducible rfl)
              (try simp only [Act.put, List.setIfInBounds_toArray, List.set_cons_zero, List.set_cons_succ])
              refine wpAnyH_take (i := 11) (oi := { dst := some 77, op := Go.Op.move (Go.Operand.tmp 76), type := 4, pos := "law.go:168", after := #[{ on := 10, ground := Go.Ground.data }, { on := 9, ground := Go.Ground.chain }], guard := none }) (v := ?_) rfl (by kernel_rfl) (by kernel_rfl) (by kernel_rfl) (fun _ _ _ h => h) (Or.inl ⟨by rfl, ?_⟩) hHeld2 ?_
              rotate_left
              · intro w hSw
                (try dsimp only at hSw)
                go_simp
                (try with_reducible rfl)
              (try simp only [Act.put, List.setIfInBounds_toArray, List.set_cons_zero, List.set_cons_succ])
              refine wpAnyH_take (i := 12) (oi := { dst := some 78, op := Go.Op.load 26 (Go.Operand.tmp 3), type := 26, pos := "law.go:168", after := #[{ on := 11, ground := Go.Ground.guard }], guard := some (11, true) }) (v := undef) rfl (by kernel_rfl) (by kernel_rfl) (by kernel_rfl) (fun _ _ _ h => h) (Or.inr ⟨by rfl, rfl⟩) hHeld2 ?_
              (try simp only [Act.put, List.setIfInBounds_toArray, List.set_cons_zero, List.set_cons_succ])
              refine wpAnyH_take (i := 13) (oi := { dst := some 79, op := Go.Op.call { callee := Go.Callee.value (Go.Operand.func 10), args := #[Go.Operand.tmp 78], argTypes := #[26] }, type := 26, pos := "law.go:168", after := #[{ on := 12, ground := Go.Ground.data }, { on := 11, ground := Go.Ground.chain }, { on := 11, ground := Go.Ground.guard }], guard := some (11, true) }) (v := undef) rfl (by kernel_rfl) (by kernel_rfl) (by kernel_rfl) (fun _ _ _ h => h) (Or.inr ⟨by rfl, rfl⟩) hHeld2 ?_
              (try simp only [Act.put, List.setIfInBounds_toArray, List.set_cons_zero, List.set_cons_succ])
              refine wpAnyH_take (i := 14) (oi := { dst := some 80, op := Go.Op.fieldAddr 50 (Go.Operand.tmp 12) 0, type := 0, pos := "law.go:168", after := #[{ on := 11, ground := Go.Ground.guard }], guard := some (11, true) }) (v := undef) rfl (by kernel_rfl) (by kernel_rfl) (by kernel_rfl) (fun _ _ _ h => h) (Or.inr ⟨by rfl, rfl⟩) hHeld2 ?_
              (try simp only [Act.put, List.setIfInBounds_toArray, List.set_cons_zero, List.set_cons_succ])
              refine wpAnyH_take (i := 15) (oi := { dst := some 81, op := Go.Op.load 3 (Go.Operand.tmp 80), type := 3, pos := "law.go:168", after := #[{ on := 14, ground := Go.Ground.data }, { on := 11, ground := Go.Ground.guard }], guard := some (11, true) }) (v := undef) rfl (by kernel_rfl) (by kernel_rfl) (by kernel_rfl) (fun _ _ _ h => h) (Or.inr ⟨by rfl, rfl⟩) hHeld2 ?_
              (try simp only [Act.put, List.setIfInBounds_toArray, List.set_cons_zero, List.set_cons_succ])
              refine wpAnyH_take (i := 16) (oi := { dst := some 82, op := Go.Op.move (Go.Operand.tmp 2), type := 9, pos := "law.go:168", after := #[{ on := 11, ground := Go.Ground.guard }], guard := some (11, true) }) (v := undef) rfl (by kernel_rfl) (by kernel_rfl) (by kernel_rfl) (fun _ _ _ h => h) (Or.inr ⟨by rfl, rfl⟩) hHeld2 ?_
              (try simp only [Act.put, List.setIfInBounds_toArray, List.set_cons_zero, List.set_cons_succ])
              refine wpAnyH_take (i := 17) (oi := { dst := some 83, op := Go.Op.call { callee := Go.Callee.value (Go.Operand.func 26), args := #[Go.Operand.tmp 79, Go.Operand.tmp 81, Go.Operand.tmp 82], argTypes := #[26, 3, 9] }, type := 48, pos := "law.go:168", after := #[{ on := 13, ground := Go.Ground.data }, { on := 15, ground := Go.Ground.data }, { on := 16, ground := Go.Ground.data }, { on := 13, ground := Go.Ground.chain }, { on := 11, ground := Go.Ground.guard }], guard := some (11, true) }) (v := undef) rfl (by kernel_rfl) (by kernel_rfl) (by kernel_rfl) (fun _ _ _ h => h) (Or.inr ⟨by rfl, rfl⟩) hHeld2 ?_
              (try simp only [Act.put, List.setIfInBounds_toArray, List.set_cons_zero, List.set_cons_succ])
              refine wpAnyH_take (i := 18) (oi := { dst := some 84, op := Go.Op.load 26 (Go.Operand.tmp 4), type := 26, pos := "law.go:168", after := #[{ on := 11, ground := Go.Ground.guard }], guard := some (11, true) }) (v := undef) rfl (by kernel_rfl) (by kernel_rfl) (by kernel_rfl) (fun _ _ _ h => h) (Or.inr ⟨by rfl, rfl⟩) hHeld2 ?_
              (try simp only [Act.put, List.setIfInBounds_toArray, List.set_cons_zero, List.set_cons_succ])
              refine wpAnyH_take (i := 19) (oi := { dst := some 85, op := Go.Op.call { callee := Go.Callee.value (Go.Operand.func 10), args := #[Go.Operand.tmp 84], argTypes := #[26] }, type := 26, pos := "law.go:168", after := #[{ on := 18, ground := Go.Ground.data }, { on := 17, ground := Go.Ground.chain }, { on := 11, ground := Go.Ground.guard }], guard := some (11, true) }) (v := undef) rfl (by kernel_rfl) (by kernel_rfl) (by kernel_rfl) (fun _ _ _ h => h) (Or.inr ⟨by rfl, rfl⟩) hHeld2 ?_
              (try simp only [Act.put, List.setIfInBounds_toArray, List.set_cons_zero, List.set_cons_succ])
              refine wpAnyH_take (i := 20) (oi := { dst := some 86, op := Go.Op.fieldAddr 50 (Go.Operand.tmp 12) 0, type := 0, pos := "law.go:168", after := #[{ on := 11, ground := Go.Ground.guard }], guard := some (11, true) }) (v := undef) rfl (by kernel_rfl) (by kernel_rfl) (by kernel_rfl) (fun _ _ _ h => h) (Or.inr ⟨by rfl, rfl⟩) hHeld2 ?_
              (try simp only [Act.put, List.setIfInBounds_toArray, List.set_cons_zero, List.set_cons_succ])
              refine wpAnyH_take (i := 21) (oi := { dst := some 87, op := Go.Op.load 3 (Go.Operand.tmp 86), type := 3, pos := "law.go:168", after := #[{ on := 20, ground := Go.Ground.data }, { on := 11, ground := Go.Ground.guard }], guard := some (11, true) }) (v := undef) rfl (by kernel_rfl) (by kernel_rfl) (by kernel_rfl) (fun _ _ _ h => h) (Or.inr ⟨by rfl, rfl⟩) hHeld2 ?_
              (try simp only [Act.put, List.setIfInBounds_toArray, List.set_cons_zero, List.set_cons_succ])
              refine wpAnyH_take (i := 22) (oi := { dst := some 88, op := Go.Op.move (Go.Operand.tmp 2), type := 9, pos := "law.go:168", after := #[{ on := 11, ground := Go.Ground.guard }], guard := some (11, true) }) (v := undef) rfl (by kernel_rfl) (by kernel_rfl) (by kernel_rfl) (fun _ _ _ h => h) (Or.inr ⟨by rfl, rfl⟩) hHeld2 ?_
              (try simp only [Act.put, List.setIfInBounds_toArray, List.set_cons_zero, List.set_cons_succ])
              refine wpAnyH_take (i := 23) (oi := { dst := some 89, op := Go.Op.call { callee := Go.Callee.value (Go.Operand.func 26), args := #[Go.Operand.tmp 85, Go.Operand.tmp 87, Go.Operand.tmp 88], argTypes := #[26, 3, 9] }, type := 48, pos := "law.go:168", after := #[{ on := 19, ground := Go.Ground.data }, { on := 21, ground := Go.Ground.data }, { on := 22, ground := Go.Ground.data }, { on := 19, ground := Go.Ground.chain }, { on := 11, ground := Go.Ground.guard }], guard := some (11, true) }) (v := undef) rfl (by kernel_rfl) (by kernel_rfl) (by kernel_rfl) (fun _ _ _ h => h) (Or.inr ⟨by rfl, rfl⟩) hHeld2 ?_
              (try simp only [Act.put, List.setIfInBounds_toArray, List.set_cons_zero, List.set_cons_succ])
              refine wpAnyH_take (i := 24) (oi := { dst := some 90, op := Go.Op.call { callee := Go.Callee.value (Go.Operand.func 25), args := #[Go.Operand.tmp 83, Go.Operand.tmp 89], argTypes := #[48, 48] }, type := 4, pos := "law.go:168", after := #[{ on := 17, ground := Go.Ground.data }, { on := 23, ground := Go.Ground.data }, { on := 23, ground := Go.Ground.chain }, { on := 11, ground := Go.Ground.guard }], guard := some (11, true) }) (v := undef) rfl (by kernel_rfl) (by kernel_rfl) (by kernel_rfl) (fun _ _ _ h => h) (Or.inr ⟨by rfl, rfl⟩) hHeld2 ?_
              (try simp only [Act.put, List.setIfInBounds_toArray, List.set_cons_zero, List.set_cons_succ])
              refine wpAnyH_take (i := 25) (oi := { dst := some 91, op := Go.Op.pick (Go.Operand.tmp 77) (Go.Operand.tmp 90) (Go.Operand.const (Go.Value.bool false)), type := 4, pos := "law.go:168", after := #[{ on := 11, ground := Go.Ground.data }, { on := 24, ground := Go.Ground.data }], guard := none }) (v := ?_) rfl (by kernel_rfl) (by kernel_rfl) (by kernel_rfl) (fun _ _ _ h => h) (Or.inl ⟨by rfl, ?_⟩) hHeld2 ?_
              rotate_left
              · intro w hSw
                (try dsimp only at hSw)
                go_simp
                (try with_reducible rfl)
              (try simp only [Act.put, List.setIfInBounds_toArray, List.set_cons_zero, List.set_cons_succ])
              refine wpAnyH_take (i := 26) (oi := { dst := some 13, op := Go.Op.assign (Go.Operand.tmp 91), type := 4, pos := "law.go:168", after := #[{ on := 25, ground := Go.Ground.data }, { on := 24, ground := Go.Ground.chain }, { on := 0, ground := Go.Ground.phase }, { on := 1, ground := Go.Ground.phase }, { on := 2, ground := Go.Ground.phase }, { on := 3, ground := Go.Ground.phase }, { on := 4, ground := Go.Ground.phase }, { on := 5, ground := Go.Ground.phase }, { on := 6, ground := Go.Ground.phase }, { on := 7, ground := Go.Ground.phase }, { on := 8, ground := Go.Ground.phase }, { on := 9, ground := Go.Ground.phase }, { on := 10, ground := Go.Ground.phase }, { on := 11, ground := Go.Ground.phase }, { on := 12, ground := Go.Ground.phase }, { on := 13, ground := Go.Ground.phase }, { on := 14, ground := Go.Ground.phase }, { on := 15, ground := Go.Ground.phase }, { on := 16, ground := Go.Ground.phase }, { on := 17, ground := Go.Ground.phase }, { on := 18, ground := Go.Ground.phase }, { on := 19, ground := Go.Ground.phase }, { on := 20, ground := Go.Ground.phase }, { on := 21, ground := Go.Ground.phase }, { on := 22, ground := Go.Ground.phase }, { on := 23, ground := Go.Ground.phase }, { on := 24, ground := Go.Ground.phase }, { on := 25, ground := Go.Ground.phase }], guard := none }) (v := ?_) rfl (by kernel_rfl) (by kernel_rfl) (by kernel_rfl) (fun _ _ _ h => h) (Or.inl ⟨by rfl, ?_⟩) hHeld2 ?_
              rotate_left
              · intro w hSw
                (try dsimp only at hSw)
                go_simp
                (try with_reducible rfl)
              (try simp only [Act.put, List.setIfInBounds_toArray, List.set_cons_zero, List.set_cons_succ])
              refine wpAnyH_done (by kernel_rfl) ?_ _
              refine NoPanic.normal ?_
              obtain ⟨z0, z1, z2, z3, z4, z5, z6⟩ := KEEP2.out _ hbY
              have hql := Nat.lt_of_lt_of_le (Nat.lt_succ_self wr.heap.size) (Nat.le_trans (by simp) hbY.size : wr.heap.size + 1 ≤ _)
              have hbY := hbY.drew
              go_wp2
              clear z0 z1 z2 z3 z4 z5 z6
              go_region_held3 (fun W => W.cell? ⟨w.heap.size, 0, none⟩ = some (.slice A1 a.langs.length ca1) ∧ W.cell? ⟨w.heap.size, 1, none⟩ = some (.slice A2 a.labels.length ca2) ∧ W.cell? ⟨w.heap.size, 2, none⟩ = some (.slice A3 a.sheets.length ca3) ∧ W.cell? ⟨w.heap.size + 1, 0, none⟩ = some (.slice B1 b.langs.length cb1) ∧ W.cell? ⟨w.heap.size + 1, 1, none⟩ = some (.slice B2 b.labels.length cb2) ∧ W.cell? ⟨w.heap.size + 1, 2, none⟩ = some (.slice B3 b.sheets.length cb3) ∧ W.cell? ⟨wr.heap.size, 0, none⟩ = some (.int .i64 x.unit)) (with_reducible exact KEEP2.out _ hbY) (first
                | (go_at_call 10; (with_reducible refine (HC1.out _ (bWr.trans ((hbR0.trans (hbY.mono (Nat.le_succ _))).mono bsr))).mono ?_); rintro e w32 ⟨x1, x2, x3, rfl, hxa, -, hb32⟩; have hbY := bnd_call hbY (by simp) hb32)
                | (go_at_call 13; (with_reducible refine (HO1.out _ _ _ _ hxa).mono ?_); rintro e w34 ⟨va, rfl, hoa, hb34⟩; have hbY := bnd_call hbY (by simp) hb34; have hpa := hoa.toSl pstS)
                | (go_at_call 10; (with_reducible refine (HC2.out _ (bWr.trans ((hbR0.trans (hbY.mono (Nat.le_succ _))).mono bsr))).mono ?_); rintro e w33 ⟨y1, y2, y3, rfl, hyb, -, hb33⟩; have hbY := bnd_call hbY (by simp) hb33; have hpa := (hpa.below pstS hb33).mono pstS hb33.size)
                | (go_at_call 13; (with_reducible refine (HO2.out _ _ _ _ hyb).mono ?_); rintro e w35 ⟨vb, rfl, hob, hb35⟩; have hbY := bnd_call hbY (by simp) hb35; have hpb := hob.toSl pstS; have hpa := (hpa.below pstS hb35).mono pstS hb35.size)
                | (go_at_call 27; (with_reducible refine (HQP.out _ _ _ hpa hpb).mono ?_); rintro e w36 ⟨rfl, hb36⟩; have hbY := bnd_call hbY (by simp) hb36))
              obtain ⟨z0, z1, z2, z3, z4, z5, z6⟩ := KEEP2.out _ hbY
              have hql := Nat.lt_of_lt_of_le (Nat.lt_succ_self wr.heap.size) (Nat.le_trans (by simp) hbY.size : wr.heap.size + 1 ≤ _)
              have hbf := hbR0.trans (hbY.mono (Nat.le_succ _))
              go_wp2_with fail
              refine (HCT.out _ hbf).mono ?_
              rintro e wz ⟨rfl, rfl⟩
              cases ob
              all_goals
                go_wp2
                go_roundw
                case rel => exact ⟨k + 1, by omega, by go_num, hbr.trans (hbf.mono hbr.size)⟩
                case measure => simp [intOf]; omega
            · go_wp2
              clear z0 z1 z2 z3 z4 z5 q0 q1 q2 q3 q4 q5
              go_region_held3 (fun W => W.cell? ⟨w.heap.size, 0, none⟩ = some (.slice A1 a.langs.length ca1) ∧ W.cell? ⟨w.heap.size, 1, none⟩ = some (.slice A2 a.labels.length ca2) ∧ W.cell? ⟨w.heap.size, 2, none⟩ = some (.slice A3 a.sheets.length ca3) ∧ W.cell? ⟨w.heap.size + 1, 0, none⟩ = some (.slice B1 b.langs.length cb1) ∧ W.cell? ⟨w.heap.size + 1, 1, none⟩ = some (.slice B2 b.labels.length cb2) ∧ W.cell? ⟨w.heap.size + 1, 2, none⟩ = some (.slice B3 b.sheets.length cb3) ∧ W.cell? ⟨wr.heap.size, 0, none⟩ = some (.int .i64 x.unit)) (with_reducible exact KEEP2.out _ hbY) (first
                | (go_at_call 23; (with_reducible refine (HT1.out _ (bWr.trans ((hbR0.trans (hbY.mono (Nat.le_succ _))).mono bsr))).mono ?_); rintro e w20 ⟨rfl, hb20⟩; have hbY := bnd_call hbY (by simp) hb20)
                | (go_at_call 23; (with_reducible refine (HT2.out _ (bWr.trans ((hbR0.trans (hbY.mono (Nat.le_succ _))).mono bsr))).mono ?_); rintro e w21 ⟨rfl, hb21⟩; have hbY := bnd_call hbY (by simp) hb21)
                | (go_at_call 10; (with_reducible refine (HC1.out _ (bWr.trans ((hbR0.trans (hbY.mono (Nat.le_succ _))).mono bsr))).mono ?_); rintro e w22 ⟨x1, x2, x3, rfl, hxa, -, hb22⟩; have hbY := bnd_call hbY (by simp) hb22)
                | (go_at_call 26; (with_reducible refine (HCH1.out _ _ _ _ hxa).mono ?_); rintro e w23 ⟨va, rfl, hoa, hb23⟩; have hbY := bnd_call hbY (by simp) hb23; have hfa := hoa.toSl fctS)
                | (go_at_call 10; (with_reducible refine (HC2.out _ (bWr.trans ((hbR0.trans (hbY.mono (Nat.le_succ _))).mono bsr))).mono ?_); rintro e w24 ⟨y1, y2, y3, rfl, hyb, -, hb24⟩; have hbY := bnd_call hbY (by simp) hb24; have hfa := (hfa.below fctS hb24).mono fctS hb24.size)
                | (go_at_call 26; (with_reducible refine (HCH2.out _ _ _ _ hyb).mono ?_); rintro e w25 ⟨vb, rfl, hob, hb25⟩; have hbY := bnd_call hbY (by simp) hb25; have hfb := hob.toSl fctS; have hfa := (hfa.below fctS hb25).mono fctS hb25.size)
                | (go_at_call 25; (with_reducible refine (HQF.out _ _ _ hfa hfb).mono ?_); rintro e w26 ⟨rfl, hb26⟩; have hbY := bnd_call hbY (by simp) hb26))
              clear hxa hyb hfa hfb hoa hob
              obtain ⟨z0, z1, z2, z3, z4, z5, z6⟩ := KEEP2.out _ hbY
              have hql := Nat.lt_of_lt_of_le (Nat.lt_succ_self wr.heap.size) (Nat.le_trans (by simp) hbY.size : wr.heap.size + 1 ≤ _)
              have hbY := hbY.drew
              go_wp2
              clear z0 z1 z2 z3 z4 z5 z6
              go_region_held3 (fun W => W.cell? ⟨w.heap.size, 0, none⟩ = some (.slice A1 a.langs.length ca1) ∧ W.cell? ⟨w.heap.size, 1, none⟩ = some (.slice A2 a.labels.length ca2) ∧ W.cell? ⟨w.heap.size, 2, none⟩ = some (.slice A3 a.sheets.length ca3) ∧ W.cell? ⟨w.heap.size + 1, 0, none⟩ = some (.slice B1 b.langs.length cb1) ∧ W.cell? ⟨w.heap.size + 1, 1, none⟩ = some (.slice B2 b.labels.length cb2) ∧ W.cell? ⟨w.heap.size + 1, 2, none⟩ = some (.slice B3 b.sheets.length cb3) ∧ W.cell? ⟨wr.heap.size, 0, none⟩ = some (.int .i64 x.unit)) (with_reducible exact KEEP2.out _ hbY) (first
                | (go_at_call 10; (with_reducible refine (HC1.out _ (bWr.trans ((hbR0.trans (hbY.mono (Nat.le_succ _))).mono bsr))).mono ?_); rintro e w32 ⟨x1, x2, x3, rfl, hxa, -, hb32⟩; have hbY := bnd_call hbY (by simp) hb32)
                | (go_at_call 13; (with_reducible refine (HO1.out _ _ _ _ hxa).mono ?_); rintro e w34 ⟨va, rfl, hoa, hb34⟩; have hbY := bnd_call hbY (by simp) hb34; have hpa := hoa.toSl pstS)
                | (go_at_call 10; (with_reducible refine (HC2.out _ (bWr.trans ((hbR0.trans (hbY.mono (Nat.le_succ _))).mono bsr))).mono ?_); rintro e w33 ⟨y1, y2, y3, rfl, hyb, -, hb33⟩; have hbY := bnd_call hbY (by simp) hb33; have hpa := (hpa.below pstS hb33).mono pstS hb33.size)
                | (go_at_call 13; (with_reducible refine (HO2.out _ _ _ _ hyb).mono ?_); rintro e w35 ⟨vb, rfl, hob, hb35⟩; have hbY := bnd_call hbY (by simp) hb35; have hpb := hob.toSl pstS; have hpa := (hpa.below pstS hb35).mono pstS hb35.size)
                | (go_at_call 27; (with_reducible refine (HQP.out _ _ _ hpa hpb).mono ?_); rintro e w36 ⟨rfl, hb36⟩; have hbY := bnd_call hbY (by simp) hb36))
              obtain ⟨z0, z1, z2, z3, z4, z5, z6⟩ := KEEP2.out _ hbY
              have hql := Nat.lt_of_lt_of_le (Nat.lt_succ_self wr.heap.size) (Nat.le_trans (by simp) hbY.size : wr.heap.size + 1 ≤ _)
              have hbf := hbR0.trans (hbY.mono (Nat.le_succ _))
              go_wp2_with fail
              refine (HCT.out _ hbf).mono ?_
              rintro e wz ⟨rfl, rfl⟩
              cases ob
              · cases fb
                · go_wp2
                  go_roundw
                  case rel => exact ⟨k + 1, by omega, by go_num, hbr.trans (hbf.mono hbr.size)⟩
                  case measure => simp [intOf]; omega
                · exact absurd (h5 ht rfl) (by simp)
              · go_wp2
                go_roundw
                case rel => exact ⟨k + 1, by omega, by go_num, hbr.trans (hbf.mono hbr.size)⟩
                case measure => simp [intOf]; omega
          · have hki : ¬ (k : Int) < (ns : Int) := by omega
            go_wp2
            go_ret
            exact ⟨rfl, bWr⟩
      · have he2 : (updE [] a b s != 0) = true := by simpa using he
        have hnil : nu = 0 := by rw [hnu.out]; unfold updU; rw [if_neg he]; rfl
        subst hnil
        clear he
        go_wp2
        go_ret
        exact ⟨rfl, bW7⟩
end Go.Proofs.YtpfngehledgkiaaGreat
