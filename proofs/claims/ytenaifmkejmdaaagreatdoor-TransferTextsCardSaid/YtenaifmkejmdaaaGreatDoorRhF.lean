/- The reference: Parse. -/
import Derived.Test.YtenaifmkejmdaaaGreatDoorRhA
import Derived.Test.YtenaifmkejmdaaaGreatDoorRgD
import Derived.Test.YtenaifmkejmdaaaGreatDoorRhQ
namespace Go.Proofs.YtenaifmkejmdaaaGreatDoor
open Go.RowKit

attribute [local go_sem] Oper.semAt_some
theorem cell_grownR {w w' : World} {ob : Option Nat} (h : w.grownBy w' ob) {p : Addr} (hb : p.block < w.heap.size) (hne : some p.block ≠ ob) : w'.cell? p = w.cell? p := World.cell?_of_block (w := w) (h.block p.block hb hne)
theorem flat_one {W : World} {F : Nat → Prop} {y : Item} : ∀ (i : Nat) z cs, ([y] : List Item)[i]? = some z → ([Item.enc y] : List (List Value))[i]? = some cs → flat Item.enc W F z cs := fun i z cs hz hcs => by
  rcases i with _ | i
  · injection hz with hz; injection hcs with hcs; subst hz hcs; rfl
  · simp at hz
set_option maxRecDepth 100000 in
set_option maxHeartbeats 4000000 in
theorem rparse_c (text : ByteArray) (w : World) (hbig : ¬ 65536 < text.size) : Calls Tryz.prog 19 #[.string text] w fun e w' => prsQ text w e w' := by
  have hbi : ¬ (65536 : Int) < (text.size : Int) := by omega
  have HL := Lib.hid (show text.data.toList.length = text.size from Array.length_toList)
  have HP0 := Lib.hid (pars_start hbig)
  have HK0 := Lib.hid (RpAt.start w)
  have hsz : text.size ≤ 65536 := by omega
  go_enter Tryz.func19, Tryz.ntmps19
  go_wp2
  go_loopw [7, 8] (fun li fr wr => ∃ (k p : Nat) (l : TL) (v : Value), li = .int .i64 k ∧ fr = .int .i64 p ∧ p ≤ text.size ∧ k ≤ p ∧ Hid (parsAt text k p l) ∧ Hid (RpAt w k l v wr)) (fun _ fr _ => text.size - (intOf fr).toNat)
  case atStart => exact ⟨0, 0, zTL, _, rfl, rfl, Nat.zero_le _, Nat.le_refl _, HP0, HK0⟩
  case round =>
    clear HP0 HK0
    obtain ⟨k, p, l, v, rfl, rfl, hp, hkp, HP, HK⟩ := hrel
    have hwk : IntKind.i64.wrap ((k : Int) + 1) = (k : Int) + 1 := IntWalk.i64_in _ (by omega)
    by_cases hlt : p < text.size
    · have hpi : (p : Int) < (text.size : Int) := by omega
      obtain ⟨wo, hwo⟩ : ∃ wo : World, wo = wr := ⟨_, rfl⟩
      rw [← hwo] at HK ⊢
      clear hwo
      go_wp2
      go_loopw [9] (fun tt wr => ∃ t : Nat, tt = .int .i64 t ∧ p ≤ t ∧ t ≤ text.size ∧ Hid (lineI text.data.toList p t) ∧ wr = wo) (fun tt _ => text.size - (intOf tt).toNat)
      case atStart => exact ⟨p, rfl, Nat.le_refl _, hp, Lib.hid (lineI_start _ _), rfl⟩
      case round =>
        obtain ⟨t, rfl, hpt, hts, HI, rfl⟩ := hrel
        by_cases htl : t < text.size
        · have hti : (t : Int) < (text.size : Int) := by omega
          have htl' : t < text.data.toList.length := by rw [HL.out]; exact htl
          have hwt : IntKind.i64.wrap ((t : Int) + 1) = (t : Int) + 1 := IntWalk.i64_in _ (by omega)
          have HTX := Lib.hid (show text.data.toList[t]'htl' = text[t]'htl from rfl)
          by_cases hn : text[t]'htl = 10
          · have hnb : (((text[t]'htl).toNat : Int) != 10) = false := by rw [hn]; rfl
            have hnt : text.data.toList[t]'htl' = 10 := by rw [HTX.out]; exact hn
            have HNO := Lib.hid (fun hs => pars_none HP.out HI.out htl' hnt hs)
            have HYE := Lib.hid (fun l' hs => pars_next (l' := l') HP.out HI.out htl' hnt hs)
            obtain ⟨s, hse⟩ : ∃ s : ByteArray, text.extract p t = s := ⟨_, rfl⟩
            rw [← part_bytes, hse] at HNO HYE
            have hss : s.size ≤ 65536 := by rw [← hse, ByteArray.size_extract]; omega
            have hpti : (p : Int) ≤ (t : Int) := by omega
            have htsi : (t : Int) ≤ (text.size : Int) := by omega
            have hpsi : (p : Int) ≤ (text.size : Int) := by omega
            rcases Nat.eq_zero_or_pos k with hk0 | hk0
            · subst hk0
              have HWD := Lib.hid (show Calls Tryz.prog 48 #[.string s, .int .i64 5] wr _ from rwords_c s 4 wr (by omega) (by omega))
              go_wp2_with fail
              refine HWD.out.mono ?_
              rintro e w2 ⟨vw, rfl, hw, hb2⟩
              have HK2 := Lib.hid (HK.out.next hb2)
              have hws := hw.toSl strS
              have HSW := Lib.hid hw
              clear hw hb2 HWD
              by_cases hq : (splBN 32 4 s).length = 4
              · obtain ⟨p0, r, hpr⟩ : ∃ p0 r, splB 32 s = p0 :: r := splB_ne 32 s
                have hrl : r.length = 3 := by have := head_four hq; rw [hpr] at this; rw [← this] at hq; simpa using hq
                obtain ⟨x1, x2, x3, rfl⟩ := list3 hrl
                rw [← head_four hq, hpr] at hws
                obtain ⟨Aw, cw, rfl, hc4, hcm, -⟩ := id hws
                obtain ⟨gw, ow, rfl, hgw, y0⟩ := sl_str hws (i := 0) rfl
                simp only [Nat.add_zero] at y0
                have HPR := Lib.hid hpr
                simp only [List.length_cons, List.length_nil, Nat.zero_add, Nat.reduceAdd] at hc4
                have hc1 : ¬ cw = 1 := by omega
                have hc4i : (4 : Int) ≤ (cw : Int) := by omega
                have HPT := Lib.hid (sl_part hws 1 3 (cw - 1) (by simp) (by omega) (by omega))
                clear hpr hrl hq
                by_cases hp : p0 = bList
                · have hr1 : p0.toList = ([108, 105, 115, 116] : List UInt8) := by rw [hp, ByteArray.toList_eq]
                  have HP0 := Lib.hid hp
                  have HNS := Lib.hid (rnumbers_c [x1, x2, x3] _ w2 w2.heap.size (Nat.le_refl _) HPT.out (by simp))
                  clear hp hws
                  go_wp2_with fail
                  refine HNS.out.mono ?_
                  rintro e w3 (⟨hnn, rfl, hb3⟩ | ⟨ls, vn, hnn, rfl, hvn, hb3⟩)
                  · have HK3 := Lib.hid (HK2.out.next hb3)
                    have HNN := Lib.hid hnn
                    clear hnn hb3 HNS HPT
                    obtain ⟨c0, c1, c2, c3, cl⟩ := HK3.out.cells
                    obtain ⟨⟨a1, a2, a3, a4, a5, a6, a7, a8⟩, b1, b2, b3, b4, hb⟩ := prs_zero HK3.out.res HK3.out.below (Nat.le_refl _)
                    have HBF := Lib.hid hb
                    have HE := Lib.hid (show parseF text = (zTL, 1, 3) from HNO.out (by unfold stepO; rw [if_pos rfl, headO_nums HPR.out HNN.out]; rfl))
                    clear hb
                    go_wp2
                    refine bodyPost_ret (v := .tuple #[.agg #[.int .i64 0, .int .i64 0, .int .i64 0, .slice none 0 0], .int .i64 1, .int .i64 3]) (by simp [results, Tryz.results19, go_sem, b1, b2, b3, b4]) rfl (prs_none HE.out HBF.out)
                  · have HK3 := Lib.hid (HK2.out.next hb3)
                    have hll := numsO_len hnn
                    obtain ⟨i1, i2, i3, rfl⟩ := list3 hll
                    obtain ⟨An, cn, e, -, -, -⟩ := id (hvn.toSl intS)
                    have e : vn = .slice An 3 cn := e
                    subst e
                    obtain ⟨gn, on, rfl, hgn, n0⟩ := Ints.at_ (hvn.toSl intS) (i := 0) (x := (i1 : Int)) rfl
                    obtain ⟨_, _, e1, -, n1⟩ := Ints.at_ (hvn.toSl intS) (i := 1) (x := (i2 : Int)) rfl
                    cases e1
                    obtain ⟨_, _, e1, -, n2⟩ := Ints.at_ (hvn.toSl intS) (i := 2) (x := (i3 : Int)) rfl
                    cases e1
                    obtain ⟨⟨a1, a2, a3, a4, a5, a6, -, -⟩, -⟩ := pT_facts (⟨(i1 : Int), (i2 : Int), (i3 : Int), l.items⟩ : TL) v HK3.out.lst
                    have HK4 := Lib.hid ((HK3.out.head (l' := ⟨(i1 : Int), (i2 : Int), (i3 : Int), l.items⟩) rfl).next ((Below.refl _ _).drew))
                    have hl2 := (tl_cells HK3.out.lst).2.2.2.2.2
                    have HY := Lib.hid (HYE.out ⟨(i1 : Int), (i2 : Int), (i3 : Int), l.items⟩ (by
                      unfold stepO
                      rw [if_pos rfl, headO_yes (HPR.out.trans (by rw [HP0.out])) hnn]
                      rfl))
                    simp only [Nat.add_zero] at n0
                    clear hnn hb3 HNS HPT hvn hll
                    go_wp2
                    go_region
                    go_wp2
                    go_roundw
                    case rel => exact ⟨1, t + 1, _, v, by go_num, by go_num, by omega, by omega, HY, HK4⟩
                    case measure => simp [intOf]; omega
                · have hr0 : (p0.toList == ([108, 105, 115, 116] : List UInt8)) = false := by
                    have := bs_ne hp
                    rwa [show bList.toList = [108, 105, 115, 116] by rw [ByteArray.toList_eq]] at this
                  have HP0 := Lib.hid hp
                  clear hp hws HPT
                  obtain ⟨c0, c1, c2, c3, cl⟩ := HK2.out.cells
                  obtain ⟨⟨a1, a2, a3, a4, a5, a6, a7, a8⟩, b1, b2, b3, b4, hb⟩ := prs_zero HK2.out.res HK2.out.below (Nat.le_refl _)
                  have HBF := Lib.hid hb
                  have HE := Lib.hid (show parseF text = (zTL, 1, 3) from HNO.out (by unfold stepO; rw [if_pos rfl, headO_word HPR.out HP0.out]; rfl))
                  clear hb
                  go_wp2
                  refine bodyPost_ret (v := .tuple #[.agg #[.int .i64 0, .int .i64 0, .int .i64 0, .slice none 0 0], .int .i64 1, .int .i64 3]) (by simp [results, Tryz.results19, go_sem, b1, b2, b3, b4]) rfl (prs_none HE.out HBF.out)
              · obtain ⟨Aw, cw, rfl, -⟩ := id hws
                have HQ := Lib.hid hq
                have hqb : (((splBN 32 4 s).length : Int) != 4) = true := by rw [bne_iff_ne]; omega
                clear hws
                obtain ⟨c0, c1, c2, c3, cl⟩ := HK2.out.cells
                obtain ⟨⟨a1, a2, a3, a4, a5, a6, a7, a8⟩, b1, b2, b3, b4, hb⟩ := prs_zero HK2.out.res HK2.out.below (Nat.le_refl _)
                have HBF := Lib.hid hb
                have HE := Lib.hid (show parseF text = (zTL, 1, 3) from HNO.out (by unfold stepO; rw [if_pos rfl, head_not HQ.out]; rfl))
                clear hb
                go_wp2
                refine bodyPost_ret (v := .tuple #[.agg #[.int .i64 0, .int .i64 0, .int .i64 0, .slice none 0 0], .int .i64 1, .int .i64 3]) (by simp [results, Tryz.results19, go_sem, b1, b2, b3, b4]) rfl (prs_none HE.out HBF.out)
            · have hkn : k ≠ 0 := by omega
              have hk1i : ((k : Int) + 1 == 1) = false := by rw [beq_eq_false_iff_ne]; omega
              have HWD := Lib.hid (show Calls Tryz.prog 48 #[.string s, .int .i64 8] wr _ from rwords_c s 7 wr (by omega) (by omega))
              clear hk0
              go_wp2_with fail
              refine HWD.out.mono ?_
              rintro e w2 ⟨vw, rfl, hw, hb2⟩
              have HK2 := Lib.hid (HK.out.next hb2)
              have HS2 := Lib.hid hb2.size
              have hws := hw.toSl strS
              clear hb2 HWD
              by_cases hq : (splBN 32 7 s).length = 8
              · obtain ⟨p0, p1, p2, p3, p4, p5, p6, p7, hpr⟩ := list8 hq
                have hpz : p6.size ≤ 1000000 := Nat.le_trans (splBN_size (c := 32) (n := 7) (s := s) (by rw [hpr]; simp)) (by omega)
                rw [hpr] at hws hw
                obtain ⟨Aw, cw, rfl, hc8, hcm, -⟩ := id hws
                obtain ⟨gw, ow, rfl, hgw, y0⟩ := sl_str hws (i := 0) rfl
                simp only [Nat.add_zero] at y0
                have HPR := Lib.hid hpr
                simp only [List.length_cons, List.length_nil, Nat.zero_add, Nat.reduceAdd] at hc8
                have hc1 : ¬ cw = 1 := by omega
                have hc8i : (8 : Int) ≤ (cw : Int) := by omega
                have hc6i : (6 : Int) ≤ (cw : Int) := by omega
                have HPT := Lib.hid (sl_part hws 1 5 (cw - 1) (by simp) (by omega) (by omega))
                have HW := Lib.hid hw
                clear hpr hq hw
                by_cases hp : p0 = bItem
                · have hr1 : p0.toList = ([105, 116, 101, 109] : List UInt8) := by rw [hp, ByteArray.toList_eq]
                  have HP0 := Lib.hid hp
                  have HNS := Lib.hid (rnumbers_c [p1, p2, p3, p4, p5] _ w2 w2.heap.size (Nat.le_refl _) HPT.out (by simp))
                  have HUH := Lib.hid (fun W => runhex_c p6 W hpz)
                  clear hp hws hpz
                  go_wp2_with fail
                  refine HNS.out.mono ?_
                  rintro e w3 (⟨hnn, rfl, hb3⟩ | ⟨ls, vn, hnn, rfl, hvn, hb3⟩)
                  · have HK3 := Lib.hid (HK2.out.next hb3)
                    have HNN := Lib.hid hnn
                    obtain ⟨_, _, e6, -, y6⟩ := sl_str ((HW.out.below strS hb3).toSl strS) (i := 6) rfl
                    cases e6
                    clear hnn hb3 HNS HPT
                    go_wp2_with fail
                    refine (HUH.out _).mono ?_
                    rintro e w4 ⟨⟨dg, bb, rfl, -⟩, hb4⟩
                    have HK4 := Lib.hid (HK3.out.next hb4)
                    clear hb4 HUH y6
                    obtain ⟨c0, c1, c2, c3, cl⟩ := HK4.out.cells
                    obtain ⟨⟨a1, a2, a3, a4, a5, a6, a7, a8⟩, b1, b2, b3, b4, hb⟩ := prs_zero HK4.out.res HK4.out.below (Nat.le_refl _)
                    have HBF := Lib.hid hb
                    have HE := Lib.hid (show parseF text = (zTL, (k : Int) + 1, 3) from HNO.out (by unfold stepO; rw [if_neg hkn, rowO_nums HPR.out HNN.out]; rfl))
                    clear hb
                    go_wp2
                    refine bodyPost_ret (v := .tuple #[.agg #[.int .i64 0, .int .i64 0, .int .i64 0, .slice none 0 0], .int .i64 ((k : Int) + 1), .int .i64 3]) (by simp [results, Tryz.results19, go_sem, b1, b2, b3, b4]) rfl (prs_none HE.out HBF.out)
                  · have HK3 := Lib.hid (HK2.out.next hb3)
                    have hll := numsO_len hnn
                    obtain ⟨i1, i2, i3, i4, i5, rfl⟩ := list5 hll
                    have HNN := Lib.hid hnn
                    have HW3 := Lib.hid (HW.out.below strS hb3)
                    obtain ⟨_, _, e6, -, y6⟩ := sl_str (HW3.out.toSl strS) (i := 6) rfl
                    cases e6
                    have HVN := Lib.hid hvn
                    obtain ⟨An, cn, e, -, -, -⟩ := id (hvn.toSl intS)
                    have e : vn = .slice An 5 cn := e
                    subst e
                    clear hnn hb3 HNS HPT hvn hll
                    go_wp2_with fail
                    refine (HUH.out _).mono ?_
                    rintro e w4 ⟨⟨dg, bb, rfl, hdg⟩, hb4⟩
                    have HK4 := Lib.hid (HK3.out.next hb4)
                    clear HUH y6
                    rcases hdg with ⟨rfl, hdg⟩ | ⟨rfl, hdg⟩
                    · have HY := Lib.hid (HYE.out ⟨l.id, l.office, l.day, l.items ++ [(⟨(i1 : Int), (i2 : Int), p7, (i3 : Int), (i4 : Int), (i5 : Int), dg⟩ : Item)]⟩ (by
                        unfold stepO
                        rw [if_neg hkn, rowO_yes (HPR.out.trans (by rw [HP0.out])) HNN.out hdg]
                        rfl))
                      have hvn4 := HVN.out.below intS hb4
                      have hw4 := HW3.out.below strS hb4
                      have hvn := hvn4.toSl intS
                      obtain ⟨gn, on, rfl, hgn, n0⟩ := Ints.at_ hvn (i := 0) (x := (i1 : Int)) rfl
                      obtain ⟨_, _, e1, -, n1⟩ := Ints.at_ hvn (i := 1) (x := (i2 : Int)) rfl
                      cases e1
                      obtain ⟨_, _, e1, -, n2⟩ := Ints.at_ hvn (i := 2) (x := (i3 : Int)) rfl
                      cases e1
                      obtain ⟨_, _, e1, -, n3⟩ := Ints.at_ hvn (i := 3) (x := (i4 : Int)) rfl
                      cases e1
                      obtain ⟨_, _, e1, -, n4⟩ := Ints.at_ hvn (i := 4) (x := (i5 : Int)) rfl
                      cases e1
                      obtain ⟨_, _, e7, hgw7, y7⟩ := sl_str (hw4.toSl strS) (i := 7) rfl
                      cases e7
                      simp only [Nat.add_zero] at n0
                      have hgl := hvn4.own_lt gn rfl
                      have hwl := hw4.own_lt gw rfl
                      obtain ⟨-, -, -, l3, lf, ll⟩ := tl_cells HK4.out.lst
                      obtain ⟨Ao, no, co, e9, HNO9⟩ := own_form itmS HK4.out.own
                      subst e9
                      have hvb : ∀ b, (Value.slice Ao no co).ownBlock = some b → b < wr.heap.size := fun b hb => (HK.out.own.own_lt b hb).2
                      have kD1 : Below w4.heap.size w4 ((w4.alloc (.cells #[.int .i64 (i1 : Int), .int .i64 (i2 : Int), .string p7, .int .i64 (i3 : Int), .int .i64 (i4 : Int), .int .i64 (i5 : Int), .string dg] 47)).drew) := ((Below.refl w4.heap.size w4).alloc (Nat.le_refl _) _).drew
                      have HK5 := Lib.hid (HK4.out.next kD1)
                      have hs3 := HK.out.size
                      have hs2 := HS2.out
                      have KEEP := Lib.hid (fun (W : World) (hW : Below w4.heap.size w4 W) => (⟨(hW.cell (p := ⟨gn, on, none⟩) hgl.2).trans n0, (hW.cell (p := ⟨gn, on + 1, none⟩) hgl.2).trans n1, (hW.cell (p := ⟨gn, on + 2, none⟩) hgl.2).trans n2, (hW.cell (p := ⟨gn, on + 3, none⟩) hgl.2).trans n3, (hW.cell (p := ⟨gn, on + 4, none⟩) hgl.2).trans n4, (hW.cell (p := ⟨gw, ow + 7, none⟩) hwl.2).trans y7⟩ : W.cell? ⟨gn, on, none⟩ = some (.int .i64 (i1 : Int)) ∧ W.cell? ⟨gn, on + 1, none⟩ = some (.int .i64 (i2 : Int)) ∧ W.cell? ⟨gn, on + 2, none⟩ = some (.int .i64 (i3 : Int)) ∧ W.cell? ⟨gn, on + 3, none⟩ = some (.int .i64 (i4 : Int)) ∧ W.cell? ⟨gn, on + 4, none⟩ = some (.int .i64 (i5 : Int)) ∧ W.cell? ⟨gw, ow + 7, none⟩ = some (.string p7)))
                      have KEEPG := Lib.hid (fun (W6 : World) (hg : ((w4.alloc (.cells #[.int .i64 (i1 : Int), .int .i64 (i2 : Int), .string p7, .int .i64 (i3 : Int), .int .i64 (i4 : Int), .int .i64 (i5 : Int), .string dg] 47)).drew).grownBy W6 (Value.slice Ao no co).ownBlock) => (by
                        obtain ⟨q0, q1, q2, q3, q4, q5⟩ := KEEP.out _ kD1
                        have d1 : gn < ((w4.alloc (.cells #[.int .i64 (i1 : Int), .int .i64 (i2 : Int), .string p7, .int .i64 (i3 : Int), .int .i64 (i4 : Int), .int .i64 (i5 : Int), .string dg] 47)).drew).heap.size := Nat.lt_of_lt_of_le hgl.2 kD1.size
                        have d2 : gw < ((w4.alloc (.cells #[.int .i64 (i1 : Int), .int .i64 (i2 : Int), .string p7, .int .i64 (i3 : Int), .int .i64 (i4 : Int), .int .i64 (i5 : Int), .string dg] 47)).drew).heap.size := Nat.lt_of_lt_of_le hwl.2 kD1.size
                        have m1 : some gn ≠ (Value.slice Ao no co).ownBlock := fun e => by have := hvb gn e.symm; omega
                        have m2 : some gw ≠ (Value.slice Ao no co).ownBlock := fun e => by have := hvb gw e.symm; omega
                        have t : W6.cell? ⟨gn, on, none⟩ = some (.int .i64 (i1 : Int)) ∧ W6.cell? ⟨gn, on + 1, none⟩ = some (.int .i64 (i2 : Int)) ∧ W6.cell? ⟨gn, on + 2, none⟩ = some (.int .i64 (i3 : Int)) ∧ W6.cell? ⟨gn, on + 3, none⟩ = some (.int .i64 (i4 : Int)) ∧ W6.cell? ⟨gn, on + 4, none⟩ = some (.int .i64 (i5 : Int)) ∧ W6.cell? ⟨gw, ow + 7, none⟩ = some (.string p7) := ⟨(cell_grownR hg d1 m1).trans q0, (cell_grownR hg d1 m1).trans q1, (cell_grownR hg d1 m1).trans q2, (cell_grownR hg d1 m1).trans q3, (cell_grownR hg d1 m1).trans q4, (cell_grownR hg d2 m2).trans q5⟩
                        refine ⟨t, fun v' => ?_⟩
                        obtain ⟨t0, t1, t2, t3, t4, t5⟩ := t
                        have o1 : w.heap.size + 2 ≠ gn := by omega
                        have o2 : w.heap.size + 2 ≠ gw := by omega
                        exact ⟨(World.cell?_setCell_far _ _ _ _ o1).trans t0, (World.cell?_setCell_far _ _ _ _ o1).trans t1, (World.cell?_setCell_far _ _ _ _ o1).trans t2, (World.cell?_setCell_far _ _ _ _ o1).trans t3, (World.cell?_setCell_far _ _ _ _ o1).trans t4, (World.cell?_setCell_far _ _ _ _ o2).trans t5⟩ : (W6.cell? ⟨gn, on, none⟩ = some (.int .i64 (i1 : Int)) ∧ W6.cell? ⟨gn, on + 1, none⟩ = some (.int .i64 (i2 : Int)) ∧ W6.cell? ⟨gn, on + 2, none⟩ = some (.int .i64 (i3 : Int)) ∧ W6.cell? ⟨gn, on + 3, none⟩ = some (.int .i64 (i4 : Int)) ∧ W6.cell? ⟨gn, on + 4, none⟩ = some (.int .i64 (i5 : Int)) ∧ W6.cell? ⟨gw, ow + 7, none⟩ = some (.string p7)) ∧ ∀ v' : Value, (W6.setCell ⟨w.heap.size + 2, 3, none⟩ v').cell? ⟨gn, on, none⟩ = some (.int .i64 (i1 : Int)) ∧ (W6.setCell ⟨w.heap.size + 2, 3, none⟩ v').cell? ⟨gn, on + 1, none⟩ = some (.int .i64 (i2 : Int)) ∧ (W6.setCell ⟨w.heap.size + 2, 3, none⟩ v').cell? ⟨gn, on + 2, none⟩ = some (.int .i64 (i3 : Int)) ∧ (W6.setCell ⟨w.heap.size + 2, 3, none⟩ v').cell? ⟨gn, on + 3, none⟩ = some (.int .i64 (i4 : Int)) ∧ (W6.setCell ⟨w.heap.size + 2, 3, none⟩ v').cell? ⟨gn, on + 4, none⟩ = some (.int .i64 (i5 : Int)) ∧ (W6.setCell ⟨w.heap.size + 2, 3, none⟩ v').cell? ⟨gw, ow + 7, none⟩ = some (.string p7)))
                      have kA := HK5.out.own
                      have kS : SlRep 7 (flat Item.enc) ((w4.alloc (.cells #[.int .i64 (i1 : Int), .int .i64 (i2 : Int), .string p7, .int .i64 (i3 : Int), .int .i64 (i4 : Int), .int .i64 (i5 : Int), .string dg] 47)).drew) (fun b => b = w4.heap.size) [(⟨(i1 : Int), (i2 : Int), p7, (i3 : Int), (i4 : Int), (i5 : Int), dg⟩ : Item)] (.slice (some ⟨w4.heap.size, 0, none⟩) 1 1) := sl_at itmS (css := [Item.enc (⟨(i1 : Int), (i2 : Int), p7, (i3 : Int), (i4 : Int), (i5 : Int), dg⟩ : Item)]) rfl (heap_newA w4 _) flat_one rfl rfl (by simp)
                      have kF : ∀ b, b = w4.heap.size → b < ((w4.alloc (.cells #[.int .i64 (i1 : Int), .int .i64 (i2 : Int), .string p7, .int .i64 (i3 : Int), .int .i64 (i4 : Int), .int .i64 (i5 : Int), .string dg] 47)).drew).heap.size ∧ (Value.slice Ao no co).ownBlock ≠ some b := fun b hb => ⟨by rw [hb]; show _ < (w4.heap.push _).size; simp, fun e => by have := HK4.out.own.own_lt _ e; omega⟩
                      have kN : l.items.length + ([(⟨(i1 : Int), (i2 : Int), p7, (i3 : Int), (i4 : Int), (i5 : Int), dg⟩ : Item)] : List Item).length ≤ 4294967296 := by have := HK4.out.len; simp only [List.length_cons, List.length_nil]; omega
                      have kB : w.heap.size + 3 ≤ ((w4.alloc (.cells #[.int .i64 (i1 : Int), .int .i64 (i2 : Int), .string p7, .int .i64 (i3 : Int), .int .i64 (i4 : Int), .int .i64 (i5 : Int), .string dg] 47)).drew).heap.size := HK5.out.size
                      have kD0 : Below w4.heap.size w4 w4.drew := (Below.refl _ _).drew
                      clear hdg hb4 hvn n0 n1 n2 n3 n4 y7 hvn4 hw4 hgl hwl hs3 hvb hgw7 hgn hgw y0 lf
                      go_wp2
                      refine wp_region_held_drew (S := fun W => W.cell? ⟨gn, on, none⟩ = some (.int .i64 (i1 : Int)) ∧ W.cell? ⟨gn, on + 1, none⟩ = some (.int .i64 (i2 : Int)) ∧ W.cell? ⟨gn, on + 2, none⟩ = some (.int .i64 (i3 : Int)) ∧ W.cell? ⟨gn, on + 3, none⟩ = some (.int .i64 (i4 : Int)) ∧ W.cell? ⟨gn, on + 4, none⟩ = some (.int .i64 (i5 : Int)) ∧ W.cell? ⟨gw, ow + 7, none⟩ = some (.string p7)) (by kernel_rfl) (by with_reducible exact KEEP.out _ kD0) (fun hHeld0 => ?_)
                      refine wpAnyH_take (i := 0) (oi := { dst := some 130, op := Go.Op.fieldAddr 24 (Go.Operand.tmp 6) 3, type := 0, pos := "ref.go:276", after := #[], guard := none }) (v := ?_) rfl (by kernel_rfl) (by kernel_rfl) (by kernel_rfl) (fun _ _ _ h => h) (Or.inl ⟨by rfl, ?_⟩) hHeld0 ?_
                      rotate_left
                      · intro w hSw
                        (try dsimp only at hSw)
                        go_simp
                        (try with_reducible rfl)
                      (try simp only [Act.put, List.setIfInBounds_toArray, List.set_cons_zero, List.set_cons_succ])
                      refine wpAnyH_take (i := 2) (oi := { dst := some 132, op := Go.Op.move (Go.Operand.tmp 15), type := 33, pos := "ref.go:276", after := #[], guard := none }) (v := ?_) rfl (by kernel_rfl) (by kernel_rfl) (by kernel_rfl) (fun _ _ _ h => h) (Or.inl ⟨by rfl, ?_⟩) hHeld0 ?_
                      rotate_left
                      · intro w hSw
                        (try dsimp only at hSw)
                        go_simp
                        (try with_reducible rfl)
                      (try simp only [Act.put, List.setIfInBounds_toArray, List.set_cons_zero, List.set_cons_succ])
                      refine wpAnyH_take (i := 3) (oi := { dst := some 133, op := Go.Op.indexAddr 33 (Go.Operand.tmp 132) (Go.Operand.const (Go.Value.int Go.IntKind.i64 0)), type := 0, pos := "ref.go:276", after := #[{ on := 2, ground := Go.Ground.data }], guard := none }) (v := ?_) rfl (by kernel_rfl) (by kernel_rfl) (by kernel_rfl) (fun _ _ _ h => h) (Or.inl ⟨by rfl, ?_⟩) hHeld0 ?_
                      rotate_left
                      · intro w hSw
                        (try dsimp only at hSw)
                        go_simp
                        (try with_reducible rfl)
                      (try simp only [Act.put, List.setIfInBounds_toArray, List.set_cons_zero, List.set_cons_succ])
                      refine wpAnyH_take (i := 4) (oi := { dst := some 134, op := Go.Op.load 3 (Go.Operand.tmp 133), type := 3, pos := "ref.go:276", after := #[{ on := 3, ground := Go.Ground.data }], guard := none }) (v := ?_) rfl (by kernel_rfl) (by kernel_rfl) (by kernel_rfl) (fun _ _ _ h => h) (Or.inl ⟨by rfl, ?_⟩) hHeld0 ?_
                      rotate_left
                      · intro w hSw
                        (try dsimp only at hSw)
                        go_simp
                        (try with_reducible rfl)
                      (try simp only [Act.put, List.setIfInBounds_toArray, List.set_cons_zero, List.set_cons_succ])
                      refine wpAnyH_take (i := 5) (oi := { dst := some 135, op := Go.Op.move (Go.Operand.tmp 15), type := 33, pos := "ref.go:276", after := #[], guard := none }) (v := ?_) rfl (by kernel_rfl) (by kernel_rfl) (by kernel_rfl) (fun _ _ _ h => h) (Or.inl ⟨by rfl, ?_⟩) hHeld0 ?_
                      rotate_left
                      · intro w hSw
                        (try dsimp only at hSw)
                        go_simp
                        (try with_reducible rfl)
                      (try simp only [Act.put, List.setIfInBounds_toArray, List.set_cons_zero, List.set_cons_succ])
                      refine wpAnyH_take (i := 6) (oi := { dst := some 136, op := Go.Op.indexAddr 33 (Go.Operand.tmp 135) (Go.Operand.const (Go.Value.int Go.IntKind.i64 1)), type := 0, pos := "ref.go:276", after := #[{ on := 5, ground := Go.Ground.data }], guard := none }) (v := ?_) rfl (by kernel_rfl) (by kernel_rfl) (by kernel_rfl) (fun _ _ _ h => h) (Or.inl ⟨by rfl, ?_⟩) hHeld0 ?_
                      rotate_left
                      · intro w hSw
                        (try dsimp only at hSw)
                        go_simp
                        (try with_reducible rfl)
                      (try simp only [Act.put, List.setIfInBounds_toArray, List.set_cons_zero, List.set_cons_succ])
                      refine wpAnyH_take (i := 7) (oi := { dst := some 137, op := Go.Op.load 3 (Go.Operand.tmp 136), type := 3, pos := "ref.go:276", after := #[{ on := 6, ground := Go.Ground.data }], guard := none }) (v := ?_) rfl (by kernel_rfl) (by kernel_rfl) (by kernel_rfl) (fun _ _ _ h => h) (Or.inl ⟨by rfl, ?_⟩) hHeld0 ?_
                      rotate_left
                      · intro w hSw
                        (try dsimp only at hSw)
                        go_simp
                        (try with_reducible rfl)
                      (try simp only [Act.put, List.setIfInBounds_toArray, List.set_cons_zero, List.set_cons_succ])
                      refine wpAnyH_take (i := 8) (oi := { dst := some 138, op := Go.Op.move (Go.Operand.tmp 14), type := 74, pos := "ref.go:276", after := #[], guard := none }) (v := ?_) rfl (by kernel_rfl) (by kernel_rfl) (by kernel_rfl) (fun _ _ _ h => h) (Or.inl ⟨by rfl, ?_⟩) hHeld0 ?_
                      rotate_left
                      · intro w hSw
                        (try dsimp only at hSw)
                        go_simp
                        (try with_reducible rfl)
                      (try simp only [Act.put, List.setIfInBounds_toArray, List.set_cons_zero, List.set_cons_succ])
                      refine wpAnyH_take (i := 9) (oi := { dst := some 139, op := Go.Op.indexAddr 74 (Go.Operand.tmp 138) (Go.Operand.const (Go.Value.int Go.IntKind.i64 7)), type := 0, pos := "ref.go:276", after := #[{ on := 8, ground := Go.Ground.data }], guard := none }) (v := ?_) rfl (by kernel_rfl) (by kernel_rfl) (by kernel_rfl) (fun _ _ _ h => h) (Or.inl ⟨by rfl, ?_⟩) hHeld0 ?_
                      rotate_left
                      · intro w hSw
                        (try dsimp only at hSw)
                        go_simp
                        (try with_reducible rfl)
                      (try simp only [Act.put, List.setIfInBounds_toArray, List.set_cons_zero, List.set_cons_succ])
                      refine wpAnyH_take (i := 10) (oi := { dst := some 140, op := Go.Op.load 9 (Go.Operand.tmp 139), type := 9, pos := "ref.go:276", after := #[{ on := 9, ground := Go.Ground.data }], guard := none }) (v := ?_) rfl (by kernel_rfl) (by kernel_rfl) (by kernel_rfl) (fun _ _ _ h => h) (Or.inl ⟨by rfl, ?_⟩) hHeld0 ?_
                      rotate_left
                      · intro w hSw
                        (try dsimp only at hSw)
                        go_simp
                        (try with_reducible rfl)
                      (try simp only [Act.put, List.setIfInBounds_toArray, List.set_cons_zero, List.set_cons_succ])
                      refine wpAnyH_take (i := 11) (oi := { dst := some 141, op := Go.Op.move (Go.Operand.tmp 15), type := 33, pos := "ref.go:276", after := #[], guard := none }) (v := ?_) rfl (by kernel_rfl) (by kernel_rfl) (by kernel_rfl) (fun _ _ _ h => h) (Or.inl ⟨by rfl, ?_⟩) hHeld0 ?_
                      rotate_left
                      · intro w hSw
                        (try dsimp only at hSw)
                        go_simp
                        (try with_reducible rfl)
                      (try simp only [Act.put, List.setIfInBounds_toArray, List.set_cons_zero, List.set_cons_succ])
                      refine wpAnyH_take (i := 12) (oi := { dst := some 142, op := Go.Op.indexAddr 33 (Go.Operand.tmp 141) (Go.Operand.const (Go.Value.int Go.IntKind.i64 2)), type := 0, pos := "ref.go:276", after := #[{ on := 11, ground := Go.Ground.data }], guard := none }) (v := ?_) rfl (by kernel_rfl) (by kernel_rfl) (by kernel_rfl) (fun _ _ _ h => h) (Or.inl ⟨by rfl, ?_⟩) hHeld0 ?_
                      rotate_left
                      · intro w hSw
                        (try dsimp only at hSw)
                        go_simp
                        (try with_reducible rfl)
                      (try simp only [Act.put, List.setIfInBounds_toArray, List.set_cons_zero, List.set_cons_succ])
                      refine wpAnyH_take (i := 13) (oi := { dst := some 143, op := Go.Op.load 3 (Go.Operand.tmp 142), type := 3, pos := "ref.go:276", after := #[{ on := 12, ground := Go.Ground.data }], guard := none }) (v := ?_) rfl (by kernel_rfl) (by kernel_rfl) (by kernel_rfl) (fun _ _ _ h => h) (Or.inl ⟨by rfl, ?_⟩) hHeld0 ?_
                      rotate_left
                      · intro w hSw
                        (try dsimp only at hSw)
                        go_simp
                        (try with_reducible rfl)
                      (try simp only [Act.put, List.setIfInBounds_toArray, List.set_cons_zero, List.set_cons_succ])
                      refine wpAnyH_take (i := 14) (oi := { dst := some 144, op := Go.Op.move (Go.Operand.tmp 15), type := 33, pos := "ref.go:276", after := #[], guard := none }) (v := ?_) rfl (by kernel_rfl) (by kernel_rfl) (by kernel_rfl) (fun _ _ _ h => h) (Or.inl ⟨by rfl, ?_⟩) hHeld0 ?_
                      rotate_left
                      · intro w hSw
                        (try dsimp only at hSw)
                        go_simp
                        (try with_reducible rfl)
                      (try simp only [Act.put, List.setIfInBounds_toArray, List.set_cons_zero, List.set_cons_succ])
                      refine wpAnyH_take (i := 15) (oi := { dst := some 145, op := Go.Op.indexAddr 33 (Go.Operand.tmp 144) (Go.Operand.const (Go.Value.int Go.IntKind.i64 3)), type := 0, pos := "ref.go:276", after := #[{ on := 14, ground := Go.Ground.data }], guard := none }) (v := ?_) rfl (by kernel_rfl) (by kernel_rfl) (by kernel_rfl) (fun _ _ _ h => h) (Or.inl ⟨by rfl, ?_⟩) hHeld0 ?_
                      rotate_left
                      · intro w hSw
                        (try dsimp only at hSw)
                        go_simp
                        (try with_reducible rfl)
                      (try simp only [Act.put, List.setIfInBounds_toArray, List.set_cons_zero, List.set_cons_succ])
                      refine wpAnyH_take (i := 16) (oi := { dst := some 146, op := Go.Op.load 3 (Go.Operand.tmp 145), type := 3, pos := "ref.go:276", after := #[{ on := 15, ground := Go.Ground.data }], guard := none }) (v := ?_) rfl (by kernel_rfl) (by kernel_rfl) (by kernel_rfl) (fun _ _ _ h => h) (Or.inl ⟨by rfl, ?_⟩) hHeld0 ?_
                      rotate_left
                      · intro w hSw
                        (try dsimp only at hSw)
                        go_simp
                        (try with_reducible rfl)
                      (try simp only [Act.put, List.setIfInBounds_toArray, List.set_cons_zero, List.set_cons_succ])
                      refine wpAnyH_take (i := 17) (oi := { dst := some 147, op := Go.Op.build 28 #[(0, Go.Operand.tmp 143), (1, Go.Operand.tmp 146)], type := 28, pos := "ref.go:276", after := #[{ on := 13, ground := Go.Ground.data }, { on := 16, ground := Go.Ground.data }], guard := none }) (v := ?_) rfl (by kernel_rfl) (by kernel_rfl) (by kernel_rfl) (fun _ _ _ h => h) (Or.inl ⟨by rfl, ?_⟩) hHeld0 ?_
                      rotate_left
                      · intro w hSw
                        (try dsimp only at hSw)
                        go_simp
                        (try with_reducible rfl)
                      (try simp only [Act.put, List.setIfInBounds_toArray, List.set_cons_zero, List.set_cons_succ])
                      refine wpAnyH_take (i := 18) (oi := { dst := some 148, op := Go.Op.move (Go.Operand.tmp 15), type := 33, pos := "ref.go:276", after := #[], guard := none }) (v := ?_) rfl (by kernel_rfl) (by kernel_rfl) (by kernel_rfl) (fun _ _ _ h => h) (Or.inl ⟨by rfl, ?_⟩) hHeld0 ?_
                      rotate_left
                      · intro w hSw
                        (try dsimp only at hSw)
                        go_simp
                        (try with_reducible rfl)
                      (try simp only [Act.put, List.setIfInBounds_toArray, List.set_cons_zero, List.set_cons_succ])
                      refine wpAnyH_take (i := 19) (oi := { dst := some 149, op := Go.Op.indexAddr 33 (Go.Operand.tmp 148) (Go.Operand.const (Go.Value.int Go.IntKind.i64 4)), type := 0, pos := "ref.go:276", after := #[{ on := 18, ground := Go.Ground.data }], guard := none }) (v := ?_) rfl (by kernel_rfl) (by kernel_rfl) (by kernel_rfl) (fun _ _ _ h => h) (Or.inl ⟨by rfl, ?_⟩) hHeld0 ?_
                      rotate_left
                      · intro w hSw
                        (try dsimp only at hSw)
                        go_simp
                        (try with_reducible rfl)
                      (try simp only [Act.put, List.setIfInBounds_toArray, List.set_cons_zero, List.set_cons_succ])
                      refine wpAnyH_take (i := 20) (oi := { dst := some 150, op := Go.Op.load 3 (Go.Operand.tmp 149), type := 3, pos := "ref.go:276", after := #[{ on := 19, ground := Go.Ground.data }], guard := none }) (v := ?_) rfl (by kernel_rfl) (by kernel_rfl) (by kernel_rfl) (fun _ _ _ h => h) (Or.inl ⟨by rfl, ?_⟩) hHeld0 ?_
                      rotate_left
                      · intro w hSw
                        (try dsimp only at hSw)
                        go_simp
                        (try with_reducible rfl)
                      (try simp only [Act.put, List.setIfInBounds_toArray, List.set_cons_zero, List.set_cons_succ])
                      refine wpAnyH_take (i := 21) (oi := { dst := some 151, op := Go.Op.move (Go.Operand.tmp 17), type := 9, pos := "ref.go:276", after := #[], guard := none }) (v := ?_) rfl (by kernel_rfl) (by kernel_rfl) (by kernel_rfl) (fun _ _ _ h => h) (Or.inl ⟨by rfl, ?_⟩) hHeld0 ?_
                      rotate_left
                      · intro w hSw
                        (try dsimp only at hSw)
                        go_simp
                        (try with_reducible rfl)
                      (try simp only [Act.put, List.setIfInBounds_toArray, List.set_cons_zero, List.set_cons_succ])
                      refine wpAnyH_take (i := 22) (oi := { dst := some 152, op := Go.Op.build 47 #[(0, Go.Operand.tmp 134), (1, Go.Operand.tmp 137), (2, Go.Operand.tmp 140), (3, Go.Operand.tmp 147), (4, Go.Operand.tmp 150), (5, Go.Operand.tmp 151)], type := 47, pos := "ref.go:276", after := #[{ on := 4, ground := Go.Ground.data }, { on := 7, ground := Go.Ground.data }, { on := 10, ground := Go.Ground.data }, { on := 17, ground := Go.Ground.data }, { on := 20, ground := Go.Ground.data }, { on := 21, ground := Go.Ground.data }], guard := none }) (v := ?_) rfl (by kernel_rfl) (by kernel_rfl) (by kernel_rfl) (fun _ _ _ h => h) (Or.inl ⟨by rfl, ?_⟩) hHeld0 ?_
                      rotate_left
                      · intro w hSw
                        (try dsimp only at hSw)
                        go_simp
                        (try with_reducible rfl)
                      (try simp only [Act.put, List.setIfInBounds_toArray, List.set_cons_zero, List.set_cons_succ])
                      refine wpAnyH_ready (rs := [1, 23]) (by kernel_rfl) (by simp) ?_
                      refine AllReadyH.cons (o := { dst := some 131, op := Go.Op.load 22 (Go.Operand.tmp 130), type := 22, pos := "ref.go:276", after := #[{ on := 0, ground := Go.Ground.data }], guard := none }) rfl (fun K hK => ?_) (AllReadyH.cons (o := { dst := some 153, op := Go.Op.buildSlice 22 1 #[(0, Go.Operand.tmp 152)], type := 22, pos := "ref.go:276", after := #[{ on := 22, ground := Go.Ground.data }], guard := none }) rfl (fun K hK => ?_) AllReadyH.nil)
                      ·
                        go_simp
                        refine hK.out _ _ (by first | with_reducible exact KEEP.out _ kD0 | with_reducible exact KEEP.out _ kD1 | with_reducible exact (KEEPG.out _ hg6).1 | with_reducible exact (KEEPG.out _ hg6).2 _) (fun hHeld1 => ?_)
                        clear hK K hHeld0
                        (try simp only [Act.put, List.setIfInBounds_toArray, List.set_cons_zero, List.set_cons_succ])
                        refine wpAnyH_ready (rs := [23]) (by kernel_rfl) (by simp) ?_
                        refine AllReadyH.cons (o := { dst := some 153, op := Go.Op.buildSlice 22 1 #[(0, Go.Operand.tmp 152)], type := 22, pos := "ref.go:276", after := #[{ on := 22, ground := Go.Ground.data }], guard := none }) rfl (fun K hK => ?_) AllReadyH.nil
                        go_simp
                        refine hK.out _ _ (by first | with_reducible exact KEEP.out _ kD0 | with_reducible exact KEEP.out _ kD1 | with_reducible exact (KEEPG.out _ hg6).1 | with_reducible exact (KEEPG.out _ hg6).2 _) (fun hHeld2 => ?_)
                        clear hK K hHeld1
                        (try simp only [Act.put, List.setIfInBounds_toArray, List.set_cons_zero, List.set_cons_succ])
                        refine wpAnyH_ready (rs := [24]) (by kernel_rfl) (by simp) ?_
                        refine AllReadyH.cons (o := { dst := some 154, op := Go.Op.call { callee := Go.Callee.builtin Go.Builtin.append, args := #[Go.Operand.tmp 131, Go.Operand.tmp 153], argTypes := #[22, 22] }, type := 22, pos := "ref.go:276", after := #[{ on := 1, ground := Go.Ground.data }, { on := 23, ground := Go.Ground.data }], guard := none }) rfl (fun K hK => ?_) AllReadyH.nil
                        (refine step_append_rep rfl itmS itmE_ (w.heap.size + 3) (.tmp 131) (.tmp 153) rfl rfl kA rfl (ys := [(⟨(i1 : Int), (i2 : Int), p7, (i3 : Int), (i4 : Int), (i5 : Int), dg⟩ : Item)]) kS kF kN (by decide) kB ?_; intro v6 w6 hown6 hg6 hat6; obtain ⟨g7, g8, g9⟩ := HK5.out.old hg6; have HK6 := Lib.hid (HK5.out.app hg6 hown6); obtain ⟨A6, n6, c6, rfl⟩ : ∃ A n c, v6 = .slice A n c := by (obtain ⟨A, c, h, -⟩ := hown6.toSl itmS; exact ⟨A, _, c, h⟩))
                        refine hK.out _ _ (by first | with_reducible exact KEEP.out _ kD0 | with_reducible exact KEEP.out _ kD1 | with_reducible exact (KEEPG.out _ hg6).1 | with_reducible exact (KEEPG.out _ hg6).2 _) (fun hHeld3 => ?_)
                        clear hK K hHeld2
                        (try simp only [Act.put, List.setIfInBounds_toArray, List.set_cons_zero, List.set_cons_succ])
                        refine wpAnyH_take (i := 25) (oi := { dst := some 155, op := Go.Op.fieldAddr 24 (Go.Operand.tmp 6) 3, type := 0, pos := "ref.go:276", after := #[{ on := 0, ground := Go.Ground.phase }, { on := 1, ground := Go.Ground.phase }, { on := 2, ground := Go.Ground.phase }, { on := 3, ground := Go.Ground.phase }, { on := 4, ground := Go.Ground.phase }, { on := 5, ground := Go.Ground.phase }, { on := 6, ground := Go.Ground.phase }, { on := 7, ground := Go.Ground.phase }, { on := 8, ground := Go.Ground.phase }, { on := 9, ground := Go.Ground.phase }, { on := 10, ground := Go.Ground.phase }, { on := 11, ground := Go.Ground.phase }, { on := 12, ground := Go.Ground.phase }, { on := 13, ground := Go.Ground.phase }, { on := 14, ground := Go.Ground.phase }, { on := 15, ground := Go.Ground.phase }, { on := 16, ground := Go.Ground.phase }, { on := 17, ground := Go.Ground.phase }, { on := 18, ground := Go.Ground.phase }, { on := 19, ground := Go.Ground.phase }, { on := 20, ground := Go.Ground.phase }, { on := 21, ground := Go.Ground.phase }, { on := 22, ground := Go.Ground.phase }, { on := 23, ground := Go.Ground.phase }, { on := 24, ground := Go.Ground.phase }], guard := none }) (v := ?_) rfl (by kernel_rfl) (by kernel_rfl) (by kernel_rfl) (fun _ _ _ h => h) (Or.inl ⟨by rfl, ?_⟩) hHeld3 ?_
                        rotate_left
                        · intro w hSw
                          (try dsimp only at hSw)
                          go_simp
                          (try with_reducible rfl)
                        (try simp only [Act.put, List.setIfInBounds_toArray, List.set_cons_zero, List.set_cons_succ])
                        refine wpAnyH_ready (rs := [26]) (by kernel_rfl) (by simp) ?_
                        refine AllReadyH.cons (o := { dst := none, op := Go.Op.store 22 (Go.Operand.tmp 155) (Go.Operand.tmp 154), type := 0, pos := "ref.go:276", after := #[{ on := 25, ground := Go.Ground.data }, { on := 24, ground := Go.Ground.data }, { on := 24, ground := Go.Ground.chain }, { on := 0, ground := Go.Ground.phase }, { on := 1, ground := Go.Ground.phase }, { on := 2, ground := Go.Ground.phase }, { on := 3, ground := Go.Ground.phase }, { on := 4, ground := Go.Ground.phase }, { on := 5, ground := Go.Ground.phase }, { on := 6, ground := Go.Ground.phase }, { on := 7, ground := Go.Ground.phase }, { on := 8, ground := Go.Ground.phase }, { on := 9, ground := Go.Ground.phase }, { on := 10, ground := Go.Ground.phase }, { on := 11, ground := Go.Ground.phase }, { on := 12, ground := Go.Ground.phase }, { on := 13, ground := Go.Ground.phase }, { on := 14, ground := Go.Ground.phase }, { on := 15, ground := Go.Ground.phase }, { on := 16, ground := Go.Ground.phase }, { on := 17, ground := Go.Ground.phase }, { on := 18, ground := Go.Ground.phase }, { on := 19, ground := Go.Ground.phase }, { on := 20, ground := Go.Ground.phase }, { on := 21, ground := Go.Ground.phase }, { on := 22, ground := Go.Ground.phase }, { on := 23, ground := Go.Ground.phase }, { on := 24, ground := Go.Ground.phase }], guard := none }) rfl (fun K hK => ?_) AllReadyH.nil
                        go_simp
                        refine hK.out _ _ (by first | with_reducible exact KEEP.out _ kD0 | with_reducible exact KEEP.out _ kD1 | with_reducible exact (KEEPG.out _ hg6).1 | with_reducible exact (KEEPG.out _ hg6).2 _) (fun hHeld4 => ?_)
                        clear hK K hHeld3
                        (try simp only [Act.put, List.setIfInBounds_toArray, List.set_cons_zero, List.set_cons_succ])
                        refine wpAnyH_done (by kernel_rfl) ?_ _
                        (clear hown6 hg6 hat6; go_wp2; go_roundw)
                        case rel => exact ⟨k + 1, t + 1, _, _, by go_num, by go_num, by omega, by omega, HY, HK6⟩
                        case measure => simp [intOf]; omega
                      ·
                        go_simp
                        refine hK.out _ _ (by first | with_reducible exact KEEP.out _ kD0 | with_reducible exact KEEP.out _ kD1 | with_reducible exact (KEEPG.out _ hg6).1 | with_reducible exact (KEEPG.out _ hg6).2 _) (fun hHeld1 => ?_)
                        clear hK K hHeld0
                        (try simp only [Act.put, List.setIfInBounds_toArray, List.set_cons_zero, List.set_cons_succ])
                        refine wpAnyH_ready (rs := [1]) (by kernel_rfl) (by simp) ?_
                        refine AllReadyH.cons (o := { dst := some 131, op := Go.Op.load 22 (Go.Operand.tmp 130), type := 22, pos := "ref.go:276", after := #[{ on := 0, ground := Go.Ground.data }], guard := none }) rfl (fun K hK => ?_) AllReadyH.nil
                        go_simp
                        refine hK.out _ _ (by first | with_reducible exact KEEP.out _ kD0 | with_reducible exact KEEP.out _ kD1 | with_reducible exact (KEEPG.out _ hg6).1 | with_reducible exact (KEEPG.out _ hg6).2 _) (fun hHeld2 => ?_)
                        clear hK K hHeld1
                        (try simp only [Act.put, List.setIfInBounds_toArray, List.set_cons_zero, List.set_cons_succ])
                        refine wpAnyH_ready (rs := [24]) (by kernel_rfl) (by simp) ?_
                        refine AllReadyH.cons (o := { dst := some 154, op := Go.Op.call { callee := Go.Callee.builtin Go.Builtin.append, args := #[Go.Operand.tmp 131, Go.Operand.tmp 153], argTypes := #[22, 22] }, type := 22, pos := "ref.go:276", after := #[{ on := 1, ground := Go.Ground.data }, { on := 23, ground := Go.Ground.data }], guard := none }) rfl (fun K hK => ?_) AllReadyH.nil
                        (refine step_append_rep rfl itmS itmE_ (w.heap.size + 3) (.tmp 131) (.tmp 153) rfl rfl kA rfl (ys := [(⟨(i1 : Int), (i2 : Int), p7, (i3 : Int), (i4 : Int), (i5 : Int), dg⟩ : Item)]) kS kF kN (by decide) kB ?_; intro v6 w6 hown6 hg6 hat6; obtain ⟨g7, g8, g9⟩ := HK5.out.old hg6; have HK6 := Lib.hid (HK5.out.app hg6 hown6); obtain ⟨A6, n6, c6, rfl⟩ : ∃ A n c, v6 = .slice A n c := by (obtain ⟨A, c, h, -⟩ := hown6.toSl itmS; exact ⟨A, _, c, h⟩))
                        refine hK.out _ _ (by first | with_reducible exact KEEP.out _ kD0 | with_reducible exact KEEP.out _ kD1 | with_reducible exact (KEEPG.out _ hg6).1 | with_reducible exact (KEEPG.out _ hg6).2 _) (fun hHeld3 => ?_)
                        clear hK K hHeld2
                        (try simp only [Act.put, List.setIfInBounds_toArray, List.set_cons_zero, List.set_cons_succ])
                        refine wpAnyH_take (i := 25) (oi := { dst := some 155, op := Go.Op.fieldAddr 24 (Go.Operand.tmp 6) 3, type := 0, pos := "ref.go:276", after := #[{ on := 0, ground := Go.Ground.phase }, { on := 1, ground := Go.Ground.phase }, { on := 2, ground := Go.Ground.phase }, { on := 3, ground := Go.Ground.phase }, { on := 4, ground := Go.Ground.phase }, { on := 5, ground := Go.Ground.phase }, { on := 6, ground := Go.Ground.phase }, { on := 7, ground := Go.Ground.phase }, { on := 8, ground := Go.Ground.phase }, { on := 9, ground := Go.Ground.phase }, { on := 10, ground := Go.Ground.phase }, { on := 11, ground := Go.Ground.phase }, { on := 12, ground := Go.Ground.phase }, { on := 13, ground := Go.Ground.phase }, { on := 14, ground := Go.Ground.phase }, { on := 15, ground := Go.Ground.phase }, { on := 16, ground := Go.Ground.phase }, { on := 17, ground := Go.Ground.phase }, { on := 18, ground := Go.Ground.phase }, { on := 19, ground := Go.Ground.phase }, { on := 20, ground := Go.Ground.phase }, { on := 21, ground := Go.Ground.phase }, { on := 22, ground := Go.Ground.phase }, { on := 23, ground := Go.Ground.phase }, { on := 24, ground := Go.Ground.phase }], guard := none }) (v := ?_) rfl (by kernel_rfl) (by kernel_rfl) (by kernel_rfl) (fun _ _ _ h => h) (Or.inl ⟨by rfl, ?_⟩) hHeld3 ?_
                        rotate_left
                        · intro w hSw
                          (try dsimp only at hSw)
                          go_simp
                          (try with_reducible rfl)
                        (try simp only [Act.put, List.setIfInBounds_toArray, List.set_cons_zero, List.set_cons_succ])
                        refine wpAnyH_ready (rs := [26]) (by kernel_rfl) (by simp) ?_
                        refine AllReadyH.cons (o := { dst := none, op := Go.Op.store 22 (Go.Operand.tmp 155) (Go.Operand.tmp 154), type := 0, pos := "ref.go:276", after := #[{ on := 25, ground := Go.Ground.data }, { on := 24, ground := Go.Ground.data }, { on := 24, ground := Go.Ground.chain }, { on := 0, ground := Go.Ground.phase }, { on := 1, ground := Go.Ground.phase }, { on := 2, ground := Go.Ground.phase }, { on := 3, ground := Go.Ground.phase }, { on := 4, ground := Go.Ground.phase }, { on := 5, ground := Go.Ground.phase }, { on := 6, ground := Go.Ground.phase }, { on := 7, ground := Go.Ground.phase }, { on := 8, ground := Go.Ground.phase }, { on := 9, ground := Go.Ground.phase }, { on := 10, ground := Go.Ground.phase }, { on := 11, ground := Go.Ground.phase }, { on := 12, ground := Go.Ground.phase }, { on := 13, ground := Go.Ground.phase }, { on := 14, ground := Go.Ground.phase }, { on := 15, ground := Go.Ground.phase }, { on := 16, ground := Go.Ground.phase }, { on := 17, ground := Go.Ground.phase }, { on := 18, ground := Go.Ground.phase }, { on := 19, ground := Go.Ground.phase }, { on := 20, ground := Go.Ground.phase }, { on := 21, ground := Go.Ground.phase }, { on := 22, ground := Go.Ground.phase }, { on := 23, ground := Go.Ground.phase }, { on := 24, ground := Go.Ground.phase }], guard := none }) rfl (fun K hK => ?_) AllReadyH.nil
                        go_simp
                        refine hK.out _ _ (by first | with_reducible exact KEEP.out _ kD0 | with_reducible exact KEEP.out _ kD1 | with_reducible exact (KEEPG.out _ hg6).1 | with_reducible exact (KEEPG.out _ hg6).2 _) (fun hHeld4 => ?_)
                        clear hK K hHeld3
                        (try simp only [Act.put, List.setIfInBounds_toArray, List.set_cons_zero, List.set_cons_succ])
                        refine wpAnyH_done (by kernel_rfl) ?_ _
                        (clear hown6 hg6 hat6; go_wp2; go_roundw)
                        case rel => exact ⟨k + 1, t + 1, _, _, by go_num, by go_num, by omega, by omega, HY, HK6⟩
                        case measure => simp [intOf]; omega
                    · have HDG := Lib.hid hdg
                      clear hdg hb4
                      obtain ⟨c0, c1, c2, c3, cl⟩ := HK4.out.cells
                      obtain ⟨⟨a1, a2, a3, a4, a5, a6, a7, a8⟩, b1, b2, b3, b4, hb⟩ := prs_zero HK4.out.res HK4.out.below (Nat.le_refl _)
                      have HBF := Lib.hid hb
                      have HE := Lib.hid (show parseF text = (zTL, (k : Int) + 1, 3) from HNO.out (by unfold stepO; rw [if_neg hkn, rowO_hex HPR.out HDG.out]; rfl))
                      clear hb
                      go_wp2
                      refine bodyPost_ret (v := .tuple #[.agg #[.int .i64 0, .int .i64 0, .int .i64 0, .slice none 0 0], .int .i64 ((k : Int) + 1), .int .i64 3]) (by simp [results, Tryz.results19, go_sem, b1, b2, b3, b4]) rfl (prs_none HE.out HBF.out)
                · have hr0 : (p0.toList == ([105, 116, 101, 109] : List UInt8)) = false := by
                    have := bs_ne hp
                    rwa [show bItem.toList = [105, 116, 101, 109] by rw [ByteArray.toList_eq]] at this
                  have HP0 := Lib.hid hp
                  clear hp hws HPT
                  obtain ⟨c0, c1, c2, c3, cl⟩ := HK2.out.cells
                  obtain ⟨⟨a1, a2, a3, a4, a5, a6, a7, a8⟩, b1, b2, b3, b4, hb⟩ := prs_zero HK2.out.res HK2.out.below (Nat.le_refl _)
                  have HBF := Lib.hid hb
                  have HE := Lib.hid (show parseF text = (zTL, (k : Int) + 1, 3) from HNO.out (by unfold stepO; rw [if_neg hkn, rowO_word HPR.out HP0.out]; rfl))
                  clear hb
                  go_wp2
                  refine bodyPost_ret (v := .tuple #[.agg #[.int .i64 0, .int .i64 0, .int .i64 0, .slice none 0 0], .int .i64 ((k : Int) + 1), .int .i64 3]) (by simp [results, Tryz.results19, go_sem, b1, b2, b3, b4]) rfl (prs_none HE.out HBF.out)
              · obtain ⟨Aw, cw, rfl, -⟩ := id hws
                have HQ := Lib.hid hq
                have hqb : (((splBN 32 7 s).length : Int) != 8) = true := by rw [bne_iff_ne]; omega
                clear hws
                obtain ⟨c0, c1, c2, c3, cl⟩ := HK2.out.cells
                obtain ⟨⟨a1, a2, a3, a4, a5, a6, a7, a8⟩, b1, b2, b3, b4, hb⟩ := prs_zero HK2.out.res HK2.out.below (Nat.le_refl _)
                have HBF := Lib.hid hb
                have HE := Lib.hid (show parseF text = (zTL, (k : Int) + 1, 3) from HNO.out (by unfold stepO; rw [if_neg hkn, rowO_ne HQ.out]; rfl))
                clear hb
                go_wp2
                refine bodyPost_ret (v := .tuple #[.agg #[.int .i64 0, .int .i64 0, .int .i64 0, .slice none 0 0], .int .i64 ((k : Int) + 1), .int .i64 3]) (by simp [results, Tryz.results19, go_sem, b1, b2, b3, b4]) rfl (prs_none HE.out HBF.out)
          · have hnb : (((text[t]'htl).toNat : Int) != 10) = true := by
              rw [bne_iff_ne]; intro e; exact hn (UInt8.toNat_inj.1 (by show _ = 10; omega))
            have HI2 := Lib.hid (lineI_step HI.out hpt htl' (by rw [HTX.out]; exact hn))
            go_wp2
            go_roundw
            case rel => exact ⟨t + 1, by go_num, by omega, by omega, HI2, trivial⟩
            case measure => simp [intOf]; omega
        · have hts2 : t = text.size := by omega
          have hti : ¬ (t : Int) < (text.size : Int) := by omega
          subst hts2
          obtain ⟨c0, c1, c2, c3, cl⟩ := HK.out.cells
          obtain ⟨⟨a1, a2, a3, a4, a5, a6, a7, a8⟩, b1, b2, b3, b4, hb⟩ := prs_zero HK.out.res HK.out.below (Nat.le_refl _)
          have HBF := Lib.hid hb
          have HE := Lib.hid (pars_cut HP.out HI.out hpt HL.out.symm (.inr (by rw [HL.out]; exact hlt)))
          clear hb
          go_wp2
          refine bodyPost_ret (v := .tuple #[.agg #[.int .i64 0, .int .i64 0, .int .i64 0, .slice none 0 0], .int .i64 ((k : Int) + 1), .int .i64 3]) (by simp [results, Tryz.results19, go_sem, b1, b2, b3, b4]) rfl (prs_none HE.out HBF.out)
    · have hpe : p = text.size := by omega
      subst hpe
      have hpi : ¬ (text.size : Int) < (text.size : Int) := by omega
      by_cases hk0 : k = 0
      · subst hk0
        obtain ⟨wo, hwo⟩ : ∃ wo : World, wo = wr := ⟨_, rfl⟩
        rw [← hwo] at HK ⊢
        clear hwo
        go_wp2
        go_loopw [9] (fun tt wr => tt = .int .i64 text.size ∧ wr = wo) (fun _ _ => 0)
        case atStart => exact ⟨rfl, rfl⟩
        case round =>
          obtain ⟨rfl, rfl⟩ := hrel
          obtain ⟨c0, c1, c2, c3, cl⟩ := HK.out.cells
          obtain ⟨⟨a1, a2, a3, a4, a5, a6, a7, a8⟩, b1, b2, b3, b4, hb⟩ := prs_zero HK.out.res HK.out.below (Nat.le_refl _)
          have HBF := Lib.hid hb
          have HE := Lib.hid (show parseF text = (zTL, 1, 3) from pars_cut HP.out (lineI_start _ _) (Nat.le_refl _) HL.out.symm (.inl rfl))
          clear hb
          go_wp2
          refine bodyPost_ret (v := .tuple #[.agg #[.int .i64 0, .int .i64 0, .int .i64 0, .slice none 0 0], .int .i64 1, .int .i64 3]) (by simp [results, Tryz.results19, go_sem, b1, b2, b3, b4]) rfl (prs_none HE.out HBF.out)
      · have hk0i : ((k : Int) == 0) = false := by rw [beq_eq_false_iff_ne]; omega
        have HEND := Lib.hid (pars_end HP.out (by rw [HL.out]; exact Nat.le_refl _) hk0)
        have HR := Lib.hid (rright_c l v wr wr.heap.size (Nat.le_refl _) (HK.out.own.toSl itmS))
        obtain ⟨c0, c1, c2, c3, -, cl⟩ := tl_cells HK.out.lst
        clear hk0
        go_wp2_with fail
        refine HR.out.mono ?_
        rintro e w2 ⟨rfl, hb2⟩
        have HK2 := Lib.hid (HK.out.next hb2)
        cases hr : rightB l
        · have HEN := Lib.hid (HEND.out.trans (if_pos hr))
          clear hr c0 c1 c2 c3 cl
          obtain ⟨c0, c1, c2, c3, cl⟩ := HK2.out.cells
          obtain ⟨⟨a1, a2, a3, a4, a5, a6, a7, a8⟩, b1, b2, b3, b4, hb⟩ := prs_zero HK2.out.res HK2.out.below (Nat.le_refl _)
          have HBF := Lib.hid hb
          have HE := Lib.hid (HEN.out)
          clear hb
          go_wp2
          refine bodyPost_ret (v := .tuple #[.agg #[.int .i64 0, .int .i64 0, .int .i64 0, .slice none 0 0], .int .i64 (k : Int), .int .i64 1]) (by simp [results, Tryz.results19, go_sem, b1, b2, b3, b4]) rfl (prs_none HE.out HBF.out)
        · have HEN := Lib.hid (HEND.out.trans (if_neg (by rw [hr]; simp)))
          clear hr c0 c1 c2 c3 cl
          obtain ⟨c0, c1, c2, c3, -, cl⟩ := tl_cells HK2.out.lst
          obtain ⟨Av, nv, cv, rfl⟩ : ∃ A n c, v = .slice A n c := by obtain ⟨A, c, h, -⟩ := HK2.out.own.toSl itmS; exact ⟨A, _, c, h⟩
          obtain ⟨⟨a1, a2, a3, a4, a5, a6, a7, a8⟩, b1, b2, b3, b4⟩ := pT_facts l (.slice Av nv cv) HK2.out.res
          go_wp2
          refine bodyPost_ret (v := .tuple #[tlV l (.slice Av nv cv), .int .i64 0, .int .i64 0]) (by simp [results, Tryz.results19, go_sem, b1, b2, b3, b4]) rfl (HK2.out.done HEN.out)
end Go.Proofs.YtenaifmkejmdaaaGreatDoor
