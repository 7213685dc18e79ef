/- The reference of chapter 55: Check, Few, Same. -/
import Derived.Test.YtngodakkdhdmjaaGreatDoorIvK
namespace Go.Proofs.YtngodakkdhdmjaaGreatDoor
open Go.RowKit

theorem beq_strT {a b : ByteArray} (h : a = b) : (a.toList == b.toList) = true := by rw [str_eq, decide_eq_true h]
theorem beq_strF {a b : ByteArray} (h : a ≠ b) : (a.toList == b.toList) = false := by rw [str_eq, decide_eq_false h]
theorem bne_int {a b : Int} (h : a ≠ b) : (a != b) = true := by simpa using h
set_option maxHeartbeats 1000000 in
theorem rbefore5_c (a b : Post) (w : World) :
    Calls Tryz.prog 134 #[pstV a, pstV b] w fun e w' => e = .returned (.bool (pltB a b)) ∧ Below w.heap.size w w' := by
  have hbb : Below w.heap.size w ((w.alloc (pstC a)).alloc (pstC b)) := ((Below.refl _ _).alloc (Nat.le_refl _) _).alloc (by simp) _
  by_cases h1 : a.word = b.word
  · have e1 := beq_strT h1
    by_cases h2 : a.unit = b.unit
    · have e2 : (a.unit != b.unit) = false := by rw [h2]; simp
      by_cases h3 : a.field = b.field
      · have e3 : (a.field != b.field) = false := by rw [h3]; simp
        have HE := Lib.hid (show pltB a b = decide (a.place < b.place) by unfold pltB; rw [if_neg (by simpa using h1), if_neg (by simpa using h2), if_neg (by simpa using h3)])
        clear h1 h2 h3
        go_enter Tryz.func134, Tryz.ntmps134
        go_wp2
        go_ret
        exact ⟨ret_bool HE.out.symm, hbb⟩
      · have e3 := bne_int h3
        have HE := Lib.hid (show pltB a b = decide (a.field < b.field) by unfold pltB; rw [if_neg (by simpa using h1), if_neg (by simpa using h2), if_pos h3])
        clear h1 h2 h3
        go_enter Tryz.func134, Tryz.ntmps134
        go_wp2
        go_ret
        exact ⟨ret_bool HE.out.symm, hbb⟩
    · have e2 := bne_int h2
      have HE := Lib.hid (show pltB a b = decide (a.unit < b.unit) by unfold pltB; rw [if_neg (by simpa using h1), if_pos h2])
      clear h1 h2
      go_enter Tryz.func134, Tryz.ntmps134
      go_wp2
      go_ret
      exact ⟨ret_bool HE.out.symm, hbb⟩
  · have e1 := beq_strF h1
    have HE := Lib.hid (show pltB a b = Op.bytesLess a.word.toList b.word.toList by unfold pltB; rw [if_pos h1]; rfl)
    clear h1
    go_enter Tryz.func134, Tryz.ntmps134
    go_wp2
    go_ret
    exact ⟨ret_bool HE.out.symm, hbb⟩
set_option maxRecDepth 100000 in
set_option maxHeartbeats 4000000 in
theorem rright5_c (p : Post) (w : World) (hs : p.word.size ≤ 1000000) :
    Calls Tryz.prog 133 #[pstV p] w fun e w' => e = .returned (.bool (rightP p)) ∧ Below w.heap.size w w' := by
  have hb : ∀ o, Below w.heap.size w (w.alloc o) := fun o => (Below.refl _ _).alloc (Nat.le_refl _) o
  have H0 := Lib.hid (show p.word.data.toList.all plnB = (p.word.data.toList.drop 0).all plnB from rfl)
  go_enter Tryz.func133, Tryz.ntmps133
  go_wp2
  go_loop [3] (fun i => ∃ k : Nat, k ≤ p.word.size ∧ i = .int .i64 k ∧ Hid (p.word.data.toList.all plnB = (p.word.data.toList.drop k).all plnB)) (fun i => p.word.size - (intOf i).toNat)
  case atStart => exact ⟨0, Nat.zero_le _, rfl, H0⟩
  case round =>
    clear H0
    obtain ⟨k, hk, rfl, hh⟩ := hrel
    by_cases hlt : k < p.word.size
    · have hki : (k : Int) < (p.word.size : Int) := by omega
      have hd := all_at hlt plnB
      cases hp : plnB p.word[k]
      · have HE := Lib.hid (show rightP p = false by
          unfold rightP wordB
          rw [hh.out, hd, hp]
          simp)
        have hn : ((p.word[k].toNat : Int) < 97 ∨ 122 < (p.word[k].toNat : Int)) ∧ ((p.word[k].toNat : Int) < 48 ∨ 57 < (p.word[k].toNat : Int)) := by
          unfold plnB at hp
          simp only [Bool.or_eq_false_iff, decide_eq_false_iff_not] at hp
          omega
        clear hd hh hp
        obtain ⟨h1, h2⟩ := hn
        rcases h1 with h1 | h1
        · have h1' : ¬ 97 ≤ (p.word[k].toNat : Int) := by omega
          rcases h2 with h2 | h2
          · have h2' : ¬ 48 ≤ (p.word[k].toNat : Int) := by omega
            go_wp2
            go_ret
            exact ⟨ret_bool HE.out.symm, hb _⟩
          · have h2' : ¬ (p.word[k].toNat : Int) ≤ 57 := by omega
            have h2'' : 48 ≤ (p.word[k].toNat : Int) := by omega
            go_wp2
            go_ret
            exact ⟨ret_bool HE.out.symm, hb _⟩
        · have h3 : 97 ≤ (p.word[k].toNat : Int) := by omega
          have h4 : 48 ≤ (p.word[k].toNat : Int) := by omega
          have h5 : ¬ (p.word[k].toNat : Int) ≤ 57 := by omega
          have h6 : ¬ (p.word[k].toNat : Int) ≤ 122 := by omega
          clear h2
          go_wp2
          go_ret
          exact ⟨ret_bool HE.out.symm, hb _⟩
      · have HN := Lib.hid (show p.word.data.toList.all plnB = (p.word.data.toList.drop (k + 1)).all plnB by rw [hh.out, hd, hp]; rfl)
        have hn : (97 ≤ (p.word[k].toNat : Int) ∧ (p.word[k].toNat : Int) ≤ 122) ∨ (48 ≤ (p.word[k].toNat : Int) ∧ (p.word[k].toNat : Int) ≤ 57) := by
          unfold plnB at hp
          simp only [Bool.or_eq_true, decide_eq_true_eq] at hp
          omega
        clear hd hh hp
        rcases hn with ⟨h1, h2⟩ | ⟨h1, h2⟩
        · go_wp2
          go_round
          case rel => exact ⟨k + 1, by omega, by go_num, HN⟩
          case measure => simp [intOf]; omega
        · have h3 : ¬ 97 ≤ (p.word[k].toNat : Int) := by omega
          go_wp2
          go_round
          case rel => exact ⟨k + 1, by omega, by go_num, HN⟩
          case measure => simp [intOf]; omega
    · have HE := Lib.hid (show rightP p = (decide (p.word.size ≠ 0) && decide (p.word.size ≤ 4096) && decide (1 ≤ p.unit) && decide (p.unit ≤ 1073741824) && decide (-1 ≤ p.field) && decide (p.field ≠ 0) && decide (p.field ≤ 64) && decide (0 ≤ p.place) && decide (p.place ≤ 4096)) by
        unfold rightP wordB
        rw [hh.out, List.drop_of_length_le (by rw [Array.length_toList]; show p.word.size ≤ k; omega)]
        simp)
      clear hh
      have hsz : (p.word.toList.isEmpty) = decide (p.word.size = 0) := str_empty _
      by_cases hz : p.word.size = 0
      · rw [decide_eq_true hz] at hsz
        go_wp2
        all_goals
          go_ret
          refine ⟨ret_bool ?_, hb _⟩
          rw [HE.out]
          clear HE
          rw [Bool.eq_iff_iff]
          simp only [Bool.and_eq_true, decide_eq_true_eq, Bool.false_eq_true, false_iff, ne_eq]
          omega
      · rw [decide_eq_false hz] at hsz
        go_wp2
        all_goals
          go_ret
          refine ⟨ret_bool ?_, hb _⟩
          rw [HE.out]
          clear HE
          rw [Bool.eq_iff_iff]
          simp only [Bool.and_eq_true, decide_eq_true_eq, Bool.false_eq_true, false_iff, ne_eq]
          omega

set_option maxRecDepth 100000 in
set_option maxHeartbeats 4000000 in
theorem rcheck5_c (l : List Post) (v : Value) (w : World) (B : Nat) (hB : B ≤ w.heap.size) (h : Posts w B l v) (hw : ∀ p ∈ l, p.word.size ≤ 1000000) :
    Calls Tryz.prog 93 #[v] w fun e w' => e = .returned (.int .i64 (chkL l)) ∧ Below w.heap.size w w' := by
  obtain ⟨A, c, rfl, hc1, hc2, _⟩ := id h
  by_cases hbig : l.length ≤ 65536
  · have H0 := Lib.hid (show chkL l = chkG (prevP l 0) (l.drop 0) by unfold chkL; rw [if_neg (by omega)]; rfl)
    have hbg : ¬ (65536 : Int) < (l.length : Int) := by omega
    go_enter Tryz.func93, Tryz.ntmps93
    go_wp2
    go_loopw [3] (fun i wr => ∃ k : Nat, k ≤ l.length ∧ i = .int .i64 k ∧ Hid (chkL l = chkG (prevP l k) (l.drop k)) ∧ Below w.heap.size w wr) (fun i _ => l.length - (intOf i).toNat)
    case atStart => exact ⟨0, Nat.zero_le _, rfl, H0, Below.refl _ _⟩
    case round =>
      clear H0
      obtain ⟨k, hk, rfl, hh, hb⟩ := hrel
      by_cases hlt : k < l.length
      · obtain ⟨x, hx⟩ := get_at l hlt
        have hbs := hb.size
        have hxw := hw x (List.mem_of_getElem? hx)
        have HV := Lib.hid (fun (W : World) => rright5_c x W hxw)
        have hat := chkG_at hx
        obtain ⟨b, off, rfl, hbB, g0, g1, g2, g3⟩ := Posts.at_ (h.below pstS (hb.mono hB)) hx
        have hbw : b < wr.heap.size := by have : b < B := hbB; omega
        have hki : (k : Int) < (l.length : Int) := by omega
        cases hr : rightP x
        · have HE := Lib.hid (show chkL l = 1 by rw [hh.out, hat, if_pos hr])
          rw [hr] at HV
          clear hat hh hx
          go_wp2_with fail
          refine (HV.out _).mono ?_
          rintro e w1 ⟨rfl, hb1⟩
          go_wp2
          go_ret
          exact ⟨ret_int HE.out.symm, hb.trans (hb1.mono hbs)⟩
        · rw [hr] at HV
          rw [if_neg (by rw [hr]; simp)] at hat
          by_cases hz : k = 0
          · subst hz
            have HN := Lib.hid (show chkL l = chkG (prevP l (0 + 1)) (l.drop (0 + 1)) by rw [hh.out, hat, if_neg (by simp [prevP])])
            simp only [Nat.zero_mul, Nat.add_zero] at g0 g1 g2 g3
            clear hat hh hx
            go_wp2_with fail
            refine (HV.out _).mono ?_
            rintro e w1 ⟨rfl, hb1⟩
            go_wp2
            go_quiet (fail)
            go_wp2
            go_roundw
            case rel => exact ⟨1, by omega, rfl, HN, (hb.trans (hb1.mono hbs)).trans (below_of_drew _ ⟨_, rfl⟩)⟩
            case measure => simp [intOf]; omega
          · obtain ⟨q, hq⟩ := get_at l (show k - 1 < l.length by omega)
            have hpv : prevP l k = some q := by unfold prevP; rw [if_neg hz]; exact hq
            have HQ := Lib.hid (fun (W : World) (hW : Below w.heap.size w W) => Posts.at_ (h.below pstS (hW.mono hB)) hq)
            have HX := Lib.hid (fun (W : World) (hW : Below w.heap.size w W) => Posts.at_ (h.below pstS (hW.mono hB)) hx)
            have HCM := Lib.hid (fun (W : World) => rbefore5_c q x W)
            obtain ⟨j, rfl⟩ : ∃ j, k = j + 1 := ⟨k - 1, by omega⟩
            rw [Nat.add_sub_cancel] at HQ hq
            clear hz
            have hz1 : (0 : Int) < (j : Int) + 1 := by omega
            have hz3 : (j : Int) < (l.length : Int) := by omega
            have hz4 : (0 : Int) ≤ (j : Int) := by omega
            have hz7 : (j : Int) + 1 < (l.length : Int) := by omega
            have hz8 : (0 : Int) ≤ (j : Int) + 1 := by omega
            have hz5 : IntKind.i64.wrap (j : Int) = (j : Int) := IntWalk.i64_in _ (by omega)
            have hz6 : IntKind.i64.wrap ((j : Int) + 1 - 1) = (j : Int) := by rw [IntWalk.i64_in _ (by omega)]; omega
            go_wp2_with fail
            refine (HV.out _).mono ?_
            rintro e w1 ⟨rfl, hb1⟩
            have b2 := hb.trans (hb1.mono hbs)
            obtain ⟨_, _, e9, hbB2, p0, p1, p2, p3⟩ := HQ.out _ b2
            cases e9
            obtain ⟨_, _, e9, -, y0, y1, y2, y3⟩ := HX.out _ b2
            cases e9
            have hbw2 : b < w1.heap.size := by have : b < B := hbB2; have := b2.size; omega
            clear g0 g1 g2 g3 hx hq HQ HX
            have hs1 := b2.size
            have hbX : Below w1.heap.size w1 w1.drew := (Below.refl _ _).drew
            have KEEP := Lib.hid (fun (W : World) (hW : Below w1.heap.size w1 W) => (⟨(hW.cell (p := ⟨b, off + j * 4, none⟩) hbw2).trans p0, (hW.cell (p := ⟨b, off + j * 4 + 1, none⟩) hbw2).trans p1, (hW.cell (p := ⟨b, off + j * 4 + 2, none⟩) hbw2).trans p2, (hW.cell (p := ⟨b, off + j * 4 + 3, none⟩) hbw2).trans p3, (hW.cell (p := ⟨b, off + (j + 1) * 4, none⟩) hbw2).trans y0, (hW.cell (p := ⟨b, off + (j + 1) * 4 + 1, none⟩) hbw2).trans y1, (hW.cell (p := ⟨b, off + (j + 1) * 4 + 2, none⟩) hbw2).trans y2, (hW.cell (p := ⟨b, off + (j + 1) * 4 + 3, none⟩) hbw2).trans y3⟩ : W.cell? ⟨b, off + j * 4, none⟩ = some (.string q.word) ∧ W.cell? ⟨b, off + j * 4 + 1, none⟩ = some (.int .i64 q.unit) ∧ W.cell? ⟨b, off + j * 4 + 2, none⟩ = some (.int .i64 q.field) ∧ W.cell? ⟨b, off + j * 4 + 3, none⟩ = some (.int .i64 q.place) ∧ W.cell? ⟨b, off + (j + 1) * 4, none⟩ = some (.string x.word) ∧ W.cell? ⟨b, off + (j + 1) * 4 + 1, none⟩ = some (.int .i64 x.unit) ∧ W.cell? ⟨b, off + (j + 1) * 4 + 2, none⟩ = some (.int .i64 x.field) ∧ W.cell? ⟨b, off + (j + 1) * 4 + 3, none⟩ = some (.int .i64 x.place)))
            have HB2 := Lib.hid b2
            go_wp2
            cases hlt2 : pltB q x
            · have HE := Lib.hid (show chkL l = 5 by rw [hh.out, hat, hpv, if_pos (by simp [hlt2])])
              rw [hlt2] at HCM
              clear hat hh hlt2 hpv
              go_region_held3 (fun W => W.cell? ⟨b, off + j * 4, none⟩ = some (.string q.word) ∧ W.cell? ⟨b, off + j * 4 + 1, none⟩ = some (.int .i64 q.unit) ∧ W.cell? ⟨b, off + j * 4 + 2, none⟩ = some (.int .i64 q.field) ∧ W.cell? ⟨b, off + j * 4 + 3, none⟩ = some (.int .i64 q.place) ∧ W.cell? ⟨b, off + (j + 1) * 4, none⟩ = some (.string x.word) ∧ W.cell? ⟨b, off + (j + 1) * 4 + 1, none⟩ = some (.int .i64 x.unit) ∧ W.cell? ⟨b, off + (j + 1) * 4 + 2, none⟩ = some (.int .i64 x.field) ∧ W.cell? ⟨b, off + (j + 1) * 4 + 3, none⟩ = some (.int .i64 x.place)) (with_reducible exact KEEP.out _ hbX) (first
                | (go_at_call 134; (with_reducible refine (HCM.out _).mono ?_); rintro e w2 ⟨rfl, hb2⟩; have hbX := bnd_call hbX (Nat.le_refl _) hb2))
              go_wp2
              go_ret
              exact ⟨ret_int HE.out.symm, HB2.out.trans (hbX.mono hs1)⟩
            · have HN := Lib.hid (show chkL l = chkG (prevP l (j + 1 + 1)) (l.drop (j + 1 + 1)) by rw [hh.out, hat, hpv, if_neg (by simp [hlt2])])
              rw [hlt2] at HCM
              clear hat hh hlt2 hpv
              go_region_held3 (fun W => W.cell? ⟨b, off + j * 4, none⟩ = some (.string q.word) ∧ W.cell? ⟨b, off + j * 4 + 1, none⟩ = some (.int .i64 q.unit) ∧ W.cell? ⟨b, off + j * 4 + 2, none⟩ = some (.int .i64 q.field) ∧ W.cell? ⟨b, off + j * 4 + 3, none⟩ = some (.int .i64 q.place) ∧ W.cell? ⟨b, off + (j + 1) * 4, none⟩ = some (.string x.word) ∧ W.cell? ⟨b, off + (j + 1) * 4 + 1, none⟩ = some (.int .i64 x.unit) ∧ W.cell? ⟨b, off + (j + 1) * 4 + 2, none⟩ = some (.int .i64 x.field) ∧ W.cell? ⟨b, off + (j + 1) * 4 + 3, none⟩ = some (.int .i64 x.place)) (with_reducible exact KEEP.out _ hbX) (first
                | (go_at_call 134; (with_reducible refine (HCM.out _).mono ?_); rintro e w2 ⟨rfl, hb2⟩; have hbX := bnd_call hbX (Nat.le_refl _) hb2))
              go_wp2
              go_roundw
              case rel => exact ⟨j + 1 + 1, by omega, by go_num, HN, HB2.out.trans (hbX.mono hs1)⟩
              case measure => simp [intOf]; omega
      · have HE := Lib.hid (show chkL l = 0 by rw [hh.out, List.drop_of_length_le (by omega)]; rfl)
        clear hh
        go_wp2
        go_ret
        exact ⟨ret_int HE.out.symm, hb⟩
  · have HE := Lib.hid (show chkL l = 8 by unfold chkL; rw [if_pos (by omega)])
    have hbg : (65536 : Int) < (l.length : Int) := by omega
    go_enter Tryz.func93, Tryz.ntmps93
    go_wp2
    go_ret
    exact ⟨ret_int HE.out.symm, Below.refl _ _⟩
/-- lists that are few -/
def fewP (l : List Post) : Bool := decide (l.length ≤ 200) && l.all fun p => decide (p.word.size ≤ 70)
theorem fewP_iff {l : List Post} : fewP l = true ↔ l.length ≤ 200 ∧ ∀ p ∈ l, p.word.size ≤ 70 := by
  unfold fewP
  simp
set_option maxHeartbeats 2000000 in
theorem rfew5_c (l : List Post) (v : Value) (w : World) (B : Nat) (h : Posts w B l v) :
    Calls Tryz.prog 9 #[v] w fun e w' => e = .returned (.bool (fewP l)) ∧ w = w' := by
  obtain ⟨A, c, rfl, hc1, hc2, _⟩ := id h
  have H0 := Lib.hid (show (l.all fun p => decide (p.word.size ≤ 70)) = ((l.drop 0).all fun p => decide (p.word.size ≤ 70)) from rfl)
  go_enter Tryz.func9, Tryz.ntmps9
  go_wp2
  go_loop [3] (fun i => ∃ k : Nat, k ≤ l.length ∧ i = .int .i64 k ∧ Hid ((l.all fun p => decide (p.word.size ≤ 70)) = ((l.drop k).all fun p => decide (p.word.size ≤ 70)))) (fun i => l.length - (intOf i).toNat)
  case atStart => exact ⟨0, Nat.zero_le _, rfl, H0⟩
  case round =>
    clear H0
    obtain ⟨k, hk, rfl, hh⟩ := hrel
    by_cases hlt : k < l.length
    · obtain ⟨x, hx⟩ := get_at l hlt
      have HD := Lib.hid (drop_at hx)
      obtain ⟨b, off, rfl, hbB, g0, g1, g2, g3⟩ := Posts.at_ h hx
      have hki : (k : Int) < (l.length : Int) := by omega
      by_cases hs : x.word.size ≤ 70
      · have HN := Lib.hid (show (l.all fun p => decide (p.word.size ≤ 70)) = ((l.drop (k + 1)).all fun p => decide (p.word.size ≤ 70)) by rw [hh.out, HD.out, List.all_cons, decide_eq_true hs, Bool.true_and])
        have hs2 : ¬ (70 : Int) < (x.word.size : Int) := by omega
        clear hh hx
        go_wp2
        go_round
        case rel => exact ⟨k + 1, by omega, by go_num, HN⟩
        case measure => simp [intOf]; omega
      · have HE := Lib.hid (show fewP l = false by unfold fewP; rw [hh.out, HD.out, List.all_cons, decide_eq_false hs, Bool.false_and, Bool.and_false])
        have hs2 : (70 : Int) < (x.word.size : Int) := by omega
        clear hh hx
        go_wp2
        go_ret
        exact ⟨ret_bool HE.out.symm, rfl⟩
    · have HE := Lib.hid (show fewP l = decide ((l.length : Int) ≤ 200) by
        unfold fewP
        rw [hh.out, List.drop_of_length_le (by omega), List.all_nil, Bool.and_true, Bool.eq_iff_iff]
        simp only [decide_eq_true_eq]
        omega)
      clear hh
      go_wp2
      go_ret
      exact ⟨ret_bool HE.out.symm, rfl⟩
end Go.Proofs.YtngodakkdhdmjaaGreatDoor
