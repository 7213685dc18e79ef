/- The program's Check on postings. -/
import Derived.Test.YtpfngehledgkiaaIvC
namespace Go.Proofs.Ytpfngehledgkiaa
open Go.RowKit

theorem compare_b (a b : Post) (w : World) :
    Calls Try.prog 41 #[pstV a, pstV b] w fun e w' => e = .returned (.int .i64 (pcmp a b)) ∧ Below w.heap.size w w' :=
  (compare_c a b w).mono fun e w' ⟨h1, o1, o2, o3, h2⟩ => ⟨h1, by
    subst h2
    exact ((((Below.refl _ _).alloc (Nat.le_refl _) o1).alloc (by simp) o2).alloc (by simp; omega) o3).drew⟩
/-- the posting before a place -/
def prevP (l : List Post) (k : Nat) : Option Post := if k = 0 then none else l[k - 1]?
theorem prevP_succ {l : List Post} {k : Nat} {x : Post} (h : l[k]? = some x) : prevP l (k + 1) = some x := by
  unfold prevP
  rw [if_neg (by omega), Nat.add_sub_cancel]
  exact h
theorem chkG_at {l : List Post} {k : Nat} {x : Post} (h : l[k]? = some x) : chkG (prevP l k) (l.drop k) = if rightP x = false then 1 else if ((prevP l k).any fun q => !pltB q x) = true then 5 else chkG (prevP l (k + 1)) (l.drop (k + 1)) := by
  rw [drop_at h, prevP_succ h, chkG]
set_option maxRecDepth 100000 in
set_option maxHeartbeats 4000000 in
theorem icheck_c (l : List Post) (v : Value) (w : World) (B : Nat) (hB : B ≤ w.heap.size) (h : Posts w B l v) (hw : ∀ p ∈ l, p.word.size ≤ 1000000) :
    Calls Try.prog 13 #[v] w fun e w' => e = .returned (.int .i64 (chkL l)) ∧ Below w.heap.size w w' := by
  obtain ⟨A, c, rfl, hc1, hc2, _⟩ := id h
  by_cases hbig : l.length ≤ 65536
  · have H0 := Lib.hid (show chkL l = chkG (prevP l 0) (l.drop 0) by unfold chkL; rw [if_neg (by omega)]; rfl)
    have hbg : ¬ (65536 : Int) < (l.length : Int) := by omega
    go_enter Try.func13, Try.ntmps13
    go_wp2
    go_loopw [10] (fun i wr => ∃ k : Nat, k ≤ l.length ∧ i = .int .i64 k ∧ Hid (chkL l = chkG (prevP l k) (l.drop k)) ∧ Below w.heap.size w wr) (fun i _ => l.length - (intOf i).toNat)
    case atStart => exact ⟨0, Nat.zero_le _, rfl, H0, Below.refl _ _⟩
    case round =>
      clear H0
      obtain ⟨k, hk, rfl, hh, hb⟩ := hrel
      by_cases hlt : k < l.length
      · obtain ⟨x, hx⟩ := get_at l hlt
        have hbs := hb.size
        have hxw := hw x (List.mem_of_getElem? hx)
        have HV := Lib.hid (fun (W : World) => valid_c x W hxw)
        have hat := chkG_at hx
        obtain ⟨b, off, rfl, hbB, g0, g1, g2, g3⟩ := Posts.at_ (h.below pstS (hb.mono hB)) hx
        have hbw : b < wr.heap.size := by have : b < B := hbB; omega
        have hki : (k : Int) < (l.length : Int) := by omega
        have b1 : Below w.heap.size w (wr.alloc (pstC x)) := hb.alloc hbs _
        cases hr : rightP x
        · have HE := Lib.hid (show chkL l = 1 by rw [hh.out, hat, if_pos hr])
          rw [hr] at HV
          clear hat hh hx
          go_wp2_with fail
          refine (HV.out _).mono ?_
          rintro e w1 ⟨rfl, hb1⟩
          go_wp2
          go_ret
          exact ⟨ret_int HE.out.symm, b1.trans (hb1.mono (by simp; omega))⟩
        · rw [hr] at HV
          rw [if_neg (by rw [hr]; simp)] at hat
          by_cases hz : k = 0
          · subst hz
            have HN := Lib.hid (show chkL l = chkG (prevP l (0 + 1)) (l.drop (0 + 1)) by rw [hh.out, hat, if_neg (by simp [prevP])])
            simp only [Nat.zero_mul, Nat.add_zero] at g0 g1 g2 g3
            clear hat hh hx
            go_wp2_with fail
            refine (HV.out _).mono ?_
            rintro e w1 ⟨rfl, hb1⟩
            go_wp2
            go_quiet (fail)
            go_wp2
            go_roundw
            case rel => exact ⟨1, by omega, rfl, HN, (b1.trans (hb1.mono (by simp; omega))).trans (below_of_drew _ ⟨_, rfl⟩)⟩
            case measure => simp [intOf]; omega
          · obtain ⟨q, hq⟩ := get_at l (show k - 1 < l.length by omega)
            have hpv : prevP l k = some q := by unfold prevP; rw [if_neg hz]; exact hq
            have HQ := Lib.hid (fun (W : World) (hW : Below w.heap.size w W) => Posts.at_ (h.below pstS (hW.mono hB)) hq)
            have HCM := Lib.hid (fun (W : World) => compare_b q x W)
            obtain ⟨j, rfl⟩ : ∃ j, k = j + 1 := ⟨k - 1, by omega⟩
            rw [Nat.add_sub_cancel] at HQ hq
            have hsw := pcmp_swap q x
            generalize pcmp q x = z at *
            clear hz
            have hz1 : (0 : Int) < (j : Int) + 1 := by omega
            have hz3 : (j : Int) < (l.length : Int) := by omega
            have hz4 : (0 : Int) ≤ (j : Int) := by omega
            have hz5 : IntKind.i64.wrap (j : Int) = (j : Int) := IntWalk.i64_in _ (by omega)
            have hz6 : IntKind.i64.wrap ((j : Int) + 1 - 1) = (j : Int) := by rw [IntWalk.i64_in _ (by omega)]; omega
            go_wp2_with fail
            refine (HV.out _).mono ?_
            rintro e w1 ⟨rfl, hb1⟩
            have b2 := b1.trans (hb1.mono (by simp; omega))
            have y0 : w1.cell? ⟨wr.heap.size, 0, none⟩ = some (.string x.word) := (hb1.cell (p := ⟨wr.heap.size, 0, none⟩) (by simp)).trans (by simp)
            have y1 : w1.cell? ⟨wr.heap.size, 1, none⟩ = some (.int .i64 x.unit) := (hb1.cell (p := ⟨wr.heap.size, 1, none⟩) (by simp)).trans (by simp)
            have y2 : w1.cell? ⟨wr.heap.size, 2, none⟩ = some (.int .i64 x.field) := (hb1.cell (p := ⟨wr.heap.size, 2, none⟩) (by simp)).trans (by simp)
            have y3 : w1.cell? ⟨wr.heap.size, 3, none⟩ = some (.int .i64 x.place) := (hb1.cell (p := ⟨wr.heap.size, 3, none⟩) (by simp)).trans (by simp)
            have yl : wr.heap.size < w1.heap.size := by have := hb1.size; simp at this; omega
            obtain ⟨_, _, e9, hbB2, p0, p1, p2, p3⟩ := HQ.out _ b2
            cases e9
            have hbw2 : b < w1.heap.size := by omega
            clear g0 g1 g2 g3 hx hq
            have hbX : Below w1.heap.size w1 w1.drew := (Below.refl _ _).drew
            have KEEP := Lib.hid (fun (W : World) (hW : Below w1.heap.size w1 W) => (⟨(hW.cell (p := ⟨wr.heap.size, 0, none⟩) yl).trans y0, (hW.cell (p := ⟨wr.heap.size, 1, none⟩) yl).trans y1, (hW.cell (p := ⟨wr.heap.size, 2, none⟩) yl).trans y2, (hW.cell (p := ⟨wr.heap.size, 3, none⟩) yl).trans y3, (hW.cell (p := ⟨b, off + j * 4, none⟩) hbw2).trans p0, (hW.cell (p := ⟨b, off + j * 4 + 1, none⟩) hbw2).trans p1, (hW.cell (p := ⟨b, off + j * 4 + 2, none⟩) hbw2).trans p2, (hW.cell (p := ⟨b, off + j * 4 + 3, none⟩) hbw2).trans p3⟩ : W.cell? ⟨wr.heap.size, 0, none⟩ = some (.string x.word) ∧ W.cell? ⟨wr.heap.size, 1, none⟩ = some (.int .i64 x.unit) ∧ W.cell? ⟨wr.heap.size, 2, none⟩ = some (.int .i64 x.field) ∧ W.cell? ⟨wr.heap.size, 3, none⟩ = some (.int .i64 x.place) ∧ W.cell? ⟨b, off + j * 4, none⟩ = some (.string q.word) ∧ W.cell? ⟨b, off + j * 4 + 1, none⟩ = some (.int .i64 q.unit) ∧ W.cell? ⟨b, off + j * 4 + 2, none⟩ = some (.int .i64 q.field) ∧ W.cell? ⟨b, off + j * 4 + 3, none⟩ = some (.int .i64 q.place)))
            have HB2 := Lib.hid b2
            have hl1 : w.heap.size ≤ w1.heap.size := by omega
            go_wp2
            cases hlt2 : pltB q x
            · have HE := Lib.hid (show chkL l = 5 by rw [hh.out, hat, hpv, if_pos (by simp [hlt2])])
              rw [hlt2] at hsw
              have hzz : (0 : Int) ≤ z := hsw.2 rfl
              clear hat hh hlt2 hsw hpv
              go_region_held3 (fun W => W.cell? ⟨wr.heap.size, 0, none⟩ = some (.string x.word) ∧ W.cell? ⟨wr.heap.size, 1, none⟩ = some (.int .i64 x.unit) ∧ W.cell? ⟨wr.heap.size, 2, none⟩ = some (.int .i64 x.field) ∧ W.cell? ⟨wr.heap.size, 3, none⟩ = some (.int .i64 x.place) ∧ W.cell? ⟨b, off + j * 4, none⟩ = some (.string q.word) ∧ W.cell? ⟨b, off + j * 4 + 1, none⟩ = some (.int .i64 q.unit) ∧ W.cell? ⟨b, off + j * 4 + 2, none⟩ = some (.int .i64 q.field) ∧ W.cell? ⟨b, off + j * 4 + 3, none⟩ = some (.int .i64 q.place)) (with_reducible exact KEEP.out _ hbX) (first
                | (go_at_call 41; (with_reducible refine (HCM.out _).mono ?_); rintro e w2 ⟨rfl, hb2⟩; have hbX := bnd_call hbX (Nat.le_refl _) hb2))
              go_wp2
              go_ret
              exact ⟨ret_int HE.out.symm, HB2.out.trans (hbX.mono hl1)⟩
            · have HN := Lib.hid (show chkL l = chkG (prevP l (j + 1 + 1)) (l.drop (j + 1 + 1)) by rw [hh.out, hat, hpv, if_neg (by simp [hlt2])])
              rw [hlt2] at hsw
              have hzz : z < 0 := by
                have := hsw.1
                simp at this
                omega
              clear hat hh hlt2 hsw hpv
              go_region_held3 (fun W => W.cell? ⟨wr.heap.size, 0, none⟩ = some (.string x.word) ∧ W.cell? ⟨wr.heap.size, 1, none⟩ = some (.int .i64 x.unit) ∧ W.cell? ⟨wr.heap.size, 2, none⟩ = some (.int .i64 x.field) ∧ W.cell? ⟨wr.heap.size, 3, none⟩ = some (.int .i64 x.place) ∧ W.cell? ⟨b, off + j * 4, none⟩ = some (.string q.word) ∧ W.cell? ⟨b, off + j * 4 + 1, none⟩ = some (.int .i64 q.unit) ∧ W.cell? ⟨b, off + j * 4 + 2, none⟩ = some (.int .i64 q.field) ∧ W.cell? ⟨b, off + j * 4 + 3, none⟩ = some (.int .i64 q.place)) (with_reducible exact KEEP.out _ hbX) (first
                | (go_at_call 41; (with_reducible refine (HCM.out _).mono ?_); rintro e w2 ⟨rfl, hb2⟩; have hbX := bnd_call hbX (Nat.le_refl _) hb2))
              go_wp2
              go_roundw
              case rel => exact ⟨j + 1 + 1, by omega, by go_num, HN, HB2.out.trans (hbX.mono hl1)⟩
              case measure => simp [intOf]; omega
      · have HE := Lib.hid (show chkL l = 0 by rw [hh.out, List.drop_of_length_le (by omega)]; rfl)
        clear hh
        go_wp2
        go_ret
        exact ⟨ret_int HE.out.symm, hb⟩
  · have HE := Lib.hid (show chkL l = 8 by unfold chkL; rw [if_pos (by omega)])
    have hbg : (65536 : Int) < (l.length : Int) := by omega
    go_enter Try.func13, Try.ntmps13
    go_wp2
    go_ret
    exact ⟨ret_int HE.out.symm, Below.refl _ _⟩
end Go.Proofs.Ytpfngehledgkiaa
