/- The reference: a unit by itself, and with the earlier ones (written by gen_own.py). -/
import Derived.Test.YthbccfchjgihgaaGreatDoorRfC
namespace Go.Proofs.YthbccfchjgihgaaGreatDoor
open Go.RowKit

set_option maxRecDepth 100000 in
set_option maxHeartbeats 4000000 in
theorem rown_c (t : Tre) (hk : ∀ b ∈ t.brs, b.mark.size ≤ 100000) (i : Nat) (x : Brn) (hx : t.brs[i]? = some x) (vr vb : Value) (w : World) (B : Nat) (hB : B ≤ w.heap.size) (h : TreRep w B t vr vb) :
    Calls Tryz.prog 51 #[treV vr vb, .int .i64 i] w fun e w' => e = .returned (.int .i64 (aloneF (t.brs.take i) x)) ∧ Below w.heap.size w w' := by
  have hs2 : (unW w vr vb x).heap.size = w.heap.size + 2 := by simp
  have b2 : Below w.heap.size w (unW w vr vb x) := ((Below.refl _ _).alloc (Nat.le_refl _) _).alloc (by simp) _
  have hil := lt_of_at hx
  have hii : (i : Int) < (t.brs.length : Int) := by omega
  obtain ⟨Ar, cr, rfl, -⟩ := id h.tops
  obtain ⟨A, ca, rfl, hc1, hc2, _⟩ := id h.brs
  have KC := Lib.hid (fun (W : World) (hW : Below (w.heap.size + 2) (unW w (.slice Ar t.roots.length cr) (.slice A t.brs.length ca) x) W) => unW_at hW)
  have hmk := hk x (List.mem_of_getElem? hx)
  obtain ⟨b, off, vk, rfl, hbB, g0, g1, g2, g3, g4, g5, hkr⟩ := Brns.at_ h.brs hx
  have hbw : b < w.heap.size := by have : b < B := hbB; omega
  have HP := Lib.hid (fun (j : Nat) (y : Brn) (hy : t.brs[j]? = some y) (W : World) (hW : Below w.heap.size w W) => (by
    obtain ⟨b', off', vk', e, -, q0, -⟩ := Brns.at_ (h.brs.below brnS (hW.mono hB)) hy
    injection e with e
    injection e with e1 e2
    subst e1 e2
    exact q0 : W.cell? ⟨b, off + j * 6, none⟩ = some (.int .i64 y.id)))
  have HPM := Lib.hid (fun (j : Nat) (y : Brn) (hy : t.brs[j]? = some y) (W : World) (hW : Below w.heap.size w W) => (brn_cells h.brs hB hy hW).2.2.2.2)
  have HE := Lib.hid (show aloneF (t.brs.take i) x = if (inB x.id 1 1073741824 && inB x.level 1 4) = false then 2 else if ((t.brs.take i).getLast?.any fun y => decide (x.id ≤ y.id)) = true then 5 else if nameB x.title = false then 4 else if x.mark ≠ ⟨#[]⟩ ∧ markB x.mark = false then 1 else if x.mark ≠ ⟨#[]⟩ ∧ ((t.brs.take i).any fun y => decide (y.mark = x.mark)) = true then 19 else 0 from rfl)
  have HL := Lib.hid (fun (j : Nat) (y : Brn) (hy : t.brs[j]? = some y) (hj : i = j + 1) => (by
    have hjl := lt_of_at hy
    rw [hj, take_at hy, List.getLast?_append]
    rfl : (t.brs.take i).getLast? = some y))
  have HL0 := Lib.hid (fun (hi : i = 0) => (by rw [hi]; rfl : (t.brs.take i).getLast? = none))
  clear g5 hkr
  have HG := Lib.hid (fun (j : Nat) (hj : j < t.brs.length) => get_at t.brs hj)
  obtain ⟨last, hlast⟩ : ∃ l, (t.brs.take i).getLast? = l := ⟨_, rfl⟩
  rw [hlast] at HE HL HL0
  clear hlast
  go_enter Tryz.func51, Tryz.ntmps51
  by_cases h1 : x.id < 1
  · have HX := Lib.hid (HE.out.trans (by rw [show inB x.id 1 1073741824 = false by unfold inB; simp; omega]))
    go_wp2
    go_ret
    exact ⟨ret_int HX.out.symm, b2⟩
  by_cases h1' : 1073741824 < x.id
  · have HX := Lib.hid (HE.out.trans (by rw [show inB x.id 1 1073741824 = false by unfold inB; simp; omega]))
    go_wp2
    go_ret
    exact ⟨ret_int HX.out.symm, b2⟩
  · have h1e : inB x.id 1 1073741824 = true := by unfold inB; simp; omega
    go_wp2_with fail
    refine (rlevel_c x.level _).mono ?_
    rintro e w2 ⟨rfl, rfl⟩
    clear g0 g1 g2 g3 g4
    obtain ⟨⟨z0, z1, zl⟩, u0, u1, u2, u3, u4, ul⟩ := KC.out _ (Below.refl _ _)
    cases h2 : inB x.level 1 4
    · have HX := Lib.hid (HE.out.trans (by rw [h1e, h2]))
      go_wp2
      go_ret
      exact ⟨ret_int HX.out.symm, b2⟩
    · have HE := Lib.hid (HE.out.trans (by rw [h1e, h2, if_neg (by decide)]))
      clear h1 h1' h1e h2
      go_wp2
      go_cut [28] (fun v W => v = .bool (last.any fun y => decide (x.id ≤ y.id)) ∧ Below (w.heap.size + 2) (unW w (.slice Ar t.roots.length cr) (.slice (some ⟨b, off, none⟩) t.brs.length ca) x) W)
      case first =>
        by_cases hi : 0 < i
        · obtain ⟨y, hy⟩ := HG.out (i - 1) (by omega)
          have hl := HL.out (i - 1) y hy (by omega)
          have q0 := HP.out (i - 1) y hy _ b2
          have hwj : IntKind.i64.wrap ((i : Int) - 1) = ((i - 1 : Nat) : Int) := by rw [IntWalk.i64_in _ (by omega)]; omega
          have hjj : ((i - 1 : Nat) : Int) < (t.brs.length : Int) := by omega
          have hi' : (0 : Int) < (i : Int) := by omega
          subst hl
          clear hy
          go_quiet (fail)
          go_wp2_with fail
          go_meet
          exact ⟨rfl, below_drewN (Below.refl _ _) _⟩
        · have hl := HL0.out (by omega)
          have hi' : ¬ (0 : Int) < (i : Int) := by omega
          subst hl
          go_quiet (fail)
          go_wp2_with fail
          go_meet
          exact ⟨rfl, below_drewN (Below.refl _ _) _⟩
      case rest =>
        obtain ⟨rfl, hb⟩ := hcut
        clear z0 z1 zl u0 u1 u2 u3 u4 ul HP HG HL HL0
        obtain ⟨⟨z0, z1, zl⟩, u0, u1, u2, u3, u4, ul⟩ := KC.out _ hb
        cases hq : last.any fun y => decide (x.id ≤ y.id)
        · have HE := Lib.hid (HE.out.trans (by rw [hq, if_neg (by decide)]))
          clear hq
          go_wp2_with fail
          refine (risName_c x.title _).mono ?_
          rintro e w3 ⟨rfl, rfl⟩
          cases hn : nameB x.title
          · have HX := Lib.hid (HE.out.trans (by rw [hn]))
            clear hn
            go_wp2
            go_ret
            exact ⟨ret_int HX.out.symm, b2.trans (hb.mono (by omega))⟩
          · have HE := Lib.hid (HE.out.trans (by rw [hn, if_neg (by decide)]))
            clear hn
            by_cases hm : x.mark = ⟨#[]⟩
            · have hm1 : x.mark.toList.isEmpty = true := by rw [str_empty, hm]; rfl
              have HX := Lib.hid (HE.out.trans (by rw [if_neg (fun c => c.1 hm), if_neg (fun c => c.1 hm)]))
              clear hm
              go_wp2
              clear z0 z1 zl u0 u1 u2 u3 u4 ul
              go_loopw [6] (fun t6 wr => ∃ k : Nat, k ≤ i ∧ t6 = .int .i64 k ∧ Below (w.heap.size + 2) (unW w (.slice Ar t.roots.length cr) (.slice (some ⟨b, off, none⟩) t.brs.length ca) x) wr) (fun t6 _ => i - (intOf t6).toNat)
              case atStart => exact ⟨0, Nat.zero_le _, rfl, hb⟩
              case round =>
                clear hb
                obtain ⟨k, hki, rfl, hb⟩ := hrel
                obtain ⟨⟨z0, z1, zl⟩, u0, u1, u2, u3, u4, ul⟩ := KC.out _ hb
                by_cases hlt : k < i
                · have hkk : (k : Int) < (i : Int) := by omega
                  have hwk : IntKind.i64.wrap ((k : Int) + 1) = (k : Int) + 1 := IntWalk.i64_in _ (by omega)
                  go_wp2
                  go_quiet (fail)
                  go_wp2
                  go_roundw
                  case rel => exact ⟨k + 1, by omega, by go_num, below_drewN hb _⟩
                  case measure => simp [intOf]; omega
                · have hkk : ¬ (k : Int) < (i : Int) := by omega
                  go_wp2
                  go_ret
                  exact ⟨ret_int HX.out.symm, b2.trans (hb.mono (by omega))⟩
            · have hm1 : x.mark.toList.isEmpty = false := by
                rw [str_empty, decide_eq_false_iff_not]
                intro e
                exact hm (ByteArray.ext (Array.eq_empty_of_size_eq_zero e))
              have HM2 := Lib.hid hm
              clear hm
              go_wp2_with fail
              refine (risMark_c x.mark _ hmk).mono ?_
              rintro e w4 ⟨rfl, rfl⟩
              cases hk' : markB x.mark
              · have HX := Lib.hid (HE.out.trans (by rw [if_pos ⟨HM2.out, hk'⟩]))
                clear hk'
                go_wp2
                go_ret
                exact ⟨ret_int HX.out.symm, b2.trans (hb.mono (by omega))⟩
              · have HE := Lib.hid (HE.out.trans (by rw [if_neg (fun c => by rw [hk'] at c; exact absurd c.2 (by decide))]))
                have HA0 := Lib.hid (show ((t.brs.take i).any fun y => decide (y.mark = x.mark)) = ((t.brs.take i).drop 0).any fun y => decide (y.mark = x.mark) from rfl)
                have HIL := Lib.hid (show (t.brs.take i).length = i by rw [List.length_take]; omega)
                clear hk'
                go_wp2
                clear z0 z1 zl u0 u1 u2 u3 u4 ul
                go_loopw [6] (fun t6 wr => ∃ k : Nat, k ≤ i ∧ t6 = .int .i64 k ∧ Hid (((t.brs.take i).any fun y => decide (y.mark = x.mark)) = ((t.brs.take i).drop k).any fun y => decide (y.mark = x.mark)) ∧ Below (w.heap.size + 2) (unW w (.slice Ar t.roots.length cr) (.slice (some ⟨b, off, none⟩) t.brs.length ca) x) wr) (fun t6 _ => i - (intOf t6).toNat)
                case atStart => exact ⟨0, Nat.zero_le _, rfl, HA0, hb⟩
                case round =>
                  clear hb HA0
                  obtain ⟨k, hki, rfl, HS, hb⟩ := hrel
                  obtain ⟨⟨z0, z1, zl⟩, u0, u1, u2, u3, u4, ul⟩ := KC.out _ hb
                  by_cases hlt : k < i
                  · have hkk : (k : Int) < (i : Int) := by omega
                    have hwk : IntKind.i64.wrap ((k : Int) + 1) = (k : Int) + 1 := IntWalk.i64_in _ (by omega)
                    obtain ⟨y, hy⟩ := get_at t.brs (show k < t.brs.length by omega)
                    have HD := Lib.hid (drop_at (show (t.brs.take i)[k]? = some y by rw [List.getElem?_take, if_pos hlt]; exact hy))
                    have q4 := HPM.out k y hy _ (b2.trans (hb.mono (by omega)))
                    have hkl : (k : Int) < (t.brs.length : Int) := by omega
                    have hbl : b < wr.heap.size := by omega
                    clear hy
                    by_cases hym : y.mark = x.mark
                    · have he : (y.mark.toList == x.mark.toList) = true := by rw [str_eq]; simp [hym]
                      have HX := Lib.hid (HE.out.trans (by rw [if_pos ⟨HM2.out, by rw [HS.out, HD.out, List.any_cons, hym]; simp⟩]))
                      clear hym
                      go_wp2
                      go_quiet (fail)
                      go_wp2
                      go_ret
                      exact ⟨ret_int HX.out.symm, below_drewN (b2.trans (hb.mono (by omega))) _⟩
                    · have he : (y.mark.toList == x.mark.toList) = false := by rw [str_eq]; simp [hym]
                      have HN := Lib.hid (show ((t.brs.take i).any fun y => decide (y.mark = x.mark)) = ((t.brs.take i).drop (k + 1)).any fun y => decide (y.mark = x.mark) by rw [HS.out, HD.out, List.any_cons, decide_eq_false hym, Bool.false_or])
                      clear hym
                      go_wp2
                      go_quiet (fail)
                      go_wp2
                      go_roundw
                      case rel => exact ⟨k + 1, by omega, by go_num, HN, below_drewN hb _⟩
                      case measure => simp [intOf]; omega
                  · have hkk : ¬ (k : Int) < (i : Int) := by omega
                    have HNO := Lib.hid (show ((t.brs.take i).any fun y => decide (y.mark = x.mark)) = false by rw [HS.out, List.drop_of_length_le (by rw [HIL.out]; omega)]; rfl)
                    have HX := Lib.hid (HE.out.trans (by rw [if_neg (fun c => by rw [HNO.out] at c; exact absurd c.2 (by decide))]))
                    go_wp2
                    go_ret
                    exact ⟨ret_int HX.out.symm, b2.trans (hb.mono (by omega))⟩
        · have HX := Lib.hid (HE.out.trans (by rw [hq]))
          clear hq
          go_wp2
          go_ret
          exact ⟨ret_int HX.out.symm, b2.trans (hb.mono (by omega))⟩
end Go.Proofs.YthbccfchjgihgaaGreatDoor
