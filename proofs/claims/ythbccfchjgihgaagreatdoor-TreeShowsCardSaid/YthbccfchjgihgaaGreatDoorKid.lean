/- The program: the children of a unit, copies of lists of numbers. -/
import Derived.Test.YthbccfchjgihgaaGreatDoorChk
namespace Go.Proofs.YthbccfchjgihgaaGreatDoor
open Go.RowKit

theorem at1_c (x : Brn) (u : Int) (vk : Value) (hvk : ∃ A n c, vk = .slice A n c) (w : World) :
    Calls Tryz.prog 127 #[brnV x vk, .int .i64 u] w fun e w' => e = .returned (.int .i64 (Lib.compareInt x.id u)) ∧ Below w.heap.size w w' := by
  obtain ⟨A, n, c, rfl⟩ := hvk
  have HC := Lib.hid (Tryz.cmp_Compare_int x.id u (w.alloc (brnC x (.slice A n c))))
  go_enter Tryz.func127, Tryz.ntmps127
  go_wp2_with fail
  refine HC.out.mono ?_
  rintro e w1 ⟨rfl, rfl⟩
  go_wp2
  go_ret
  exact ⟨rfl, (Below.refl _ _).alloc (Nat.le_refl _) _⟩
set_option maxRecDepth 100000 in
set_option maxHeartbeats 4000000 in
theorem bsearch_c (l : List Brn) (ha : AscB l) (u : Int) (v : Value) (w : World) (B : Nat) (hB : B ≤ w.heap.size) (h : Brns w B l v) (hn : l.length ≤ 100000) :
    Calls Tryz.prog 126 #[v, .int .i64 u, .func (.func 127) #[] #[]] w fun e w' => (∃ k : Nat, e = .returned (.tuple #[.int .i64 k, .bool (findB l u).isSome]) ∧ ∀ x, findB l u = some x → l[k]? = some x) ∧ Below w.heap.size w w' := by
  have HB := Lib.hid (fun (W : World) (hW : Below w.heap.size w W) => h.below brnS (hW.mono hB))
  obtain ⟨A, ca, rfl, hc1, hc2, _⟩ := id h
  have eg : ∀ (args : Array Value) (W : World), (callFunc 127 args).run Tryz.prog W = .ok (.enter 127 args) W := fun _ _ => by kernel_rfl
  go_enter Tryz.func126, Tryz.ntmps126
  go_wp2
  go_loopw [9, 10] (fun t9 t10 wr => ∃ i j : Nat, t9 = .int .i64 i ∧ t10 = .int .i64 j ∧ i ≤ j ∧ j ≤ l.length ∧ Hid (∀ (m : Nat) y, m < i → l[m]? = some y → y.id < u) ∧ Hid (∀ (m : Nat) y, j ≤ m → l[m]? = some y → u ≤ y.id) ∧ Below w.heap.size w wr) (fun t9 t10 _ => (intOf t10).toNat - (intOf t9).toNat)
  case atStart => exact ⟨0, l.length, rfl, rfl, Nat.zero_le _, Nat.le_refl _, Lib.hid (fun m y hm => absurd hm (by omega)), Lib.hid (fun m y hm hy => absurd (lt_of_at hy) (by omega)), Below.refl _ _⟩
  case round =>
    obtain ⟨i, j, rfl, rfl, hij, hjn, HI, HJ, hb⟩ := hrel
    by_cases hlt : i < j
    · have hii : (i : Int) < (j : Int) := by omega
      have hw1 : IntKind.i64.wrap ((i : Int) + (j : Int)) = (i : Int) + (j : Int) := IntWalk.i64_in _ (by omega)
      obtain ⟨m, hm1, hm2, hh⟩ : ∃ m : Nat, i ≤ m ∧ m < j ∧ ((i : Int) + (j : Int)) / 2 = (m : Int) := ⟨(i + j) / 2, by omega, by omega, by omega⟩
      obtain ⟨y, hy⟩ := get_at l (show m < l.length by omega)
      obtain ⟨b, off, vk, rfl, hbB, g0, g1, g2, g3, g4, g5, hkr⟩ := Brns.at_ (HB.out wr hb) hy
      obtain ⟨Ak, ck, rfl, -⟩ := id hkr
      have hbw : b < wr.heap.size := by have : b < B := hbB; have := hb.size; omega
      have hmi : (m : Int) < (l.length : Int) := by omega
      have hwm : IntKind.i64.wrap ((m : Int) + 1) = (m : Int) + 1 := IntWalk.i64_in _ (by omega)
      have HAT := Lib.hid (at1_c y u (.slice Ak y.kids.length ck) ⟨_, _, _, rfl⟩ wr)
      by_cases hc : y.id < u
      · have HCI := Lib.hid (show Lib.compareInt y.id u = -1 by unfold Lib.compareInt; rw [if_pos hc])
        have HN := Lib.hid (fun (m' : Nat) z (hm' : m' < m + 1) (hz : l[m']? = some z) => (by
          rcases Nat.lt_or_ge m' m with h1 | h1
          · exact Int.lt_trans (List.pairwise_iff_getElem.1 ha m' m (lt_of_at hz) (lt_of_at hy) h1 |> fun h => by rw [(List.getElem?_eq_some_iff.1 hz).2, (List.getElem?_eq_some_iff.1 hy).2] at h; exact h) hc
          · obtain rfl : m' = m := by omega
            rw [hz] at hy
            injection hy with hy
            rw [hy]
            exact hc : z.id < u))
        rw [HCI.out] at HAT
        clear hy hkr hc
        go_wp2_with fail
        refine HAT.out.mono ?_
        rintro e w5 ⟨rfl, hb5⟩
        go_wp2
        go_roundw
        case rel => exact ⟨m + 1, j, by go_num, rfl, by omega, by omega, HN, HJ, hb.trans (hb5.mono hb.size)⟩
        case measure => simp [intOf]; omega
      · have HCI : 0 ≤ Lib.compareInt y.id u := by unfold Lib.compareInt; rw [if_neg hc]; split <;> omega
        have hci : ¬ Lib.compareInt y.id u < 0 := by omega
        have HN := Lib.hid (fun (m' : Nat) z (hm' : m ≤ m') (hz : l[m']? = some z) => (by
          rcases Nat.lt_or_ge m m' with h1 | h1
          · have h2 := List.pairwise_iff_getElem.1 ha m m' (lt_of_at hy) (lt_of_at hz) h1
            rw [(List.getElem?_eq_some_iff.1 hz).2, (List.getElem?_eq_some_iff.1 hy).2] at h2
            omega
          · obtain rfl : m' = m := by omega
            rw [hz] at hy
            injection hy with hy
            rw [hy]
            omega : u ≤ z.id))
        clear hy hkr hc HCI
        go_wp2_with fail
        refine HAT.out.mono ?_
        rintro e w5 ⟨rfl, hb5⟩
        go_wp2
        go_roundw
        case rel => exact ⟨i, m, rfl, by go_num, by omega, by omega, HI, HN, hb.trans (hb5.mono hb.size)⟩
        case measure => simp [intOf]; omega
    · obtain rfl : i = j := by omega
      by_cases hil : i < l.length
      · obtain ⟨y, hy⟩ := get_at l hil
        obtain ⟨b, off, vk, rfl, hbB, g0, g1, g2, g3, g4, g5, hkr⟩ := Brns.at_ (HB.out wr hb) hy
        obtain ⟨Ak, ck, rfl, -⟩ := id hkr
        have hbw : b < wr.heap.size := by have : b < B := hbB; have := hb.size; omega
        have hmi : (i : Int) < (l.length : Int) := by omega
        have HAT := Lib.hid (at1_c y u (.slice Ak y.kids.length ck) ⟨_, _, _, rfl⟩ wr)
        by_cases he : y.id = u
        · have HCI := Lib.hid (show Lib.compareInt y.id u = 0 by unfold Lib.compareInt; rw [if_neg (by omega), if_neg (by omega)])
          have HF := Lib.hid (show findB l u = some y by rw [← he]; exact find_of ha (List.mem_of_getElem? hy))
          have HY := Lib.hid hy
          rw [HCI.out] at HAT
          clear hy hkr he
          go_wp2_with fail
          refine HAT.out.mono ?_
          rintro e w5 ⟨rfl, hb5⟩
          go_wp2
          go_ret2
          exact ⟨⟨i, by rw [HF.out]; rfl, fun x hx => by rw [HF.out] at hx; injection hx with hx; subst hx; exact HY.out⟩, hb.trans (hb5.mono hb.size)⟩
        · have HCI : Lib.compareInt y.id u ≠ 0 := by
            unfold Lib.compareInt
            split
            · omega
            · split <;> omega
          have hci : (Lib.compareInt y.id u == 0) = false := by simpa using HCI
          have HF := Lib.hid (show findB l u = none by
            cases hf : findB l u with
            | none => rfl
            | some z =>
              obtain ⟨m1, m2⟩ := find_mem hf
              obtain ⟨k, hk⟩ := List.getElem?_of_mem m1
              rcases Nat.lt_trichotomy k i with c | c | c
              · have := HI.out k z c hk; omega
              · subst c; rw [hk] at hy; injection hy with hy; rw [hy] at m2; exact absurd m2 he
              · have h2 := List.pairwise_iff_getElem.1 ha i k (lt_of_at hy) (lt_of_at hk) c
                rw [(List.getElem?_eq_some_iff.1 hk).2, (List.getElem?_eq_some_iff.1 hy).2] at h2
                have := HJ.out i y (Nat.le_refl _) hy
                omega)
          clear hy hkr he HCI
          go_wp2_with fail
          refine HAT.out.mono ?_
          rintro e w5 ⟨rfl, hb5⟩
          go_wp2
          go_ret2
          exact ⟨⟨i, by rw [HF.out]; rfl, fun x hx => by rw [HF.out] at hx; cases hx⟩, hb.trans (hb5.mono hb.size)⟩
      · have hmi : ¬ (i : Int) < (l.length : Int) := by omega
        have HF := Lib.hid (show findB l u = none by
          cases hf : findB l u with
          | none => rfl
          | some z =>
            obtain ⟨m1, m2⟩ := find_mem hf
            obtain ⟨k, hk⟩ := List.getElem?_of_mem m1
            have := HI.out k z (by have := lt_of_at hk; omega) hk
            omega)
        go_wp2
        go_ret2
        exact ⟨⟨i, by rw [HF.out]; rfl, fun x hx => by rw [HF.out] at hx; cases hx⟩, hb⟩
theorem at_c (t : Tre) (hz : SizT t) (ha : AscB t.brs) (u : Int) (vr vb : Value) (w : World) (B : Nat) (hB : B ≤ w.heap.size) (h : TreRep w B t vr vb) :
    Calls Tryz.prog 97 #[treV vr vb, .int .i64 u] w fun e w' => (∃ k : Nat, e = .returned (.tuple #[.int .i64 k, .bool (findB t.brs u).isSome]) ∧ ∀ x, findB t.brs u = some x → t.brs[k]? = some x) ∧ Below w.heap.size w w' := by
  have b1 := tre_new w vr vb
  have HS := Lib.hid (bsearch_c t.brs ha u vb (w.alloc (treC vr vb)) B (Nat.le_trans hB b1.size) (h.below (b1.mono hB)).brs hz.brs)
  obtain ⟨Ar, cr, rfl, -⟩ := id h.tops
  obtain ⟨A, ca, rfl, -⟩ := id h.brs
  go_enter Tryz.func97, Tryz.ntmps97
  go_wp2_with fail
  refine HS.out.mono ?_
  rintro e w1 ⟨⟨k, rfl, hk⟩, hb1⟩
  go_wp2
  go_ret2
  exact ⟨⟨k, rfl, hk⟩, b1.trans (hb1.mono b1.size)⟩

set_option maxRecDepth 100000 in
set_option maxHeartbeats 4000000 in
theorem known_c (t : Tre) (hz : SizT t) (ids : List Int) (hn : ids.length ≤ 100000) (vr vb vi : Value) (w : World) (B : Nat) (hB : B ≤ w.heap.size) (h : TreRep w B t vr vb) (hI : Ints w B ids vi) (hV : VarOk w) :
    Calls Tryz.prog 64 #[treV vr vb, vi] w fun e w' => e = .returned (.int .i64 (knownE t ids)) ∧ Below w.heap.size w w' := by
  have b1 := tre_new w vr vb
  have HR := Lib.hid (right_c t hz vr vb (w.alloc (treC vr vb)) B (Nat.le_trans hB b1.size) (h.below (b1.mono hB)) (hV.below b1))
  have KC := Lib.hid (fun (W : World) (hW : Below (w.heap.size + 1) (w.alloc (treC vr vb)) W) => treW_at hW)
  have HT := Lib.hid (fun (W : World) (hW : Below w.heap.size w W) => (⟨Nat.le_trans hB hW.size, h.below (hW.mono hB), hI.below intS (hW.mono hB)⟩ : B ≤ W.heap.size ∧ TreRep W B t vr vb ∧ Ints W B ids vi))
  have HE := Lib.hid (show knownE t ids = if rightT t = false then 1 else if (ids.any fun k => (findB t.brs k).isNone) = true then 7 else 0 from rfl)
  obtain ⟨Ar, cr, rfl, -⟩ := id h.tops
  obtain ⟨A, ca, rfl, -⟩ := id h.brs
  obtain ⟨Ai, ci, rfl, -⟩ := id hI
  have hs1 : (w.alloc (treC (.slice Ar t.roots.length cr) (.slice A t.brs.length ca))).heap.size = w.heap.size + 1 := by simp
  cases hr : rightT t
  · have HX := Lib.hid (show knownE t ids = 1 by rw [HE.out, hr, if_pos rfl])
    rw [hr] at HR
    clear hr
    go_enter Tryz.func64, Tryz.ntmps64
    go_wp2_with fail
    refine HR.out.mono ?_
    rintro e w1 ⟨rfl, hb1⟩
    go_wp2
    go_ret
    exact ⟨ret_int HX.out.symm, b1.trans (hb1.mono b1.size)⟩
  · have RT := right_of hr
    have HA := Lib.hid RT.asc
    have HX := Lib.hid (show knownE t ids = if ((ids.drop 0).any fun k => (findB t.brs k).isNone) = true then 7 else 0 by rw [HE.out, hr, if_neg (by decide)]; rfl)
    rw [hr] at HR
    clear hr RT
    go_enter Tryz.func64, Tryz.ntmps64
    go_wp2_with fail
    refine HR.out.mono ?_
    rintro e w1 ⟨rfl, hb1⟩
    have hb := bnd_call (Below.refl (w.heap.size + 1) _) (Nat.le_of_eq hs1.symm) hb1
    clear hb1
    go_wp2
    go_loopw [14] (fun t14 wr => ∃ k : Nat, k ≤ ids.length ∧ t14 = .int .i64 k ∧ Hid (knownE t ids = if ((ids.drop k).any fun k => (findB t.brs k).isNone) = true then 7 else 0) ∧ Below (w.heap.size + 1) (w.alloc (treC (.slice Ar t.roots.length cr) (.slice A t.brs.length ca))) wr) (fun t14 _ => ids.length - (intOf t14).toNat)
    case atStart => exact ⟨0, Nat.zero_le _, rfl, HX, hb⟩
    case round =>
      clear HX hb
      obtain ⟨k, hk, rfl, HS, hb⟩ := hrel
      obtain ⟨z0, z1, zl⟩ := KC.out _ hb
      have hbw := b1.trans (hb.mono (Nat.le_succ _))
      by_cases hlt : k < ids.length
      · obtain ⟨u, hu⟩ := get_at ids hlt
        have HD := Lib.hid (drop_at hu)
        obtain ⟨b, off, rfl, hbB, g0⟩ := Ints.at_ (HT.out _ hbw).2.2 hu
        have hbwr : b < wr.heap.size := by have : b < B := hbB; have := hbw.size; omega
        have hkk : (k : Int) < (ids.length : Int) := by omega
        have hwk : IntKind.i64.wrap ((k : Int) + 1) = (k : Int) + 1 := IntWalk.i64_in _ (by omega)
        have HAT := Lib.hid (at_c t hz HA.out u _ _ wr B (HT.out _ hbw).1 (HT.out _ hbw).2.1)
        clear hu
        go_wp2_with fail
        refine HAT.out.mono ?_
        rintro e w5 ⟨⟨k5, rfl, -⟩, hb5⟩
        have hbN := bnd_call hb (Nat.le_of_eq hs1.symm) hb5
        cases hf : findB t.brs u with
        | none =>
          have HX := Lib.hid (show knownE t ids = 7 by rw [HS.out, HD.out, List.any_cons, hf]; rfl)
          clear hf
          go_wp2
          go_ret
          exact ⟨ret_int HX.out.symm, b1.trans (hbN.mono (Nat.le_succ _))⟩
        | some y =>
          have HN := Lib.hid (show knownE t ids = if ((ids.drop (k + 1)).any fun k => (findB t.brs k).isNone) = true then 7 else 0 by rw [HS.out, HD.out, List.any_cons, hf]; rfl)
          clear hf
          go_wp2
          go_roundw
          case rel => exact ⟨k + 1, by omega, by go_num, HN, hbN⟩
          case measure => simp [intOf]; omega
      · have HX := Lib.hid (show knownE t ids = 0 by rw [HS.out, List.drop_of_length_le (by omega)]; rfl)
        have hkk : ¬ (k : Int) < (ids.length : Int) := by omega
        go_wp2
        go_ret
        exact ⟨ret_int HX.out.symm, hbw⟩

theorem cloneInts_c (xs : List Int) (v : Value) (w : World) (F : Nat → Prop) (h : SlRep 1 (flat intEnc) w F xs v) (hn : xs.length ≤ 100000) :
    Calls Tryz.prog 49 #[v] w fun e w' => ∃ v', e = .returned v' ∧ OwnRep 1 (flat intEnc) 3 w.heap.size w' xs v' ∧ Below w.heap.size w w' := by
  rcases Nat.eq_zero_or_pos xs.length with h0 | h0
  · obtain rfl : xs = [] := List.eq_nil_of_length_eq_zero h0
    obtain ⟨A, c, rfl, -⟩ := h
    cases A with
    | none =>
      refine (Tryz.slices_Clone_int_nil 0 c w).mono ?_
      rintro e w' ⟨rfl, rfl⟩
      exact ⟨_, rfl, OwnRep.nil_, Below.refl _ _⟩
    | some a =>
      refine (Tryz.slices_Clone_int_zero a c w).mono ?_
      rintro e w' ⟨v', rfl, hr, -, hb⟩
      exact ⟨v', rfl, OwnRep.of_rows hr, hb⟩
  · obtain ⟨b, off, c, rfl, g⟩ := ints_form h h0
    refine (Tryz.slices_Clone_int b off xs.length c xs w (Nat.le_refl _) (by omega) g).mono ?_
    rintro e w' ⟨v', rfl, hr, -, hb⟩
    refine ⟨v', rfl, OwnRep.of_rows ?_, hb⟩
    rw [int_rows]
    rw [List.take_length] at hr
    exact hr
set_option maxRecDepth 100000 in
theorem orTop_c (t : Tre) (hz : SizT t) (u : Int) (vr vb : Value) (w : World) (B : Nat) (hB : B ≤ w.heap.size) (h : TreRep w B t vr vb) (hV : VarOk w) :
    Calls Tryz.prog 60 #[treV vr vb, .int .i64 u] w fun e w' => e = .returned (.int .i64 (orTopE t u)) ∧ Below w.heap.size w w' := by
  have b1 := tre_new w vr vb
  obtain ⟨Ar, cr, rfl, -⟩ := id h.tops
  obtain ⟨A, ca, rfl, -⟩ := id h.brs
  by_cases h0 : u = 0
  · subst h0
    have HK := Lib.hid (known_c t hz [] (by simp) _ _ (.slice none 0 0) _ B (Nat.le_trans hB b1.size) (h.below (b1.mono hB)) SlRep.nil_ (hV.below b1))
    have HE := Lib.hid (show orTopE t 0 = knownE t [] from rfl)
    go_enter Tryz.func60, Tryz.ntmps60
    go_wp2_with fail
    refine HK.out.mono ?_
    rintro e w1 ⟨rfl, hb1⟩
    go_wp2
    go_ret
    exact ⟨ret_int HE.out.symm, b1.trans (hb1.mono b1.size)⟩
  · have b2 : Below w.heap.size w ((w.alloc (treC (.slice Ar t.roots.length cr) (.slice A t.brs.length ca))).alloc (.cells (intEnc u).toArray 3)) := b1.alloc b1.size _
    have hs : SlRep 1 (flat intEnc) ((w.alloc (treC (.slice Ar t.roots.length cr) (.slice A t.brs.length ca))).alloc (.cells (intEnc u).toArray 3)) (fun b => b < w.heap.size + 2) [u] (.slice (some ⟨w.heap.size + 1, 0, none⟩) 1 1) := by
      have := SlRep.one_new intS (w := w.alloc (treC (.slice Ar t.roots.length cr) (.slice A t.brs.length ca))) (t := 3) (F := fun _ => False) (x := u) (cs := intEnc u) rfl rfl (fun b hb => hb.elim)
      rw [show (w.alloc (treC (.slice Ar t.roots.length cr) (.slice A t.brs.length ca))).heap.size = w.heap.size + 1 by simp] at this
      exact this.monoF intS (fun b hb => by rcases hb with hb | hb; exact hb.elim; omega)
    have hz2 : ((w.alloc (treC (.slice Ar t.roots.length cr) (.slice A t.brs.length ca))).alloc (.cells (intEnc u).toArray 3)).heap.size = w.heap.size + 2 := by simp
    have HK := Lib.hid (known_c t hz [u] (by simp) _ _ _ _ (w.heap.size + 2) (by rw [hz2]; exact Nat.le_refl _) ((h.below (b2.mono hB)).mono (by omega)) hs (hV.below b2))
    have he : (u == 0) = false := by simpa using h0
    have HE := Lib.hid (show orTopE t u = knownE t [u] by unfold orTopE; rw [if_neg h0])
    clear h0 hs
    go_enter Tryz.func60, Tryz.ntmps60
    go_wp2_with fail
    refine HK.out.mono ?_
    rintro e w1 ⟨rfl, hb1⟩
    go_wp2
    go_ret
    exact ⟨ret_int HE.out.symm, b2.trans (hb1.mono b2.size)⟩
def kidsT (t : Tre) (u : Int) : List Int := if u = 0 then t.roots else kidsO t.brs u
set_option maxRecDepth 100000 in
theorem kids_c (t : Tre) (hz : SizT t) (T : RightT t) (u : Int) (hu : u = 0 ∨ ∃ b ∈ t.brs, b.id = u) (vr vb : Value) (w : World) (B : Nat) (hB : B ≤ w.heap.size) (h : TreRep w B t vr vb) :
    Calls Tryz.prog 61 #[treV vr vb, .int .i64 u] w fun e w' => ∃ v', e = .returned v' ∧ Ints w' B (kidsT t u) v' ∧ Below w.heap.size w w' := by
  have b1 := tre_new w vr vb
  have KC := Lib.hid (fun (W : World) (hW : Below (w.heap.size + 1) (w.alloc (treC vr vb)) W) => treW_at hW)
  have HT := Lib.hid (fun (W : World) (hW : Below w.heap.size w W) => h.below (hW.mono hB))
  obtain ⟨Ar, cr, rfl, -⟩ := id h.tops
  obtain ⟨A, ca, rfl, -⟩ := id h.brs
  by_cases h0 : u = 0
  · subst h0
    go_enter Tryz.func61, Tryz.ntmps61
    go_wp2
    go_ret
    exact ⟨_, rfl, (HT.out _ b1).tops, b1⟩
  · obtain ⟨x, hx, hxu⟩ : ∃ b ∈ t.brs, b.id = u := by
      rcases hu with h1 | h1
      · exact absurd h1 h0
      · exact h1
    have he : (u == 0) = false := by simpa using h0
    have hf : findB t.brs u = some x := by rw [← hxu]; exact T.find hx
    have HAT := Lib.hid (at_c t hz T.asc u _ _ _ B (Nat.le_trans hB b1.size) (HT.out _ b1))
    have HK := Lib.hid (show kidsT t u = x.kids by unfold kidsT; rw [if_neg h0]; unfold kidsO; rw [hf]; rfl)
    have hs1 : (w.alloc (treC (.slice Ar t.roots.length cr) (.slice A t.brs.length ca))).heap.size = w.heap.size + 1 := by simp
    have HF := Lib.hid hf
    clear h0 hx hxu hf hu T
    go_enter Tryz.func61, Tryz.ntmps61
    go_wp2_with fail
    refine HAT.out.mono ?_
    rintro e w1 ⟨⟨k, rfl, hk⟩, hb1⟩
    have hkx := hk x HF.out
    have hb := bnd_call (Below.refl (w.heap.size + 1) _) (Nat.le_of_eq hs1.symm) hb1
    obtain ⟨z0, z1, zl⟩ := KC.out _ hb
    have hbw := b1.trans (hb.mono (Nat.le_succ _))
    obtain ⟨b, off, vk, rfl, hbB, g0, g1, g2, g3, g4, g5, hkr⟩ := Brns.at_ (HT.out _ hbw).brs hkx
    have hkl := lt_of_at hkx
    have hkk : (k : Int) < (t.brs.length : Int) := by omega
    have hbwr : b < w1.heap.size := by have : b < B := hbB; have := hbw.size; omega
    have HKR := Lib.hid hkr
    obtain ⟨Ak, ck, rfl, -⟩ := id hkr
    clear hk hkx hkr
    rw [HF.out]
    go_wp2
    go_ret
    exact ⟨_, rfl, by rw [HK.out]; exact HKR.out, hbw⟩
end Go.Proofs.YthbccfchjgihgaaGreatDoor
