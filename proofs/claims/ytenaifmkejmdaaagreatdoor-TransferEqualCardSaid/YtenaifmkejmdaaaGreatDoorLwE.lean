/- TransferEqual returns true (written by gen_lwe.py). -/
import Derived.Test.YtenaifmkejmdaaaGreatDoorLwC
import Derived.Test.YtenaifmkejmdaaaGreatDoorLwX
namespace Go.Proofs.YtenaifmkejmdaaaGreatDoor
open Go.RowKit

set_option maxHeartbeats 2000000 in
theorem equalItems_c (xs ys : List Item) (v v' : Value) (w : World) (B : Nat) (hB : B ≤ w.heap.size) (h : SlRep 7 (flat Item.enc) w (fun b => b < B) xs v) (h' : SlRep 7 (flat Item.enc) w (fun b => b < B) ys v') :
    Calls Tryz.prog 27 #[v, v'] w fun e w' => e = .returned (.bool (eqL eqItem xs ys)) ∧ ∃ n, w' = w.drewN n := by
  obtain ⟨A, c, rfl, hc1, hc2, _⟩ := id h
  obtain ⟨A', c', rfl, hd1, hd2, _⟩ := id h'
  by_cases hl : xs.length = ys.length
  · have HL := Lib.hid hl
    have hl1 : ((xs.length : Int) != (ys.length : Int)) = false := by simp [hl]
    have hl2 : ((xs.length : Int) == (ys.length : Int)) = true := by simp [hl]
    have hl3 : (xs.length : Int) ≤ ys.length := by omega
    clear hl
    have HF := Lib.hid (show eqL eqItem xs ys = eqL eqItem (xs.drop 0) (ys.drop 0) from rfl)
    go_enter Tryz.func27, Tryz.ntmps27
    go_wp2
    go_loopw [13] (fun i wr => ∃ k : Nat, k ≤ xs.length ∧ i = .int .i64 k ∧ Hid (eqL eqItem xs ys = eqL eqItem (xs.drop k) (ys.drop k)) ∧ ∃ n, wr = w.drewN n) (fun i _ => xs.length - (intOf i).toNat)
    case atStart => exact ⟨0, Nat.zero_le _, rfl, HF, 0, rfl⟩
    case round =>
      obtain ⟨k, hk, rfl, HS, nd, rfl⟩ := hrel
      clear HF
      by_cases hlt : k < xs.length
      · have hlt' : k < ys.length := by have := HL.out; omega
        obtain ⟨x, hx⟩ := get_at xs hlt
        obtain ⟨y, hy⟩ := get_at ys hlt'
        have HD := Lib.hid (drop_at hx)
        have HD' := Lib.hid (drop_at hy)
        obtain ⟨b, off, rfl, hbB, g0, g1, g2, g3, g4, g5, g6⟩ := Items.at_ h hx
        obtain ⟨b', off', rfl, hbB', q0, q1, q2, q3, q4, q5, q6⟩ := Items.at_ h' hy
        have hbw : b < w.heap.size := by have : b < B := hbB; omega
        have hbw' : b' < w.heap.size := by have : b' < B := hbB'; omega
        clear hx hy hl1 hl2
        have hne := fun W : World => Item.neq x y W
        cases he : eqItem x y
        · have HE := Lib.hid (show eqL eqItem xs ys = false by rw [HS.out, HD.out, HD'.out]; simp [eqL, he])
          rw [he] at hne; simp only [Bool.not_false] at hne
          clear he
          go_wp2
          go_quiet (fail)
          go_wp2
          go_ret
          exact ⟨ret_bool HE.out.symm, _, World.drewN_drewN _ _ _⟩
        · have HE := Lib.hid (show eqL eqItem xs ys = eqL eqItem (xs.drop (k + 1)) (ys.drop (k + 1)) by rw [HS.out, HD.out, HD'.out]; simp [eqL, he])
          rw [he] at hne; simp only [Bool.not_true] at hne
          clear he
          go_wp2
          go_quiet (fail)
          go_wp2
          go_roundw
          case rel => exact ⟨k + 1, by omega, by go_num, HE, _, rfl⟩
          case measure => simp [intOf]; omega
      · go_wp2
        go_ret
        exact ⟨ret_bool (by rw [HS.out, List.drop_of_length_le (by omega), List.drop_of_length_le (by have := HL.out; omega)]; rfl), _, rfl⟩
  · have HE := Lib.hid (eqL_len eqItem xs ys hl)
    have hl1 : ((xs.length : Int) != (ys.length : Int)) = true := by simpa using fun h => hl (by omega)
    have hl2 : ((xs.length : Int) == (ys.length : Int)) = false := by simpa using fun h => hl (by omega)
    go_enter Tryz.func27, Tryz.ntmps27
    go_wp2
    go_ret
    exact ⟨ret_bool HE.out.symm, 0, rfl⟩

theorem dif_comm (a b : TL) : difE b a = difE a b ∧ difL b a = difL a b := by
  have h : difE b a = difE a b := by unfold difE; cases rightB a <;> cases rightB b <;> rfl
  exact ⟨h, by unfold difL; rw [h, difF_comm]⟩
theorem difE_cases (a b : TL) : (difE a b = 0 ∧ rightB a = true ∧ rightB b = true) ∨ (difE a b = 1 ∧ difL a b = []) := by
  cases ha : rightB a
  · exact .inr (dif_wrong (.inl ha))
  · cases hb : rightB b
    · exact .inr (dif_wrong (.inr hb))
    · exact .inl ⟨(dif_right ha hb).1, rfl, rfl⟩
set_option maxRecDepth 100000 in
set_option maxHeartbeats 8000000 in
theorem equal_law (a b : TL) (va vb : Value) (w : World) (B : Nat) (hB : B ≤ w.heap.size) (ha : TLRep w B a va) (hb : TLRep w B b vb) (hV : VarOk w) :
    Calls Tryz.prog 7 #[tlV a va, tlV b vb] w fun e w' => e = .returned (.bool true) ∧ Below w.heap.size w w' := by
  have hb0 : Below (w.heap.size + 2) (smW w a b va vb) (smW w a b va vb) := Below.refl _ _
  have KC := Lib.hid (fun (W : World) (hW : Below (w.heap.size + 2) (smW w a b va vb) W) => smW_two hW)
  have HUP := Lib.hid (fun (W : World) (hW : Below (w.heap.size + 2) (smW w a b va vb) W) => up_two hW)
  have HA := Lib.hid (fun (W : World) (hW : Below w.heap.size w W) => awake_c W (hV.below hW))
  have HFA := Lib.hid (fun (W : World) (hW : Below w.heap.size w W) => few_c a va W B (Nat.le_trans hB hW.size) (ha.below itmS (hW.mono hB)))
  have HFB := Lib.hid (fun (W : World) (hW : Below w.heap.size w W) => few_c b vb W B (Nat.le_trans hB hW.size) (hb.below itmS (hW.mono hB)))
  have HCA := Lib.hid (fun (hF : fewT a = true) (W : World) (hW : Below w.heap.size w W) => cp_c a va W B (Nat.le_trans hB hW.size) (ha.below itmS (hW.mono hB)) (by have := few_len hF; omega))
  have HCB := Lib.hid (fun (hF : fewT b = true) (W : World) (hW : Below w.heap.size w W) => cp_c b vb W B (Nat.le_trans hB hW.size) (hb.below itmS (hW.mono hB)) (by have := few_len hF; omega))
  have HDF := Lib.hid (fun (x y : Value) (W : World) (hW : Below w.heap.size w W) (h1 : TLRep W W.heap.size a x) (h2 : TLRep W W.heap.size b y) => (show Calls Tryz.prog 25 #[tlV a x, tlV b y] W fun e w' => difQ a b W e w' from differ_c a b x y W _ (Nat.le_refl _) h1 h2 (hV.below hW)))
  have HDG := Lib.hid (fun (x y : Value) (W : World) (hW : Below w.heap.size w W) (h1 : TLRep W W.heap.size b x) (h2 : TLRep W W.heap.size a y) => (show Calls Tryz.prog 25 #[tlV b x, tlV a y] W fun e w' => ∃ v', e = .returned (.tuple #[v', .int .i64 (difE a b)]) ∧ OwnRep 1 (flat intEnc) 3 W.heap.size w' (difL a b) v' ∧ Below W.heap.size W w' from by
    have := differ_c b a x y W _ (Nat.le_refl _) h1 h2 (hV.below hW)
    unfold difQ at this
    rwa [(dif_comm a b).1, (dif_comm a b).2] at this))
  have HFI := Lib.hid (fun (n : Int) (W : World) (hW : Below w.heap.size w W) => find_c a va n W B (Nat.le_trans hB hW.size) (ha.below itmS (hW.mono hB)))
  have HFJ := Lib.hid (fun (n : Int) (W : World) (hW : Below w.heap.size w W) => find_c b vb n W B (Nat.le_trans hB hW.size) (hb.below itmS (hW.mono hB)))
  have HIE := Lib.hid (fun (W : World) (hW : Below w.heap.size w W) => (show Calls Tryz.prog 27 #[va, vb] W fun e w' => e = .returned (.bool (eqL eqItem a.items b.items)) ∧ Below W.heap.size W w' from (equalItems_c a.items b.items va vb W B (Nat.le_trans hB hW.size) (ha.below itmS (hW.mono hB)) (hb.below itmS (hW.mono hB))).mono fun e w' ⟨h1, h2⟩ => ⟨h1, below_of_drewA _ h2⟩))
  have HEQ := Lib.hid (fun (x y : Value) (W : World) (h1 : SlRep 1 (flat intEnc) W (fun b => b < W.heap.size) (difL a b) x) (h2 : SlRep 1 (flat intEnc) W (fun b => b < W.heap.size) (difL a b) y) => equalIn_c (difL a b) x y W _ (Nat.le_refl _) h1 h2)
  unfold difQ at HDF
  have HCS := Lib.hid (difE_cases a b)
  have HDL := Lib.hid (fun (h1 : rightB a = true) (h2 : rightB b = true) => And.intro (dif_right h1 h2).2 (dif_none h1 h2))
  obtain ⟨de, hde⟩ : ∃ d, difE a b = d := ⟨_, rfl⟩
  obtain ⟨dl, hdl⟩ : ∃ d, difL a b = d := ⟨_, rfl⟩
  rw [hde, hdl] at HDF HCS
  simp only [hde, hdl] at HDG
  rw [hdl] at HEQ HDL
  clear hde hdl
  obtain ⟨Aa, ca, rfl, -⟩ := id ha
  obtain ⟨Ab, cb, rfl, -⟩ := id hb
  obtain ⟨⟨z0, z1, z2, z3, zl⟩, y0, y1, y2, y3, yl⟩ := KC.out _ hb0
  go_enter Tryz.func7, Tryz.ntmps7
  go_wp2_with fail
  refine (HA.out _ (HUP.out _ hb0)).mono ?_
  rintro e w1 ⟨rfl, hb1⟩
  have hbX := bnd_call hb0 (by simp) hb1
  clear z0 z1 z2 z3 zl y0 y1 y2 y3 yl hb1
  obtain ⟨⟨z0, z1, z2, z3, zl⟩, y0, y1, y2, y3, yl⟩ := KC.out _ hbX
  go_wp2_with fail
  refine (HFA.out _ (HUP.out _ hbX)).mono ?_
  rintro e w2 ⟨rfl, hb2⟩
  have hbX := bnd_call hbX (by simp) hb2
  clear z0 z1 z2 z3 zl y0 y1 y2 y3 yl hb2
  obtain ⟨⟨z0, z1, z2, z3, zl⟩, y0, y1, y2, y3, yl⟩ := KC.out _ hbX
  cases hfa : fewT a
  · clear hfa
    go_wp2_with fail
    refine (HA.out _ (HUP.out _ hbX)).mono ?_
    rintro e w3 ⟨rfl, hb3⟩
    have hbX := bnd_call hbX (by simp) hb3
    go_wp2
    go_ret
    exact ⟨rfl, HUP.out _ hbX⟩
  · have HCA := Lib.hid (HCA.out hfa)
    clear hfa
    go_wp2_with fail
    refine (HFB.out _ (HUP.out _ hbX)).mono ?_
    rintro e w2 ⟨rfl, hb2⟩
    have hbX := bnd_call hbX (by simp) hb2
    clear z0 z1 z2 z3 zl y0 y1 y2 y3 yl hb2
    obtain ⟨⟨z0, z1, z2, z3, zl⟩, y0, y1, y2, y3, yl⟩ := KC.out _ hbX
    cases hfb : fewT b
    · clear hfb
      go_wp2_with fail
      refine (HA.out _ (HUP.out _ hbX)).mono ?_
      rintro e w3 ⟨rfl, hb3⟩
      have hbX := bnd_call hbX (by simp) hb3
      go_wp2
      go_ret
      exact ⟨rfl, HUP.out _ hbX⟩
    · have HCB := Lib.hid (HCB.out hfb)
      clear hfb ha hb z0 z1 z2 z3 zl y0 y1 y2 y3 yl
      go_wp2
      have hbX := hbX.drew
      go_region_held3 (fun W => (W.cell? ⟨w.heap.size, 0, none⟩ = some (.int .i64 a.id) ∧ W.cell? ⟨w.heap.size, 1, none⟩ = some (.int .i64 a.office) ∧ W.cell? ⟨w.heap.size, 2, none⟩ = some (.int .i64 a.day) ∧ W.cell? ⟨w.heap.size, 3, none⟩ = some (.slice Aa a.items.length ca) ∧ w.heap.size < W.heap.size) ∧ W.cell? ⟨w.heap.size + 1, 0, none⟩ = some (.int .i64 b.id) ∧ W.cell? ⟨w.heap.size + 1, 1, none⟩ = some (.int .i64 b.office) ∧ W.cell? ⟨w.heap.size + 1, 2, none⟩ = some (.int .i64 b.day) ∧ W.cell? ⟨w.heap.size + 1, 3, none⟩ = some (.slice Ab b.items.length cb) ∧ w.heap.size + 1 < W.heap.size) (with_reducible exact KC.out _ hbX) (first
        | (go_at_call 11; (with_reducible refine (HCA.out _ (HUP.out _ hbX)).mono ?_); rintro e wC ⟨va', rfl, hva, hbC⟩; have hbX := bnd_call hbX (by simp) hbC; have hva := hva.toSl itmS; obtain ⟨Ac, cc, rfl, -⟩ := id hva)
        | (go_at_call 11; (with_reducible refine (HCB.out _ (HUP.out _ hbX)).mono ?_); rintro e wD ⟨vb', rfl, hvb, hbD⟩; have hva := (hva.below itmS hbD).mono itmS hbD.size; have hbX := bnd_call hbX (by simp) hbD; have hvb := hvb.toSl itmS; obtain ⟨Ad, cd, rfl, -⟩ := id hvb)
        | (go_at_call 25; (with_reducible refine (HDF.out _ _ _ (HUP.out _ hbX) hva hvb).mono ?_); rintro e wE ⟨vl, rfl, hvl, hbE⟩; have hbX := bnd_call hbX (by simp) hbE))
      have hvl := hvl.toSl intS
      clear hva hvb
      obtain ⟨Al, cl, rfl, -⟩ := id hvl
      have HVL := Lib.hid (And.intro hvl hbX)
      clear hvl
      go_wp2
      have hw0 : Below wE.heap.size wE wE := Below.refl _ _
      have hbP := hbX
      have hwX := hw0.drew
      have hbX := hbX.drew
      go_region_held3 (fun W => (W.cell? ⟨w.heap.size, 0, none⟩ = some (.int .i64 a.id) ∧ W.cell? ⟨w.heap.size, 1, none⟩ = some (.int .i64 a.office) ∧ W.cell? ⟨w.heap.size, 2, none⟩ = some (.int .i64 a.day) ∧ W.cell? ⟨w.heap.size, 3, none⟩ = some (.slice Aa a.items.length ca) ∧ w.heap.size < W.heap.size) ∧ W.cell? ⟨w.heap.size + 1, 0, none⟩ = some (.int .i64 b.id) ∧ W.cell? ⟨w.heap.size + 1, 1, none⟩ = some (.int .i64 b.office) ∧ W.cell? ⟨w.heap.size + 1, 2, none⟩ = some (.int .i64 b.day) ∧ W.cell? ⟨w.heap.size + 1, 3, none⟩ = some (.slice Ab b.items.length cb) ∧ w.heap.size + 1 < W.heap.size) (with_reducible exact KC.out _ hbX) (first
        | (go_at_call 11; (with_reducible refine (HCB.out _ (HUP.out _ hbX)).mono ?_); rintro e wC ⟨va', rfl, hva, hbC⟩; have hwX := bnd_call hwX (Nat.le_refl _) hbC; have hbX := bnd_call hbX (by simp) hbC; have hva := hva.toSl itmS; obtain ⟨Ac, cc, rfl, -⟩ := id hva)
        | (go_at_call 11; (with_reducible refine (HCA.out _ (HUP.out _ hbX)).mono ?_); rintro e wD ⟨vb', rfl, hvb, hbD⟩; have hva := (hva.below itmS hbD).mono itmS hbD.size; have hwX := bnd_call hwX (Nat.le_refl _) hbD; have hbX := bnd_call hbX (by simp) hbD; have hvb := hvb.toSl itmS; obtain ⟨Ad, cd, rfl, -⟩ := id hvb)
        | (go_at_call 25; (with_reducible refine (HDG.out _ _ _ (HUP.out _ hbX) hva hvb).mono ?_); rintro e wE ⟨vm, rfl, hvm, hbE⟩; have hwX := bnd_call hwX (Nat.le_refl _) hbE; have hbX := bnd_call hbX (by simp) hbE))
      have hvm := hvm.toSl intS
      clear hva hvb
      have hvl := (HVL.out.1.below intS hwX).mono intS hwX.size
      obtain ⟨Am, cm, rfl, -⟩ := id hvm
      have HE := Lib.hid (HEQ.out _ _ _ hvl hvm)
      have hde : (de != de) = false := by simp
      clear hvm HVL hbP hw0 hwX
      go_wp2_with fail
      refine HE.out.mono ?_
      rintro e wG ⟨rfl, hbG⟩
      have hbX := bnd_call hbX (by simp) hbG
      have hvl := (hvl.below intS hbG).mono intS hbG.size
      clear hbG HE
      rcases HCS.out with ⟨h0, hra, hrb⟩ | ⟨h1, hnil⟩
      · obtain ⟨hd1, hd2⟩ := HDL.out hra hrb
        have HD := Lib.hid (And.intro hd1 hd2)
        have HN := Lib.hid (fun (k : Nat) (n : Int) (hn : dl[k]? = some n) => (by
          have hm := List.mem_of_getElem? hn
          rw [hd1] at hm
          have := ((difF_mem _ _ n).1 hm).2
          rw [difB_fnd] at this
          exact this : ((fndB a.items n != fndB b.items n) || !eqItem (fndI a.items n) (fndI b.items n)) = true))
        have HAS := Lib.hid (by have := difF_asc a.items b.items; rwa [← hd1] at this : dl.Pairwise (· < ·))
        subst h0
        clear hra hrb hd1 hd2
        have HIN := Lib.hid (fun (k : Nat) (n : Int) (hn : dl[k]? = some n) (W : World) (hW : Below wG.heap.size wG W) => Ints.at_ (hvl.below intS hW) hn)
        have hdl := hvl.len_
        clear hvl
        go_wp2
        go_loopw [60] (fun i wr => ∃ k : Nat, k ≤ dl.length ∧ i = .int .i64 k ∧ Below wG.heap.size wG wr) (fun i _ => dl.length - (intOf i).toNat)
        case atStart => exact ⟨0, Nat.zero_le _, rfl, Below.refl _ _⟩
        case round =>
          obtain ⟨k, hk, rfl, hbr⟩ := hrel
          have hbR := hbX.trans (hbr.mono (by have := hbX.size; simp at this; omega))
          obtain ⟨⟨z0, z1, z2, z3, zl⟩, y0, y1, y2, y3, yl⟩ := KC.out _ hbR
          by_cases hlt : k < dl.length
          · obtain ⟨n, hn⟩ := get_at dl hlt
            obtain ⟨bl, ol, rfl, hbl, q0⟩ := HIN.out k n hn _ hbr
            have hblw : bl < wr.heap.size := by have : bl < wG.heap.size := hbl; have := hbr.size; omega
            have hki : (k : Int) < (dl.length : Int) := by omega
            have hnn := HN.out k n hn
            have hwk : IntKind.i64.wrap ((k : Int) + 1) = (k : Int) + 1 := IntWalk.i64_in _ (by have := hdl.2.2; have := hdl.2.1; omega)
            have HPV := Lib.hid (fun (j : Nat) (hj : k = j + 1) (W : World) (hW : Below wG.heap.size wG W) => (by
              obtain ⟨m, hm⟩ := get_at dl (i := j) (by omega)
              obtain ⟨_, _, e9, _, p0⟩ := HIN.out j m hm _ hW
              cases e9
              refine ⟨m, p0, ?_⟩
              obtain ⟨h1, e1⟩ := List.getElem?_eq_some_iff.1 hm
              obtain ⟨h2, e2⟩ := List.getElem?_eq_some_iff.1 hn
              have := List.pairwise_iff_getElem.1 HAS.out j k h1 h2 (by omega)
              rw [e1, e2] at this
              exact this : ∃ m, W.cell? ⟨bl, ol + j, none⟩ = some (.int .i64 m) ∧ m < n))
            clear hn
            go_wp2_with fail
            refine (HFI.out n _ (HUP.out _ hbR)).mono ?_
            rintro e w7 ⟨rfl, hb7⟩
            obtain ⟨x, hx⟩ : ∃ x, fndI a.items n = x := ⟨_, rfl⟩
            obtain ⟨p, hp⟩ : ∃ p, fndB a.items n = p := ⟨_, rfl⟩
            rw [hx, hp] at hnn ⊢
            have bx : Below w7.heap.size w7 (w7.alloc (itmC x)) := (Below.refl _ _).alloc (Nat.le_refl _) _
            have hb7x := hb7.trans (bx.mono hb7.size)
            have hbA := bnd_call hbR (by simp) hb7x
            have hbx0 : Below (w7.heap.size + 1) (w7.alloc (itmC x)) (w7.alloc (itmC x)) := Below.refl _ _
            clear z0 z1 z2 z3 zl y0 y1 y2 y3 yl q0
            obtain ⟨⟨z0, z1, z2, z3, zl⟩, y0, y1, y2, y3, yl⟩ := KC.out _ hbA
            go_wp2_with fail
            refine (HFJ.out n _ (HUP.out _ hbA)).mono ?_
            rintro e w8 ⟨rfl, hb8⟩
            obtain ⟨y, hy⟩ : ∃ y, fndI b.items n = y := ⟨_, rfl⟩
            obtain ⟨q, hq⟩ : ∃ q, fndB b.items n = q := ⟨_, rfl⟩
            rw [hy, hq] at hnn ⊢
            have by_ : Below w8.heap.size w8 (w8.alloc (itmC y)) := (Below.refl _ _).alloc (Nat.le_refl _) _
            have hb8y := hb8.trans (by_.mono hb8.size)
            have hbxy := bnd_call hbx0 (by simp) hb8y
            have hbN := bnd_call (bnd_call hbr (Nat.le_refl _) hb7x) (Nat.le_refl _) hb8y
            obtain ⟨j0, j1, j2, j3, j4, j5, j6⟩ := itm_at (heap_newA w8 (itmC y))
            have hyl9 := heap_ltA (heap_newA w8 (itmC y))
            obtain ⟨i0, i1, i2, i3, i4, i5, i6, il⟩ := itmW_at hbxy
            have hbln := Nat.lt_of_lt_of_le hblw (bnd_call (bnd_call (Below.refl wr.heap.size wr) (Nat.le_refl _) hb7x) (Nat.le_refl _) hb8y).size
            have hne := fun W : World => Item.eql x y W
            have HBN := Lib.hid hbN
            clear hx hp hy hq hb7 hb7x hb8 hb8y hbx0 hbxy bx by_ z0 z1 z2 z3 zl y0 y1 y2 y3 yl hbA hbr hbR hblw
            rcases Nat.eq_zero_or_pos k with hk0 | hk0
            · subst hk0
              by_cases hpq0 : p = q
              · subst hpq0
                have hxy : eqItem x y = false := by simpa using hnn
                rw [hxy] at hne
                clear hnn hxy
                go_wp2
                go_roundw
                case rel => exact ⟨0 + 1, by omega, by go_num, HBN.out⟩
                case measure => simp [intOf]; omega
              · have hpq : q = !p := by cases p <;> cases q <;> simp_all
                subst hpq
                clear hnn
                go_wp2
                go_roundw
                case rel => exact ⟨0 + 1, by omega, by go_num, HBN.out⟩
                case measure => simp [intOf]; omega
            · obtain ⟨j, rfl⟩ : ∃ j, k = j + 1 := ⟨k - 1, by omega⟩
              obtain ⟨m, p0, hmn⟩ := HPV.out j rfl _ HBN.out
              have hj1 : (0 : Int) < (j : Int) + 1 := by omega
              have hjl : (j : Int) < (dl.length : Int) := by omega
              have hwj : IntKind.i64.wrap (j : Int) = (j : Int) := IntWalk.i64_in _ (by have := hdl.2.2; have := hdl.2.1; omega)
              have hnm : ¬ n ≤ m := by omega
              by_cases hpq0 : p = q
              · subst hpq0
                have hxy : eqItem x y = false := by simpa using hnn
                rw [hxy] at hne
                clear hnn hxy
                go_wp2
                go_roundw
                case rel => exact ⟨j + 1 + 1, by omega, by go_num, HBN.out⟩
                case measure => simp [intOf]; omega
              · have hpq : q = !p := by cases p <;> cases q <;> simp_all
                subst hpq
                clear hnn
                go_wp2
                go_roundw
                case rel => exact ⟨j + 1 + 1, by omega, by go_num, HBN.out⟩
                case measure => simp [intOf]; omega
          · have hki : ¬ (k : Int) < (dl.length : Int) := by omega
            have HFN := Lib.hid (show (dl.length = 0 ∧ eqL eqItem a.items b.items = true) ∨ (0 < dl.length ∧ eqL eqItem a.items b.items = false) by
              rcases Nat.eq_zero_or_pos dl.length with h0 | h0
              · have hn : difF a.items b.items = [] := by rw [← HD.out.1]; exact List.eq_nil_of_length_eq_zero h0
                exact .inl ⟨h0, (eqL_iff eqItem_iff _ _).2 (HD.out.2.1 hn)⟩
              · refine .inr ⟨h0, Bool.eq_false_iff.2 fun h => ?_⟩
                have hn := HD.out.2.2 ((eqL_iff eqItem_iff _ _).1 h)
                rw [← HD.out.1] at hn
                rw [hn] at h0
                exact absurd h0 (by simp))
            go_wp2_with fail
            refine (HIE.out _ (HUP.out _ hbR)).mono ?_
            rintro e wH ⟨rfl, hbH⟩
            have hbF := bnd_call hbR (by simp) hbH
            rcases HFN.out with ⟨h0, h1⟩ | ⟨h0, h1⟩
            · have hz : ((dl.length : Int) == 0) = true := by simp [h0]
              rw [h1]
              clear h0 h1
              go_wp2
              go_ret
              exact ⟨rfl, HUP.out _ hbF⟩
            · have hz : ((dl.length : Int) == 0) = false := by rw [beq_eq_false_iff_ne]; omega
              rw [h1]
              clear h0 h1
              go_wp2
              go_ret
              exact ⟨rfl, HUP.out _ hbF⟩
      · subst h1 hnil
        go_wp2
        go_ret
        exact ⟨rfl, HUP.out _ hbX⟩
end Go.Proofs.YtenaifmkejmdaaaGreatDoor
