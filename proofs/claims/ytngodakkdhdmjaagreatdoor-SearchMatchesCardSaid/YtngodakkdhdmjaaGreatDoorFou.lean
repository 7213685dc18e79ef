/- The program: whether a node finds words in the fields of a unit. -/
import Derived.Test.YtngodakkdhdmjaaGreatDoorQrs
import Derived.Test.YtngodakkdhdmjaaGreatDoorPus
import Derived.Test.YtngodakkdhdmjaaGreatDoorBas
namespace Go.Proofs.YtngodakkdhdmjaaGreatDoor
open Go.RowKit

/-- a row as a slice of it -/
theorem SlRep.piece {α : Type} {k : Nat} {R : CRep α} {w : World} {F : Nat → Prop} {xs : List α} {b off n c : Nat} (h : SlRep k R w F xs (.slice (some ⟨b, off, none⟩) n c)) {i m : Nat} (hi : i + m ≤ xs.length) : SlRep k R w F ((xs.drop i).take m) (.slice (some ⟨b, off + i * k, none⟩) m (c - i)) := by
  obtain ⟨A', c', e, h1, h2, h3⟩ := h
  injection e with e1 e2 e3
  subst e1 e2 e3
  have hl : ((xs.drop i).take m).length = m := by rw [List.length_take, List.length_drop]; omega
  refine ⟨_, _, by rw [hl], by omega, by omega, fun j x hx => ?_⟩
  have hj := lt_of_at hx
  rw [List.getElem?_take, if_pos (by omega), List.getElem?_drop] at hx
  obtain ⟨b', off', cs, hA, hF, hr, hc⟩ := h3 (i + j) x hx
  injection hA with hA
  injection hA with hA1 hA2
  subst hA1 hA2
  refine ⟨b, off + i * k, cs, rfl, hF, hr, fun q u hu => ?_⟩
  have := hc q u hu
  rwa [show off + (i + j) * k + q = off + i * k + j * k + q by rw [Nat.add_mul]; omega] at this
set_option maxHeartbeats 2000000 in
theorem eqStr_c (xs ys : List ByteArray) (v v' : Value) (w : World) (B : Nat) (hB : B ≤ w.heap.size) (h : SlRep 1 (flat strEnc) w (fun b => b < B) xs v) (h' : SlRep 1 (flat strEnc) w (fun b => b < B) ys v') :
    Calls Tryz.prog 14 #[v, v'] w fun e w' => e = .returned (.bool (decide (xs = ys))) ∧ Below w.heap.size w w' := by
  obtain ⟨A, c, rfl, hc1, hc2, _⟩ := id h
  obtain ⟨A', c', rfl, hd1, hd2, _⟩ := id h'
  by_cases hl : xs.length = ys.length
  · have H0 := Lib.hid (show decide (xs = ys) = decide (xs.drop 0 = ys.drop 0) from rfl)
    obtain ⟨n, hn⟩ : ∃ n, ys.length = n := ⟨_, rfl⟩
    have HX := Lib.hid hl
    have HN := Lib.hid hn
    rw [hl, hn] at h ⊢
    rw [hn] at h'
    have hcn : n ≤ 9223372036854775807 := by omega
    have HR := Lib.hid (fun (W : World) (hW : Below w.heap.size w W) => And.intro (h.below strS (hW.mono hB)) (h'.below strS (hW.mono hB)))
    clear hl hc1 hc2 hd1 hd2 h h'
    go_enter Tryz.func14, Tryz.ntmps14
    go_wp2
    go_loopw [13] (fun i wr => ∃ k : Nat, k ≤ n ∧ i = .int .i64 k ∧ Hid (decide (xs = ys) = decide (xs.drop k = ys.drop k)) ∧ Below w.heap.size w wr) (fun i _ => n - (intOf i).toNat)
    case atStart => exact ⟨0, Nat.zero_le _, rfl, H0, Below.refl _ _⟩
    case round =>
      clear H0
      obtain ⟨k, hk, rfl, HS, bw⟩ := hrel
      obtain ⟨h, h'⟩ := HR.out _ bw
      have hws := bw.size
      by_cases hlt : k < n
      · obtain ⟨x, hx⟩ := get_at xs (show k < xs.length by rw [HX.out, HN.out]; exact hlt)
        obtain ⟨y, hy⟩ := get_at ys (show k < ys.length by rw [HN.out]; exact hlt)
        obtain ⟨b, off, rfl, hbB, g0⟩ := Strs.at_ h hx
        obtain ⟨b', off', rfl, hbB', q0⟩ := Strs.at_ h' hy
        have hbw : b < wr.heap.size := by have : b < B := hbB; omega
        have hbw' : b' < wr.heap.size := by have : b' < B := hbB'; omega
        have hwk : IntKind.i64.wrap ((k : Int) + 1) = (k : Int) + 1 := IntWalk.i64_in _ (by omega)
        by_cases hxy : x = y
        · subst hxy
          have HE := Lib.hid (show decide (xs = ys) = decide (xs.drop (k + 1) = ys.drop (k + 1)) by rw [HS.out, drop_at hx, drop_at hy]; simp)
          clear hx hy
          go_wp2
          go_quiet (fail)
          go_wp2
          go_roundw
          case rel => exact ⟨k + 1, by omega, by go_num, HE, below_drewN bw _⟩
          case measure => simp [intOf]; omega
        · have HE := Lib.hid (show decide (xs = ys) = false by rw [HS.out, drop_at hx, drop_at hy]; simp [hxy])
          have hbe : (x.toList == y.toList) = false := by rw [str_eq, decide_eq_false hxy]
          clear hx hy hxy
          go_wp2
          go_quiet (fail)
          go_wp2
          go_ret
          exact ⟨ret_bool HE.out.symm, below_drewN bw _⟩
      · have HE := Lib.hid (show decide (xs = ys) = true by rw [HS.out, List.drop_of_length_le (by rw [HX.out, HN.out]; omega), List.drop_of_length_le (by rw [HN.out]; omega)]; simp)
        go_wp2
        go_ret
        exact ⟨ret_bool HE.out.symm, bw⟩
  · have HE := Lib.hid (show decide (xs = ys) = false from decide_eq_false fun e => hl (by rw [e]))
    have hne : ((xs.length : Int) != (ys.length : Int)) = true := by simp; omega
    generalize xs.length = n1 at *
    generalize ys.length = n2 at *
    clear hl h h'
    go_enter Tryz.func14, Tryz.ntmps14
    go_wp2
    go_ret
    exact ⟨ret_bool HE.out.symm, Below.refl _ _⟩
abbrev wdsC (x : Wds) (v : Value) : Obj := .cells #[.int .i64 x.field, v] 109
theorem wdsW_at {w W : World} {x : Wds} {v : Value} (hW : Below (w.heap.size + 1) (w.alloc (wdsC x v)) W) : W.cell? ⟨w.heap.size, 0, none⟩ = some (.int .i64 x.field) ∧ W.cell? ⟨w.heap.size, 1, none⟩ = some v ∧ w.heap.size < W.heap.size :=
  ⟨(hW.cell (p := ⟨w.heap.size, 0, none⟩) (by simp)).trans (by simp), (hW.cell (p := ⟨w.heap.size, 1, none⟩) (by simp)).trans (by simp), by have := hW.size; simp at this; omega⟩
theorem atB_drop {a : Ask} {want l : List ByteArray} {j : Nat} {x : ByteArray} (h : l[j]? = some x) : atB a want (l.drop j) = ((if a.op = 2 then pfxB a.text x else decide ((l.drop j).take want.length = want)) || atB a want (l.drop (j + 1))) := by
  rw [drop_at h, atB]
theorem take_long {l want : List ByteArray} {j : Nat} (hj : j ≤ l.length) (h : ¬ j + want.length ≤ l.length) : decide ((l.drop j).take want.length = want) = false := by
  rw [decide_eq_false_iff_not]
  intro e
  have := congrArg List.length e
  rw [List.length_take, List.length_drop] at this
  omega
set_option maxRecDepth 100000 in
set_option maxHeartbeats 8000000 in
theorem found_c (fs : List Wds) (a : Ask) (v : Value) (w : World) (B : Nat) (hB : B ≤ w.heap.size) (h : Wdss w B fs v) (hs : a.text.size ≤ 1000000) (hl : ∀ f ∈ fs, f.list.length ≤ 1000000) (hV : VarOk w) :
    Calls Tryz.prog 75 #[v, askV a] w fun e w' => e = .returned (.bool (fndB fs a)) ∧ Below w.heap.size w w' := by
  have b0 : Below w.heap.size w (w.alloc (askC a)) := (Below.refl _ _).alloc (Nat.le_refl _) _
  have KC := Lib.hid (fun (W : World) (hW : Below (w.heap.size + 1) (w.alloc (askC a)) W) => askW_at hW)
  have HUP := Lib.hid (fun (W : World) (hW : Below (w.heap.size + 1) (w.alloc (askC a)) W) => b0.trans (hW.mono (Nat.le_succ _)))
  have hs1 : w.heap.size + 1 ≤ (w.alloc (askC a)).heap.size := by simp
  have HF := Lib.hid (fun (W : World) (hW : Below w.heap.size w W) => (h.below wdsS (hW.mono hB) : Wdss W B fs v))
  have HLL := Lib.hid hl
  have HSP := Lib.hid (split_c 32 a.text (w.alloc (askC a)) hs (hV.below b0))
  have HWL := Lib.hid (show (wntF a.text).length ≤ 1000001 from Nat.le_trans (splB_lt 32 a.text) (by omega))
  have HWP := Lib.hid (show 1 ≤ (wntF a.text).length by have := splB_len 32 a.text; show 1 ≤ (splB 32 a.text).length; omega)
  rw [show splB 32 a.text = wntF a.text from rfl, show (w.alloc (askC a)).heap.size = w.heap.size + 1 by simp] at HSP
  have H0 := Lib.hid (show fndB fs a = (fs.drop 0).any fun f => (decide (a.field = 0) || decide (a.field = f.field)) && atB a (wntF a.text) f.list from rfl)
  obtain ⟨A, c, rfl, hfc1, hfc2, -⟩ := id h
  have bX : Below (w.heap.size + 1) (w.alloc (askC a)) (w.alloc (askC a)) := Below.refl _ _
  clear h hl hV
  generalize wntF a.text = want at *
  go_enter Tryz.func75, Tryz.ntmps75
  go_wp2_with fail
  refine HSP.out.mono ?_
  rintro e w1 ⟨rfl, hsl, hb1, hn1⟩
  have bX := bX.trans hb1
  have hw1 : w1.heap.size = w.heap.size + 2 := by omega
  have HWT := Lib.hid (fun (W : World) (hW : Below w1.heap.size w1 W) => (hsl.monoF strS (F' := fun b => b < w1.heap.size) (fun b hb => by have e : b = w.heap.size + 1 := hb; omega)).below strS hW)
  have HK1 := Lib.hid (fun (W : World) (hW : Below w1.heap.size w1 W) => bX.trans (hW.mono (by omega)))
  have hwl : want.length ≤ 1000001 := HWL.out
  clear hsl HSP hb1 hn1 bX
  go_wp2
  go_loopw [15] (fun i wr => ∃ k : Nat, k ≤ fs.length ∧ i = .int .i64 k ∧ Hid (fndB fs a = (fs.drop k).any fun f => (decide (a.field = 0) || decide (a.field = f.field)) && atB a want f.list) ∧ Below w1.heap.size w1 wr) (fun i _ => fs.length - (intOf i).toNat)
  case atStart => exact ⟨0, Nat.zero_le _, rfl, H0, Below.refl _ _⟩
  case round =>
    clear H0
    obtain ⟨k, hk, rfl, HS, bi⟩ := hrel
    obtain ⟨wo, rfl⟩ : ∃ wo : World, wo = wr := ⟨_, rfl⟩
    have bw := HUP.out _ (HK1.out _ bi)
    by_cases hlt : k < fs.length
    · obtain ⟨x, hx⟩ := get_at fs hlt
      obtain ⟨b, off, vx, rfl, hbB, q0, q1, hvx⟩ := Wdss.at_ (HF.out _ bw) hx
      have hbw : b < wo.heap.size := by have : b < B := hbB; have := bw.size; omega
      have hki : (k : Int) < (fs.length : Int) := by omega
      have hwk : IntKind.i64.wrap ((k : Int) + 1) = (k : Int) + 1 := IntWalk.i64_in _ (by omega)
      have HD := Lib.hid (show fndB fs a = (((decide (a.field = 0) || decide (a.field = x.field)) && atB a want x.list) || (fs.drop (k + 1)).any fun f => (decide (a.field = 0) || decide (a.field = f.field)) && atB a want f.list) by rw [HS.out, drop_at hx, List.any_cons])
      have hxl := HLL.out x (List.mem_of_getElem? hx)
      have bo : Below wo.heap.size wo (wo.alloc (wdsC x vx)) := (Below.refl _ _).alloc (Nat.le_refl _) _
      have HVX := Lib.hid (fun (W : World) (hW : Below wo.heap.size wo W) => hvx.below strS (hW.mono (Nat.le_trans hB bw.size)))
      have KX := Lib.hid (fun (W : World) (hW : Below (wo.heap.size + 1) (wo.alloc (wdsC x vx)) W) => (by
        have hW' : Below wo.heap.size wo W := bo.trans (hW.mono (Nat.le_succ _))
        obtain ⟨z0, z1, z2, z3, zl⟩ := KC.out _ (HK1.out _ (bi.trans (hW'.mono bi.size)))
        obtain ⟨y0, y1, yl⟩ := wdsW_at hW
        exact ⟨z0, z1, z2, z3, zl, y0, y1, yl⟩ : W.cell? ⟨w.heap.size, 0, none⟩ = some (.int .i64 a.op) ∧ W.cell? ⟨w.heap.size, 1, none⟩ = some (.int .i64 a.field) ∧ W.cell? ⟨w.heap.size, 2, none⟩ = some (.int .i64 a.num) ∧ W.cell? ⟨w.heap.size, 3, none⟩ = some (.string a.text) ∧ w.heap.size < W.heap.size ∧ W.cell? ⟨wo.heap.size, 0, none⟩ = some (.int .i64 x.field) ∧ W.cell? ⟨wo.heap.size, 1, none⟩ = some vx ∧ wo.heap.size < W.heap.size))
      have HUX := Lib.hid (fun (W : World) (hW : Below (wo.heap.size + 1) (wo.alloc (wdsC x vx)) W) => (bi.trans ((bo.trans (hW.mono (Nat.le_succ _))).mono bi.size) : Below w1.heap.size w1 W))
      obtain ⟨z0, z1, z2, z3, zl, y0, y1, yl⟩ := KX.out _ (Below.refl _ _)
      clear hx HS bw
      obtain ⟨Ax, cx, rfl, -⟩ := id hvx
      clear hvx
      cases hc : (decide (a.field = 0) || decide (a.field = x.field))
      · have HN := Lib.hid (show fndB fs a = (fs.drop (k + 1)).any fun f => (decide (a.field = 0) || decide (a.field = f.field)) && atB a want f.list by rw [HD.out, hc]; rfl)
        have hc1 : (a.field != 0) = true := by simp at hc ⊢; exact hc.1
        have hc2 : (a.field != x.field) = true := by simp at hc ⊢; exact hc.2
        clear hc HD
        go_wp2
        go_roundw
        case rel => exact ⟨k + 1, by omega, by go_num, HN, HUX.out _ (Below.refl _ _)⟩
        case measure => simp [intOf]; omega
      · have HN := Lib.hid (show fndB fs a = (atB a want (x.list.drop 0) || (fs.drop (k + 1)).any fun f => (decide (a.field = 0) || decide (a.field = f.field)) && atB a want f.list) by rw [HD.out, hc]; rfl)
        have hc' : (a.field != 0) = false ∨ ((a.field != 0) = true ∧ (a.field != x.field) = false) := by
          simp only [Bool.or_eq_true, decide_eq_true_eq] at hc
          by_cases h0 : a.field = 0
          · exact .inl (by simp [h0])
          · exact .inr ⟨by simp [h0], by simp [hc.resolve_left h0]⟩
        clear hc HD
        rcases hc' with hc1 | ⟨hc1, hc2⟩
        all_goals
          go_wp2
          clear z0 z1 z2 z3 zl y0 y1 yl q0 q1 hbw hbB
          go_loopw [32] (fun i wr => ∃ j : Nat, j ≤ x.list.length ∧ i = .int .i64 j ∧ Hid (fndB fs a = (atB a want (x.list.drop j) || (fs.drop (k + 1)).any fun f => (decide (a.field = 0) || decide (a.field = f.field)) && atB a want f.list)) ∧ Below (wo.heap.size + 1) (wo.alloc (wdsC x (.slice Ax x.list.length cx))) wr) (fun i _ => x.list.length - (intOf i).toNat)
          case atStart => exact ⟨0, Nat.zero_le _, rfl, HN, Below.refl _ _⟩
          case round =>
            clear HN
            obtain ⟨j, hj, rfl, HS, bq⟩ := hrel
            have bwo := bo.trans (bq.mono (Nat.le_succ _))
            obtain ⟨z0, z1, z2, z3, zl, y0, y1, yl⟩ := KX.out _ bq
            by_cases hlj : j < x.list.length
            · obtain ⟨t, ht⟩ := get_at x.list hlj
              have hvq := HVX.out _ bwo
              obtain ⟨bt, ot, rfl, hbt, t0⟩ := Strs.at_ hvq ht
              have hbtw : bt < wr.heap.size := by have : bt < B := hbt; have := (HUP.out _ (HK1.out _ (HUX.out _ bq))).size; omega
              have hji : (j : Int) < (x.list.length : Int) := by omega
              have hwj : IntKind.i64.wrap ((j : Int) + 1) = (j : Int) + 1 := IntWalk.i64_in _ (by omega)
              have HD := Lib.hid (atB_drop (a := a) (want := want) ht)
              have HFN := Lib.hid (fun (W : World) => hasPrefix_c t a.text W)
              by_cases ho : a.op = 2
              · have ho1 : (a.op == 2) = true := by rw [ho]; rfl
                have ho2 : (a.op != 2) = false := by rw [ho]; rfl
                have HD := Lib.hid (show atB a want (x.list.drop j) = (pfxB a.text t || atB a want (x.list.drop (j + 1))) by rw [HD.out, if_pos ho])
                clear ht ho hvq
                cases hp : pfxB a.text t
                all_goals
                  rw [hp] at HFN
                · have HZ := Lib.hid (show fndB fs a = (atB a want (x.list.drop (j + 1)) || (fs.drop (k + 1)).any fun f => (decide (a.field = 0) || decide (a.field = f.field)) && atB a want f.list) by rw [HS.out, HD.out, hp]; rfl)
                  clear hp HS HD
                  go_wp2_with fail
                  refine (HFN.out _).mono ?_
                  rintro e w4 ⟨rfl, rfl⟩
                  go_wp2
                  go_roundw
                  case rel => exact ⟨j + 1, by omega, by go_num, HZ, bq⟩
                  case measure => simp [intOf]; omega
                · have HZ := Lib.hid (show fndB fs a = true by rw [HS.out, HD.out, hp]; rfl)
                  clear hp HS HD
                  go_wp2_with fail
                  refine (HFN.out _).mono ?_
                  rintro e w4 ⟨rfl, rfl⟩
                  go_wp2
                  go_ret
                  exact ⟨ret_bool HZ.out.symm, HUP.out _ (HK1.out _ (HUX.out _ bq))⟩
              · have ho1 : (a.op == 2) = false := by simp [ho]
                have ho2 : (a.op != 2) = true := by simp [ho]
                have HD := Lib.hid (show atB a want (x.list.drop j) = (decide ((x.list.drop j).take want.length = want) || atB a want (x.list.drop (j + 1))) by rw [HD.out, if_neg ho])
                have hwa : IntKind.i64.wrap ((j : Int) + (want.length : Int)) = (j : Int) + (want.length : Int) := IntWalk.i64_in _ (by omega)
                by_cases hfit : j + want.length ≤ x.list.length
                · have hfi : (j : Int) + (want.length : Int) ≤ (x.list.length : Int) := by omega
                  have hcx : x.list.length ≤ cx := hvq.len_.2.1
                  have hcx2 : cx ≤ 9223372036854775807 := hvq.len_.2.2
                  have hw1 := HWP.out
                  have hca : ¬ cx = j := by omega
                  have htn : ((j : Int) + (want.length : Int)).toNat - j = want.length := by omega
                  have hc3 : (j : Int) ≤ (j : Int) + (want.length : Int) := by omega
                  have hc4 : (j : Int) + (want.length : Int) ≤ (cx : Int) := by omega
                  have hc5 : (0 : Int) ≤ (j : Int) := by omega
                  have hc6 : (0 : Int) ≤ (j : Int) + (want.length : Int) := by omega
                  have HEQ := Lib.hid (eqStr_c ((x.list.drop j).take want.length) want (.slice (some ⟨bt, ot + j, none⟩) want.length (cx - j)) _ wr wr.heap.size (Nat.le_refl _) ((by have := hvq.piece hfit; rwa [Nat.mul_one] at this : SlRep 1 (flat strEnc) wr (fun b => b < B) ((x.list.drop j).take want.length) (.slice (some ⟨bt, ot + j, none⟩) want.length (cx - j))).mono strS (by have := (HUP.out _ (HK1.out _ (HUX.out _ bq))).size; omega)) ((HWT.out _ (HUX.out _ bq)).mono strS (HUX.out _ bq).size))
                  clear ht ho hvq
                  cases hp : decide ((x.list.drop j).take want.length = want)
                  all_goals
                    rw [hp] at HEQ
                  · have HZ := Lib.hid (show fndB fs a = (atB a want (x.list.drop (j + 1)) || (fs.drop (k + 1)).any fun f => (decide (a.field = 0) || decide (a.field = f.field)) && atB a want f.list) by rw [HS.out, HD.out, hp]; rfl)
                    clear hp HS HD
                    go_wp2_with fail
                    refine HEQ.out.mono ?_
                    rintro e w4 ⟨rfl, hb4⟩
                    have bq := bnd_call bq (by simp) hb4
                    go_wp2
                    go_roundw
                    case rel => exact ⟨j + 1, by omega, by go_num, HZ, bq⟩
                    case measure => simp [intOf]; omega
                  · have HZ := Lib.hid (show fndB fs a = true by rw [HS.out, HD.out, hp]; rfl)
                    clear hp HS HD
                    go_wp2_with fail
                    refine HEQ.out.mono ?_
                    rintro e w4 ⟨rfl, hb4⟩
                    have bq := bnd_call bq (by simp) hb4
                    go_wp2
                    go_ret
                    exact ⟨ret_bool HZ.out.symm, HUP.out _ (HK1.out _ (HUX.out _ bq))⟩
                · have hfi : ¬ (j : Int) + (want.length : Int) ≤ (x.list.length : Int) := by omega
                  have HZ := Lib.hid (show fndB fs a = (atB a want (x.list.drop (j + 1)) || (fs.drop (k + 1)).any fun f => (decide (a.field = 0) || decide (a.field = f.field)) && atB a want f.list) by rw [HS.out, HD.out, take_long hj hfit]; rfl)
                  clear HS HD ht ho hvq hfit
                  go_wp2
                  go_roundw
                  case rel => exact ⟨j + 1, by omega, by go_num, HZ, bq⟩
                  case measure => simp [intOf]; omega
            · have hji : ¬ (j : Int) < (x.list.length : Int) := by omega
              have HZ := Lib.hid (show fndB fs a = (fs.drop (k + 1)).any fun f => (decide (a.field = 0) || decide (a.field = f.field)) && atB a want f.list by rw [HS.out, List.drop_of_length_le (by omega)]; rfl)
              clear HS
              go_wp2
              go_roundw
              case rel => exact ⟨k + 1, by omega, by go_num, HZ, HUX.out _ bq⟩
              case measure => simp [intOf]; omega
    · have HN := Lib.hid (show fndB fs a = false by rw [HS.out, List.drop_of_length_le (by omega)]; rfl)
      have hki : ¬ (k : Int) < (fs.length : Int) := by omega
      go_wp2
      go_ret
      exact ⟨ret_bool HN.out.symm, bw⟩
end Go.Proofs.YtngodakkdhdmjaaGreatDoor
