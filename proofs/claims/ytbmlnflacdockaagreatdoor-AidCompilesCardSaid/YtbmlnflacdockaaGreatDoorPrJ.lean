/- The program: name. -/
import Derived.Test.YtbmlnflacdockaaGreatDoorPrI
import Derived.Test.YtbmlnflacdockaaGreatDoorShelf
namespace Go.Proofs.YtbmlnflacdockaaGreatDoor
open Go.RowKit

theorem digits_le {i : Nat} (h : i < 100) : (⟨(Lib.decDigits i).toArray⟩ : ByteArray).size ≤ 2 := by
  show (Lib.decDigits i).toArray.size ≤ 2
  rw [List.size_toArray, Lib.decDigits]
  split
  · simp
  · rw [Lib.decDigits]
    split
    · simp
    · omega
/-- what an element is called that has no label -/
def elemS (e : Nat) : ByteArray := ⟨#[101, 108, 101, 109, 101, 110, 116, 32]⟩ ++ ⟨(Lib.decDigits e).toArray⟩
/-- the label by a preference, as the program finds it -/
def nameP (ord : List ByteArray) (e : Int) : ByteArray → Int → List Label → ByteArray
  | t, _, [] => t
  | t, b, x :: r => if x.el = e ∧ rankF ord x.lang < b then nameP ord e x.text (rankF ord x.lang) r else nameP ord e t b r
theorem nameP_cons (ord : List ByteArray) (e : Int) (t : ByteArray) (b : Int) (x : Label) (r : List Label) : nameP ord e t b (x :: r) = if x.el = e ∧ rankF ord x.lang < b then nameP ord e x.text (rankF ord x.lang) r else nameP ord e t b r := rfl
def nameF (ord : List ByteArray) (l : List Label) (e : Nat) : ByteArray := nameP ord e (elemS e) ord.length l
set_option maxRecDepth 100000 in
set_option maxHeartbeats 4000000 in
theorem name_c (c : Cat) (el : Nat) (ord : List ByteArray) (v1 v2 v3 vo : Value) (w : World) (B : Nat) (hB : B ≤ w.heap.size) (h : Labels w B c.labels v2) (ho : Strs w w.heap.size ord vo) (hel : el < 100) :
    Calls Tryz.prog 56 #[.agg #[v1, v2, v3], .int .i64 el, vo] w fun e w' => e = .returned (.string (nameF ord c.labels el)) ∧ Below w.heap.size w w' := by
  have b1 : Below w.heap.size w (w.alloc (catC v1 v2 v3)) := (Below.refl _ _).alloc (Nat.le_refl _) _
  have KC := Lib.hid (fun (W : World) (hW : Below (w.heap.size + 1) (w.alloc (catC v1 v2 v3)) W) => (⟨(hW.cell (p := ⟨w.heap.size, 1, none⟩) (by simp)).trans (by simp), by have := hW.size; simp at this; omega⟩ : W.cell? ⟨w.heap.size, 1, none⟩ = some v2 ∧ w.heap.size < W.heap.size))
  obtain ⟨Ao, co, rfl, hd1, hd2, _⟩ := id ho
  have HRK := Lib.hid (fun (x : ByteArray) (W : World) (hW : Below w.heap.size w W) => sindex_c x ord (.slice Ao ord.length co) W (fun b => b < w.heap.size) (fun b hb => Nat.lt_of_lt_of_le hb hW.size) (ho.below strS hW))
  have HIT := Lib.hid (fun (W : World) => Tryz.strconv_Itoa_small el hel W)
  have hdg := digits_le hel
  have HE := Lib.hid (show nameF ord c.labels el = nameP ord el (elemS el) ord.length (c.labels.drop 0) from rfl)
  have HEL := Lib.hid (show elemS el = ⟨#[101, 108, 101, 109, 101, 110, 116, 32]⟩ ++ ⟨(Lib.decDigits el).toArray⟩ from rfl)
  generalize (⟨(Lib.decDigits el).toArray⟩ : ByteArray) = dg at *
  generalize elemS el = t0 at *
  obtain ⟨ls, xs, sh⟩ := c
  simp only at h HE KC b1 ⊢
  obtain ⟨A, ca, rfl, hc1, hc2, _⟩ := id h
  obtain ⟨z1, zl⟩ := KC.out _ (Below.refl _ _)
  have hq0 : ¬ 9223372036854775807 < 8 + dg.size := by omega
  have HX := h
  go_enter Tryz.func56, Tryz.ntmps56
  go_wp2_with fail
  refine (HIT.out _).mono ?_
  rintro e w1 ⟨rfl, rfl⟩
  go_wp2
  go_loopw [7, 8, 20] (fun v7 v8 v20 wr => ∃ (k : Nat) (t : ByteArray) (b : Int), k ≤ xs.length ∧ v7 = .string t ∧ v8 = .int .i64 b ∧ v20 = .int .i64 k ∧ Hid (nameF ord xs el = nameP ord el t b (xs.drop k)) ∧ Below (w.heap.size + 1) (w.alloc (catC v1 (.slice A xs.length ca) v3)) wr) (fun _ _ v20 _ => xs.length - (intOf v20).toNat)
  case atStart => exact ⟨0, _, _, Nat.zero_le _, congrArg Value.string HEL.out.symm, rfl, rfl, HE, Below.refl _ _⟩
  case round =>
    clear HE
    obtain ⟨k, t, bb, hk, rfl, rfl, rfl, HS, hbX⟩ := hrel
    have Br := b1.trans (hbX.mono (Nat.le_succ _))
    have hsr := Br.size
    by_cases hlt : k < xs.length
    · obtain ⟨x, hx⟩ := get_at xs hlt
      have HD := Lib.hid (drop_at hx)
      obtain ⟨b, off, rfl, hbB, g0, g1, g2, g3⟩ := Labels.at_ (HX.below labS (Br.mono hB)) hx
      have hbw : b < wr.heap.size := by omega
      have bx := (Below.refl wr.heap.size wr).alloc (Nat.le_refl _) (labC x)
      have B2 := Br.trans (bx.mono hsr)
      have HN := Lib.hid (show nameF ord xs el = if x.el = el ∧ rankF ord x.lang < bb then nameP ord el x.text (rankF ord x.lang) (xs.drop (k + 1)) else nameP ord el t bb (xs.drop (k + 1)) by rw [HS.out, HD.out, nameP_cons])
      clear hx
      by_cases he : x.el = (el : Int)
      · have he1 : (x.el == (el : Int)) = true := by simp [he]
        have HEE := Lib.hid he
        clear he
        by_cases hr : rankF ord x.lang < bb
        · have hr1 : decide (idxF (fun y => decide (y = x.lang)) ord < bb) = true := decide_eq_true hr
          have HM := Lib.hid (HN.out.trans (if_pos ⟨HEE.out, hr⟩))
          clear hr HN
          go_wp2_with fail
          refine (HRK.out _ _ B2).mono ?_
          rintro e w7 ⟨rfl, rfl⟩
          go_wp2
          go_roundw
          case rel => exact ⟨k + 1, _, _, by omega, rfl, rfl, by go_num, HM, bnd_alloc hbX (by simp) _⟩
          case measure => simp [intOf]; omega
        · have hr1 : decide (idxF (fun y => decide (y = x.lang)) ord < bb) = false := decide_eq_false hr
          have HM := Lib.hid (HN.out.trans (if_neg (fun c => hr c.2)))
          clear hr HN
          go_wp2_with fail
          refine (HRK.out _ _ B2).mono ?_
          rintro e w7 ⟨rfl, rfl⟩
          go_wp2
          go_roundw
          case rel => exact ⟨k + 1, _, _, by omega, rfl, rfl, by go_num, HM, bnd_alloc hbX (by simp) _⟩
          case measure => simp [intOf]; omega
      · have he1 : (x.el == (el : Int)) = false := by simp [he]
        have HM := Lib.hid (HN.out.trans (if_neg (fun c => he c.1)))
        clear he HN
        go_wp2_with fail
        refine (HRK.out _ _ B2).mono ?_
        rintro e w7 ⟨rfl, rfl⟩
        go_wp2
        go_roundw
        case rel => exact ⟨k + 1, _, _, by omega, rfl, rfl, by go_num, HM, bnd_alloc hbX (by simp) _⟩
        case measure => simp [intOf]; omega
    · have HR := Lib.hid (show nameF ord xs el = t by rw [HS.out, List.drop_of_length_le (by omega)]; rfl)
      go_wp2
      go_ret
      exact ⟨ret_val (congrArg Value.string HR.out.symm), Br⟩
end Go.Proofs.YtbmlnflacdockaaGreatDoor
