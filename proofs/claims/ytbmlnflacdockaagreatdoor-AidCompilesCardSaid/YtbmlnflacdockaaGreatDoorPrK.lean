/- The program: Name. -/
import Derived.Test.YtbmlnflacdockaaGreatDoorPrJ
namespace Go.Proofs.YtbmlnflacdockaaGreatDoor
open Go.RowKit

/-- the label of an element in a language -/
def nameR (c : Cat) (e : Int) (s : ByteArray) : ByteArray := if e < 1 ∨ 64 < e ∨ rightB c s = false then ⟨#[]⟩ else nameF (prefF c.langs s) c.labels e.toNat
set_option maxRecDepth 100000 in
set_option maxHeartbeats 4000000 in
theorem Name_c (c : Cat) (el : Int) (s : ByteArray) (v1 v2 v3 : Value) (w : World) (B : Nat) (hB : B ≤ w.heap.size) (h : CatRep w B c v1 v2 v3) :
    Calls Tryz.prog 22 #[.agg #[v1, v2, v3], .int .i64 el, .string s] w fun e w' => e = .returned (.string (nameR c el s)) ∧ Below w.heap.size w w' := by
  have b1 : Below w.heap.size w (w.alloc (catC v1 v2 v3)) := (Below.refl _ _).alloc (Nat.le_refl _) _
  have KC := Lib.hid (fun (W : World) (hW : Below (w.heap.size + 1) (w.alloc (catC v1 v2 v3)) W) => (⟨(hW.cell (p := ⟨w.heap.size, 0, none⟩) (by simp)).trans (by simp), (hW.cell (p := ⟨w.heap.size, 1, none⟩) (by simp)).trans (by simp), (hW.cell (p := ⟨w.heap.size, 2, none⟩) (by simp)).trans (by simp)⟩ : W.cell? ⟨w.heap.size, 0, none⟩ = some v1 ∧ W.cell? ⟨w.heap.size, 1, none⟩ = some v2 ∧ W.cell? ⟨w.heap.size, 2, none⟩ = some v3))
  have HSP := Lib.hid (fun (W : World) (hW : Below w.heap.size w W) => speaks_c c s v1 v2 v3 W B (Nat.le_trans hB hW.size) (h.below (hW.mono hB)))
  have hb0 : Below (w.heap.size + 1) (w.alloc (catC v1 v2 v3)) (w.alloc (catC v1 v2 v3)) := Below.refl _ _
  by_cases h1 : el < 1
  · have HE := Lib.hid (show nameR c el s = ⟨#[]⟩ by unfold nameR; rw [if_pos (.inl h1)])
    have hd1 : decide (el < 1) = true := decide_eq_true h1
    go_enter Tryz.func22, Tryz.ntmps22
    go_wp2
    go_ret
    exact ⟨ret_val (congrArg Value.string HE.out.symm), b1⟩
  · have hd1 : decide (el < 1) = false := decide_eq_false h1
    by_cases h2 : 64 < el
    · have HE := Lib.hid (show nameR c el s = ⟨#[]⟩ by unfold nameR; rw [if_pos (.inr (.inl h2))])
      have hd2 : decide (64 < el) = true := decide_eq_true h2
      go_enter Tryz.func22, Tryz.ntmps22
      go_wp2
      go_ret
      exact ⟨ret_val (congrArg Value.string HE.out.symm), b1⟩
    · have hd2 : decide (64 < el) = false := decide_eq_false h2
      obtain ⟨n, rfl⟩ := Int.eq_ofNat_of_zero_le (show 0 ≤ el by omega)
      have hn : n < 100 := by omega
      cases hr : rightB c s
      · have HE := Lib.hid (show nameR c n s = ⟨#[]⟩ by unfold nameR; rw [if_pos (.inr (.inr hr))])
        rw [hr] at HSP
        clear h1 h2 hr
        go_enter Tryz.func22, Tryz.ntmps22
        go_wp2_with fail
        refine (HSP.out _ b1).mono ?_
        rintro e w2 ⟨rfl, hb2⟩
        go_wp2
        go_ret
        exact ⟨ret_val (congrArg Value.string HE.out.symm), b1.trans (hb2.mono (by simp))⟩
      · obtain ⟨hc0, hsl⟩ := rightB_iff hr
        obtain ⟨hz1, -, -, -⟩ := catE_zero hc0
        obtain ⟨l1, l2, l3, -⟩ := langE_zero hz1
        have HE := Lib.hid (show nameR c n s = nameF (prefP c.langs s) c.labels n by
          unfold nameR
          rw [if_neg (by rw [hr]; simp; omega), pref_eq l3 hsl]
          rfl)
        have HPR := Lib.hid (fun (W : World) (hW : Below w.heap.size w W) => prefer_c c s v1 v2 v3 W B (Nat.le_trans hB hW.size) (h.langs.below strS (hW.mono hB)) hsl l2)
        have HNA := Lib.hid (fun (vp : Value) (W : World) (hW : Below w.heap.size w W) (hp : Strs W W.heap.size (prefP c.langs s) vp) => name_c c n (prefP c.langs s) v1 v2 v3 vp W B (Nat.le_trans hB hW.size) (h.labels.below labS (hW.mono hB)) hp hn)
        rw [hr] at HSP
        clear hr h1 h2 hz1 l1 l2 l3 hc0 hsl
        go_enter Tryz.func22, Tryz.ntmps22
        go_wp2_with fail
        refine (HSP.out _ b1).mono ?_
        rintro e w2 ⟨rfl, hb2⟩
        have hbX := bnd_call hb0 (by simp) hb2
        go_wp2
        have hbX := hbX.drew
        go_region_held3 (fun W => W.cell? ⟨w.heap.size, 0, none⟩ = some v1 ∧ W.cell? ⟨w.heap.size, 1, none⟩ = some v2 ∧ W.cell? ⟨w.heap.size, 2, none⟩ = some v3) (with_reducible exact KC.out _ hbX) (first
          | (go_at_call 33; (with_reducible refine (HPR.out _ (b1.trans (hbX.mono (Nat.le_succ _)))).mono ?_); rintro e wP ⟨vp, rfl, hownP, hb'⟩; have kP := hownP.toSl strS; have hbX := bnd_call hbX (by simp) hb')
          | (go_at_call 56; (with_reducible refine (HNA.out _ _ (b1.trans (hbX.mono (Nat.le_succ _))) kP).mono ?_); rintro e wQ ⟨rfl, hb''⟩; have hbX := bnd_call hbX (by simp) hb''))
        go_wp2
        go_ret
        exact ⟨ret_val (congrArg Value.string HE.out.symm), b1.trans (hbX.mono (Nat.le_succ _))⟩
end Go.Proofs.YtbmlnflacdockaaGreatDoor
