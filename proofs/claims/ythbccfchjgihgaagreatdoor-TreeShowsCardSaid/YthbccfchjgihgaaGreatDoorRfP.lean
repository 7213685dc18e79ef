/- The reference: path. -/
import Derived.Test.YthbccfchjgihgaaGreatDoorRfK
namespace Go.Proofs.YthbccfchjgihgaaGreatDoor
open Go.RowKit

def sliLen : Value → Nat
  | .slice _ n _ => n
  | _ => 0
theorem OwnRep.lit_one {base g : Nat} {w : World} (v : Int) (hg : w.heap.size = g) (hb : base ≤ w.heap.size) : OwnRep 1 (flat intEnc) 3 base (w.alloc (.cells #[.int .i64 v] 3)) [v] (.slice (some ⟨g, 0, none⟩) 1 1) := by
  subst hg
  exact OwnRep.of_rows ⟨by simp [intEnc], .inr ⟨w.heap.size, 1, #[.int .i64 v], rfl, hb, heap_newT w _, Nat.le_refl _, by unfold maxLen; omega, by simp, by simp [intEnc]⟩⟩
theorem findU_par (l : List Brn) (u : Int) : (findU l u).1.parent = parO l u := by unfold findU parO; cases findB l u <;> rfl
/-- the way up in rounds: what is left to go, the path so far -/
def RP (t : Tre) (id0 id : Int) (out : List Int) : Prop := ∃ f, f + out.length = t.brs.length ∧ (upG t.brs t.brs.length id0).map List.reverse = (upG t.brs f id).map fun r => r.reverse ++ out
theorem RP.start (t : Tre) (id : Int) : RP t id id [] := ⟨t.brs.length, by simp, by cases upG t.brs t.brs.length id <;> simp⟩
theorem RP.fin {t : Tre} {id0 : Int} {out : List Int} (h : RP t id0 0 out) : rpathF t.brs id0 = out := by
  obtain ⟨f, h1, h2⟩ := h
  rw [upG_zero] at h2
  unfold rpathF
  cases hu : upG t.brs t.brs.length id0 with
  | none => rw [hu] at h2; cases h2
  | some xs => rw [hu] at h2; simp at h2; simp [h2]
theorem RP.step {t : Tre} {id0 id : Int} {out : List Int} (h : RP t id0 id out) (h0 : id ≠ 0) : (t.brs.length < (id :: out).length → rpathF t.brs id0 = []) ∧ (¬ t.brs.length < (id :: out).length → RP t id0 (parO t.brs id) (id :: out)) := by
  obtain ⟨f, h1, h2⟩ := h
  rw [List.length_cons]
  refine ⟨fun hl => ?_, fun hl => ?_⟩
  · obtain rfl : f = 0 := by omega
    rw [upG_none _ h0] at h2
    unfold rpathF
    cases hu : upG t.brs t.brs.length id0 with
    | none => rfl
    | some xs => rw [hu] at h2; cases h2
  · obtain ⟨g, rfl⟩ : ∃ g, f = g + 1 := ⟨f - 1, by omega⟩
    refine ⟨g, by rw [List.length_cons]; omega, ?_⟩
    rw [h2, upG_succ _ _ h0]
    cases upG t.brs g (parO t.brs id) <;> simp
theorem RP.len {t : Tre} {id0 id : Int} {out : List Int} (h : RP t id0 id out) : out.length ≤ t.brs.length := by obtain ⟨f, h1, -⟩ := h; omega
set_option maxRecDepth 100000 in
set_option maxHeartbeats 8000000 in
theorem rpath_c (t : Tre) (hn : t.brs.length ≤ 100000) (u : Int) (vr vb : Value) (w : World) (B : Nat) (hB : B ≤ w.heap.size) (h : TreRep w B t vr vb) :
    Calls Tryz.prog 54 #[treV vr vb, .int .i64 u] w fun e w' => ∃ v', e = .returned v' ∧ OwnRep 1 (flat intEnc) 3 w.heap.size w' (rpathF t.brs u) v' ∧ Below w.heap.size w w' := by
  have b1 := tre_new w vr vb
  have hs1 : w.heap.size + 1 ≤ (w.alloc (treC vr vb)).heap.size := by simp
  have KC := Lib.hid (fun (W : World) (hW : Below (w.heap.size + 1) (w.alloc (treC vr vb)) W) => treW_at hW)
  have HUP := Lib.hid (fun (W : World) (hW : Below (w.heap.size + 1) (w.alloc (treC vr vb)) W) => b1.trans (hW.mono (Nat.le_succ _)))
  have HFI := Lib.hid (fun (u : Int) (W : World) (hW : Below w.heap.size w W) => rfind_c t u vr vb W B (Nat.le_trans hB hW.size) (h.below (hW.mono hB)))
  obtain ⟨Ar, cr, rfl, -⟩ := id h.tops
  obtain ⟨A, ca, rfl, -⟩ := id h.brs
  clear h
  go_enter Tryz.func54, Tryz.ntmps54
  go_wp2
  go_loopw [1, 5] (fun t1 t5 wr => ∃ (v : Int) (out : List Int), t1 = .int .i64 v ∧ RP t u v out ∧ OwnRep 1 (flat intEnc) 3 (w.heap.size + 1) wr out t5 ∧ Below (w.heap.size + 1) (w.alloc (treC (.slice Ar t.roots.length cr) (.slice A t.brs.length ca))) wr) (fun _ t5 _ => t.brs.length + 1 - sliLen t5)
  case atStart => exact ⟨u, [], rfl, RP.start t u, OwnRep.nil_, Below.refl _ _⟩
  case round =>
    obtain ⟨v, out, rfl, HP, hown, bX⟩ := hrel
    have bw := HUP.out _ bX
    obtain ⟨z0, z1, zl⟩ := KC.out _ bX
    by_cases h0 : v = 0
    · have hid : (v != 0) = false := by simp [h0]
      subst h0
      have HE := Lib.hid HP.fin
      obtain ⟨Ao, co, rfl, -⟩ := id (hown.toSl intS)
      have HO := Lib.hid hown
      clear hown HP
      go_wp2
      go_ret
      exact ⟨_, rfl, by rw [HE.out]; exact HO.out.base_le (Nat.le_succ _), bw⟩
    · have hid : (v != 0) = true := by simpa using h0
      have HS := Lib.hid (HP.step h0)
      have hol := HP.len
      have HF := Lib.hid (HFI.out v wr bw)
      obtain ⟨x, hx⟩ : ∃ x, (findU t.brs v).1 = x := ⟨_, rfl⟩
      obtain ⟨bo, hbo⟩ : ∃ b, (findU t.brs v).2 = b := ⟨_, rfl⟩
      have HPX := Lib.hid (show x.parent = parO t.brs v by rw [← hx, findU_par])
      rw [hx, hbo] at HF
      clear hx hbo h0 HP
      go_wp2_with fail
      refine HF.out.mono ?_
      rintro e w4 ⟨rfl, hb4⟩
      have hA : w.heap.size + 1 ≤ wr.heap.size := Nat.le_trans hs1 bX.size
      have hB4 := hb4.size
      have hb5 : Below wr.heap.size wr (w4.alloc (untC x)) := hb4.alloc hb4.size _
      have bY := bnd_call bX hs1 hb5
      have hown5 := hown.below intS hb5
      have hw5 : (w4.alloc (untC x)).heap.size = w4.heap.size + 1 := by simp
      obtain ⟨u0, u1, u2, u3, u4, ul⟩ := unt_cells (heap_newT w4 (untC x))
      have HXL := Lib.hid hown5.own_lt
      obtain ⟨Ao, co, rfl, -⟩ := id (hown5.toSl intS)
      clear z0 z1 zl hb4 hown
      go_wp2_with (at_builtin; refine stop_intro ?_)
      refine stop_elim ?_
      have bZ : Below (w.heap.size + 1) (w.alloc (treC (.slice Ar t.roots.length cr) (.slice A t.brs.length ca))) ((w4.alloc (untC x)).alloc (.cells #[.int .i64 v] 3)) := bY.alloc (by rw [hw5]; omega) _
      have hown6 := hown5.below intS ((Below.refl _ _).alloc (Nat.le_refl _) (.cells #[.int .i64 v] 3))
      refine wpList_append_rep (xs := [v]) rfl intS intE_ (w.heap.size + 1) (.tmp 17) (.tmp 18) rfl rfl (OwnRep.lit_one v hw5 (by rw [hw5]; omega)) rfl (ys := out) (hown6.toFlat intS) (fun b hb => ?_) ?_ (by decide) ?_ ?_
      · have h1 := (HXL.out b hb).2
        rw [hw5] at h1
        exact ⟨by simp; omega, fun e => by have e' : some (w4.heap.size + 1) = some b := e; injection e' with e'; omega⟩
      · simp; omega
      · simp; omega
      intro v6 w6 hown6 hg6 hat6
      have hb6 := bZ.grown hg6 (by simp; omega) (fun k hk => by have e' : some (w4.heap.size + 1) = some k := hk; injection e' with e'; omega)
      have hu6 := (hg6.block w4.heap.size (by simp; omega) (fun e => by have e' : some w4.heap.size = some (w4.heap.size + 1) := e; injection e' with e'; omega)).trans ((Below.heap_alloc _ _ _ (by simp)).trans (heap_newT w4 (untC x)))
      obtain ⟨y0, y1, y2, y3, y4, yl⟩ := unt_cells hu6
      have hs6 := hb6.size
      obtain ⟨q0, q1, ql⟩ := KC.out _ hb6
      obtain ⟨A6, c6, rfl, -⟩ := id (hown6.toSl intS)
      have hlen : ([v] ++ out).length = out.length + 1 := by simp
      have HO6 := Lib.hid hown6
      have hz6 := hown6.toSl intS
      have HL6 := Lib.hid hlen
      rw [hlen]
      clear hown6 hlen hg6 hat6 u0 u1 u2 u3 u4 ul hown5 hz6
      by_cases hl : t.brs.length < out.length + 1
      · have hli : (t.brs.length : Int) < ((out.length + 1 : Nat) : Int) := by omega
        have HE := Lib.hid (HS.out.1 (by simpa using hl))
        clear hl
        go_wp2
        go_ret
        exact ⟨_, rfl, by rw [HE.out]; exact OwnRep.nil_, HUP.out _ hb6⟩
      · have hli : ¬ (t.brs.length : Int) < ((out.length + 1 : Nat) : Int) := by omega
        have HE := Lib.hid (HS.out.2 (by simpa using hl))
        clear hl
        go_wp2
        go_roundw
        case rel => exact ⟨x.parent, v :: out, rfl, by rw [HPX.out]; exact HE.out, by rw [← HL6.out]; exact HO6.out, hb6⟩
        case measure => simp [sliLen]; omega
end Go.Proofs.YthbccfchjgihgaaGreatDoor
