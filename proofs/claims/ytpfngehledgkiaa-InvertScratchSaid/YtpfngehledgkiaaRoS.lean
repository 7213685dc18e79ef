/-
  InvertScratch: InvertScratch, called with any catalogs and language, returns true. No condition.
-/
import Derived.Test.YtpfngehledgkiaaLwS
import Derived.Test.YtpfngehledgkiaaRowJ
namespace Go.Proofs.Ytpfngehledgkiaa
open Go.ChangeShapes Go.WideShapes Go.ChangeAt Go.RowKit

set_option maxRecDepth 100000 in
theorem open_str_ {H : Type} {enc : TypeId × Value → H} {w : World} {base : Nat} {spare : Nat → Bool} {held : Bool} {r : Reach} {b0 : Nat} {v : Value} {d : DataW H} {p : List MemPlace} (hv : Value.okWide Try.prog w r b0 9 v) (_ : DataW.Trod enc Try.prog w base spare held 9 v d p) : ∃ s : ByteArray, v = .string s := by
  exact okWide_string Try.underlying9 hv
section
open Go.Deep
variable {H : Type} {enc : TypeId × Value → H} {w : World} {base : Nat} {spare : Nat → Bool} {held : Bool}
set_option maxRecDepth 100000 in
theorem open_Cat (n : Nat) (cs : List Value) (y : DataW H × List MemPlace) (hl : cs.length = 3) (h : DataW.trod enc Try.prog w base spare held n 33 cs = some y) : ∃ x : Cat, catR w (fun b => b < w.heap.size) x cs := by
  obtain ⟨ys, n', _, hy, hlen, hyl, hf⟩ := DataW.trod_struct Try.underlying33 h
  match cs, hl with
  | [c0, c1, c2], _ =>
    match ys, hyl with
    | [y0, y1, y2], _ =>
      have k0 : Try.prog.cellsOf 29 = 1 := by kernel_rfl
      have k1 : Try.prog.cellsOf 30 = 1 := by kernel_rfl
      have k2 : Try.prog.cellsOf 31 = 1 := by kernel_rfl
      have g0 := hf 0 _ rfl
      have g1 := hf 1 _ rfl
      have g2 := hf 2 _ rfl
      simp [k0, k1, k2] at g0 g1 g2
      obtain ⟨us0, u0, e0, q0⟩ := open_sl (R := flat strEnc) (k := 1) Try.underlying29 (by kernel_rfl) (by decide) open_strE g0
      obtain ⟨us1, u1, e1, q1⟩ := open_sl (R := flat Label.enc) (k := 4) Try.underlying30 (by kernel_rfl) (by decide) open_Label g1
      obtain ⟨us2, u2, e2, q2⟩ := open_sl (R := shtR) (k := 6) Try.underlying31 (by kernel_rfl) (by decide) open_Sheet g2
      simp at e0 e1 e2
      subst e0 e1 e2
      exact ⟨⟨us0, us1, us2⟩, _, _, _, rfl, q0, q1, q2⟩
set_option maxRecDepth 100000 in
theorem open_cats {r : Reach} {b0 : Nat} {v : Value} {d : DataW H} {p : List MemPlace} (hv : Value.okWide Try.prog w r b0 22 v) (h : DataW.Trod enc Try.prog w base spare held 22 v d p) : ∃ hs : List Cat, SlRep 3 catR w (fun b => b < w.heap.size) hs v := by
  obtain ⟨fuel, hf⟩ := h
  obtain ⟨hs, v', e, hr⟩ := open_sl (R := catR) (k := 3) Try.underlying22 (by kernel_rfl) (by decide) open_Cat hf
  refine ⟨hs, ?_⟩
  obtain ⟨A, c, e2, _⟩ := id hr
  subst e2
  obtain ⟨A', n', c', rfl⟩ := okWide_slice Try.underlying22 hv
  have e' : [Value.slice A' n' c'] = [Value.slice A hs.length c] := e
  injection e' with e'
  rw [e']
  exact hr
end
set_option maxRecDepth 100000 in
theorem scratch_lifted (os : Os) (started : os.Started) (H : Type) (enc : TypeId × Value → H) :
    ReturnsInHanded {} Try.checked os 3 .any (Rows.invertScratchSpec.pre6 enc Try.prog Try.f3 Rows.invertScratchRow.domain false) (Rows.invertScratchSpec.post enc Try.prog Try.f3 false true false false) := by
  refine returnsInHanded_of_change (C := Try.checked) own_ started (by kernel_rfl) Try.func3
    (ChangeSpec.witness6 (enc := enc) (C := Try.checked) false ⟨#[], #[.slice none 0 0, .string ⟨#[]⟩], []⟩ 8 (by kernel_rfl) (by kernel_rfl) (by kernel_rfl) (by kernel_rfl)) ?_
  intro W base args ds gs before hval0 hW hcnd _
  have hval : ∀ (j : Nat) t v, Try.f3.params[j]? = some t → args[j]? = some v → Value.okWide Try.prog W .any base t v := hval0
  have hW' := hW
  obtain ⟨p, q, hA0, hV, rfl, hfz, hnd⟩ := hW
  have hA : DataW.TrodAll enc Try.prog W 0 (fun _ => true) true Try.f3.params.toList args.toList ds p := hA0
  rw [Try.params3] at hA hval
  obtain ⟨v0, v1, d0, d1, p0, p1, rfl, rfl, rfl, h0, h1⟩ := trodAll_two hA
  obtain ⟨rfl, rfl⟩ := trodVars_none hV
  obtain ⟨hs0, hrep0⟩ := open_cats (hval 0 22 v0 rfl rfl) h0
  obtain ⟨s1, rfl⟩ := open_str_ (hval 1 9 v1 rfl rfl) h1
  clear hA0 hval0
  simp only [List.append_nil] at hW'
  have hlt0 : ∀ x ∈ p0, x.block < W.heap.size := fun x hx => hW'.lt x (by simp [hx])
  have hlt1 : ∀ x ∈ p1, x.block < W.heap.size := fun x hx => hW'.lt x (by simp [hx])
  refine (scratch_law hs0 s1 _ W W.heap.size (Nat.le_refl _) hrep0).mono fun e W' ⟨he, hb⟩ => ?_
  subst he
  refine ⟨_, rfl, post_below (pa := p0 ++ p1) (pv := []) hW' (fun _ _ _ => trodAll_mk1 (shut_bool Try.underlying4 _)) (fun sp hsp => ?_) (fun _ _ => rfl) (by simp) hb (ok_one (by kernel_rfl) rfl (okWide_bool_mk Try.underlying4 _))⟩
  have hr0 : DataW.Trod enc Try.prog W' 0 sp true 22 _ d0 p0 := WideElems.Trod_stays laidOut_ (by kernel_rfl) (of_decide_eq_true (by kernel_rfl)) h0 (fun x hx => hb.same (hlt0 x hx)) (fun x hx => hsp x (by simp [hx]))
  have hr1 : DataW.Trod enc Try.prog W' 0 sp true 9 _ d1 p1 := WideElems.Trod_stays laidOut_ (by kernel_rfl) (of_decide_eq_true (by kernel_rfl)) h1 (fun x hx => hb.same (hlt1 x hx)) (fun x hx => hsp x (by simp [hx]))
  exact trodAll_mk2 hr0 hr1

theorem scratch_holds : Rows.InvertScratchSaid :=
  OpenClaim.holds_of_wide 3 Try.f3 rfl rfl rfl rfl rfl rfl rfl ⟨rfl, rfl, rfl, rfl, rfl⟩ rfl rfl rfl rfl rfl (by kernel_rfl) Try.func3 (by kernel_rfl)
    (of_decide_eq_true (by kernel_rfl)) (by unfold Func.isWrapper; first | (rw [if_pos (by decide +kernel)]; kernel_rfl) | (rw [if_neg (by decide +kernel)]; exact ⟨rfl, rfl⟩))
    (fun os started H enc _ => scratch_lifted os started H enc)
#print axioms scratch_holds
end Go.Proofs.Ytpfngehledgkiaa
