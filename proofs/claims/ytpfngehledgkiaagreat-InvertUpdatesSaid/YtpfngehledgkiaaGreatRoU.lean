/-
  InvertUpdates: InvertUpdates, called with any list, catalogs and language, returns true. No condition.
-/
import Derived.Test.YtpfngehledgkiaaGreatLwU
import Derived.Test.YtpfngehledgkiaaGreatRowJ
namespace Go.Proofs.YtpfngehledgkiaaGreat
open Go.ChangeShapes Go.WideShapes Go.ChangeAt Go.RowKit

set_option maxRecDepth 100000 in
theorem open_str_ {H : Type} {enc : TypeId × Value → H} {w : World} {base : Nat} {spare : Nat → Bool} {held : Bool} {r : Reach} {b0 : Nat} {v : Value} {d : DataW H} {p : List MemPlace} (hv : Value.okWide Tryz.prog w r b0 9 v) (_ : DataW.Trod enc Tryz.prog w base spare held 9 v d p) : ∃ s : ByteArray, v = .string s := by
  exact okWide_string Tryz.underlying9 hv
set_option maxRecDepth 100000 in
theorem updates_lifted (os : Os) (started : os.Started) (H : Type) (enc : TypeId × Value → H) :
    ReturnsInHanded {} Tryz.checked os 4 .any (Rows.invertUpdatesSpec.pre6 enc Tryz.prog Tryz.f4 Rows.invertUpdatesRow.domain false) (Rows.invertUpdatesSpec.post enc Tryz.prog Tryz.f4 false true false false) := by
  refine returnsInHanded_of_change (C := Tryz.checked) own_ started (by kernel_rfl) Tryz.func4
    (ChangeSpec.witness6 (enc := enc) (C := Tryz.checked) false ⟨#[], #[.slice none 0 0, .agg #[.slice none 0 0, .slice none 0 0, .slice none 0 0], .agg #[.slice none 0 0, .slice none 0 0, .slice none 0 0], .string ⟨#[]⟩], []⟩ 8 (by kernel_rfl) (by kernel_rfl) (by kernel_rfl) (by kernel_rfl)) ?_
  intro W base args ds gs before hval0 hW hcnd _
  have hval : ∀ (j : Nat) t v, Tryz.f4.params[j]? = some t → args[j]? = some v → Value.okWide Tryz.prog W .any base t v := hval0
  have hW' := hW
  obtain ⟨p, q, hA0, hV, rfl, hfz, hnd⟩ := hW
  have hA : DataW.TrodAll enc Tryz.prog W 0 (fun _ => true) true Tryz.f4.params.toList args.toList ds p := hA0
  rw [Tryz.params4] at hA hval
  obtain ⟨v0, v1, v2, v3, d0, d1, d2, d3, p0, p1, p2, p3, rfl, rfl, rfl, h0, h1, h2, h3⟩ := trodAll_four hA
  obtain ⟨rfl, rfl⟩ := trodVars_none hV
  obtain ⟨hs0, hrep0⟩ := open_posts (hval 0 29 v0 rfl rfl) h0
  obtain ⟨c1, x1, y1, z1, rfl, hrep1⟩ := open_cat (hval 1 26 v1 rfl rfl) h1
  obtain ⟨c2, x2, y2, z2, rfl, hrep2⟩ := open_cat (hval 2 26 v2 rfl rfl) h2
  obtain ⟨s3, rfl⟩ := open_str_ (hval 3 9 v3 rfl rfl) h3
  clear hA0 hval0
  simp only [List.append_nil] at hW'
  have hlt0 : ∀ x ∈ p0, x.block < W.heap.size := fun x hx => hW'.lt x (by simp [hx])
  have hlt1 : ∀ x ∈ p1, x.block < W.heap.size := fun x hx => hW'.lt x (by simp [hx])
  have hlt2 : ∀ x ∈ p2, x.block < W.heap.size := fun x hx => hW'.lt x (by simp [hx])
  have hlt3 : ∀ x ∈ p3, x.block < W.heap.size := fun x hx => hW'.lt x (by simp [hx])
  refine (updates_law hs0 c1 c2 s3 _ x1 y1 z1 x2 y2 z2 W W.heap.size (Nat.le_refl _) hrep0 hrep1 hrep2).mono fun e W' ⟨he, hb⟩ => ?_
  subst he
  refine ⟨_, rfl, post_below (pa := p0 ++ p1 ++ p2 ++ p3) (pv := []) hW' (fun _ _ _ => trodAll_mk1 (shut_bool Tryz.underlying4 _)) (fun sp hsp => ?_) (fun _ _ => rfl) (by simp) hb (ok_one (by kernel_rfl) rfl (okWide_bool_mk Tryz.underlying4 _))⟩
  have hr0 : DataW.Trod enc Tryz.prog W' 0 sp true 29 _ d0 p0 := WideElems.Trod_stays laidOut_ (by kernel_rfl) (of_decide_eq_true (by kernel_rfl)) h0 (fun x hx => hb.same (hlt0 x hx)) (fun x hx => hsp x (by simp [hx]))
  have hr1 : DataW.Trod enc Tryz.prog W' 0 sp true 26 _ d1 p1 := WideElems.Trod_stays laidOut_ (by kernel_rfl) (of_decide_eq_true (by kernel_rfl)) h1 (fun x hx => hb.same (hlt1 x hx)) (fun x hx => hsp x (by simp [hx]))
  have hr2 : DataW.Trod enc Tryz.prog W' 0 sp true 26 _ d2 p2 := WideElems.Trod_stays laidOut_ (by kernel_rfl) (of_decide_eq_true (by kernel_rfl)) h2 (fun x hx => hb.same (hlt2 x hx)) (fun x hx => hsp x (by simp [hx]))
  have hr3 : DataW.Trod enc Tryz.prog W' 0 sp true 9 _ d3 p3 := WideElems.Trod_stays laidOut_ (by kernel_rfl) (of_decide_eq_true (by kernel_rfl)) h3 (fun x hx => hb.same (hlt3 x hx)) (fun x hx => hsp x (by simp [hx]))
  have := trodAll_mk4 hr0 hr1 hr2 hr3
  simp only [List.append_assoc] at this ⊢
  exact this

theorem updates_holds : Rows.InvertUpdatesSaid :=
  OpenClaim.holds_of_wide 4 Tryz.f4 rfl rfl rfl rfl rfl rfl rfl ⟨rfl, rfl, rfl, rfl, rfl⟩ rfl rfl rfl rfl rfl (by kernel_rfl) Tryz.func4 (by kernel_rfl)
    (of_decide_eq_true (by kernel_rfl)) (by unfold Func.isWrapper; first | (rw [if_pos (by decide +kernel)]; kernel_rfl) | (rw [if_neg (by decide +kernel)]; exact ⟨rfl, rfl⟩))
    (fun os started H enc _ => updates_lifted os started H enc)
#print axioms updates_holds
end Go.Proofs.YtpfngehledgkiaaGreat
