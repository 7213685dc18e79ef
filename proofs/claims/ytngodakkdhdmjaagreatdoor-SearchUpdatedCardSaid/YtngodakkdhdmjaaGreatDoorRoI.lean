/-
  SearchUpdated: for any two catalogs, language and query, what is found with an updated index is what is found with one from the beginning. Condition: the listed library variables hold what the program's own text lays in them (the tied card).
-/
import Derived.Test.YtngodakkdhdmjaaGreatDoorLwI
import Derived.Test.YtngodakkdhdmjaaGreatDoorLdS
import Derived.Test.YtngodakkdhdmjaaGreatDoorCards
import Derived.Test.YtngodakkdhdmjaaGreatDoorTie
import Derived.SevenTiedAt
namespace Go.Proofs.YtngodakkdhdmjaaGreatDoor
open Go.ChangeShapes Go.WideShapes Go.ChangeAt Go.RowKit

set_option maxRecDepth 100000 in
theorem updated_lifted (os : Os) (started : os.Started) (H : Type) (enc : TypeId × Value → H) :
    ReturnsInHanded {} Tryz.checked os 7 .any (fun w args => (Rows.searchUpdatedSpec.pre enc Tryz.prog Tryz.f7 Rows.searchUpdatedRow.domain false w args ∧ laidMetH Tryz.prog laidM w) ∧ sizedMet enc Tryz.prog Tryz.f7 (OpenSpec.ofChange Rows.searchUpdatedSpec) false w args)
      (Rows.searchUpdatedSpec.post enc Tryz.prog Tryz.f7 false true false false) := by
  refine handed_both (C := Tryz.checked) (X := fun w _ => laidMetH Tryz.prog laidM w) (fun _ _ _ hh h => h.of_heap hh) own_ started (by kernel_rfl) Tryz.func7
    (ChangeSpec.witness_shaped (enc := enc) (C := Tryz.checked) (os := os) (X := fun w _ => laidMetH Tryz.prog laidM w) false (World.laidAll Tryz.prog os laidM) #[.agg #[.slice none 0 0, .slice none 0 0, .slice none 0 0], .agg #[.slice none 0 0, .slice none 0 0, .slice none 0 0], .string ⟨#[]⟩, .slice none 0 0] 8 (World.laidAll_os _ _ _) (lay_shapedM os _) (by kernel_rfl) (by kernel_rfl) (by kernel_rfl) (lay_metM os _)) ?_
  intro W base args ds gs before hval0 hW hsh hL
  have hval : ∀ (j : Nat) t v, Tryz.f7.params[j]? = some t → args[j]? = some v → Value.okWide Tryz.prog W .any base t v := hval0
  have hW' := hW
  obtain ⟨p, q, hA0, hV, rfl, hfz, hnd⟩ := hW
  have hA : DataW.TrodAll enc Tryz.prog W 0 (fun _ => true) true Tryz.f7.params.toList args.toList ds p := hA0
  rw [Tryz.params7] at hA hval
  obtain ⟨v0, v1, v2, v3, d0, d1, d2, d3, p0, p1, p2, p3, rfl, rfl, rfl, h0, h1, h2, h3⟩ := trodAll_four hA
  obtain ⟨rfl, rfl⟩ := trodVars_none hV
  obtain ⟨c0, x0, y0, z0, rfl, hrep0⟩ := open_cat (hval 0 41 v0 rfl rfl) h0
  obtain ⟨c1, x1, y1, z1, rfl, hrep1⟩ := open_cat (hval 1 41 v1 rfl rfl) h1
  obtain ⟨s2, rfl⟩ := open_str_ (hval 2 9 v2 rfl rfl) h2
  obtain ⟨c3, hrep3⟩ := open_asks (hval 3 42 v3 rfl rfl) h3
  clear hA0 hval0
  simp only [List.append_nil] at hW'
  have hlt0 : ∀ x ∈ p0, x.block < W.heap.size := fun x hx => hW'.lt x (by simp [hx])
  have hlt1 : ∀ x ∈ p1, x.block < W.heap.size := fun x hx => hW'.lt x (by simp [hx])
  have hlt2 : ∀ x ∈ p2, x.block < W.heap.size := fun x hx => hW'.lt x (by simp [hx])
  have hlt3 : ∀ x ∈ p3, x.block < W.heap.size := fun x hx => hW'.lt x (by simp [hx])
  refine (updated_law c0 c1 s2 c3 x0 y0 z0 x1 y1 z1 v3 W W.heap.size (Nat.le_refl _) hrep0 hrep1 hrep3 (var_of_laidM hL hsh) ).mono fun e W' ⟨he, hb⟩ => ?_
  subst he
  refine ⟨_, rfl, post_below (pa := p0 ++ p1 ++ p2 ++ p3) (pv := []) hW' (fun _ _ _ => trodAll_mk1 (shut_bool Tryz.underlying4 _)) (fun sp hsp => ?_) (fun _ _ => rfl) (by simp) hb (ok_one (by kernel_rfl) rfl (okWide_bool_mk Tryz.underlying4 _))⟩
  have hr0 : DataW.Trod enc Tryz.prog W' 0 sp true 41 _ d0 p0 := WideElems.Trod_stays laidOut_ (by kernel_rfl) (of_decide_eq_true (by kernel_rfl)) h0 (fun x hx => hb.same (hlt0 x hx)) (fun x hx => hsp x (by simp [hx]))
  have hr1 : DataW.Trod enc Tryz.prog W' 0 sp true 41 _ d1 p1 := WideElems.Trod_stays laidOut_ (by kernel_rfl) (of_decide_eq_true (by kernel_rfl)) h1 (fun x hx => hb.same (hlt1 x hx)) (fun x hx => hsp x (by simp [hx]))
  have hr2 : DataW.Trod enc Tryz.prog W' 0 sp true 9 _ d2 p2 := WideElems.Trod_stays laidOut_ (by kernel_rfl) (of_decide_eq_true (by kernel_rfl)) h2 (fun x hx => hb.same (hlt2 x hx)) (fun x hx => hsp x (by simp [hx]))
  have hr3 : DataW.Trod enc Tryz.prog W' 0 sp true 42 _ d3 p3 := WideElems.Trod_stays laidOut_ (by kernel_rfl) (of_decide_eq_true (by kernel_rfl)) h3 (fun x hx => hb.same (hlt3 x hx)) (fun x hx => hsp x (by simp [hx]))
  have := trodAll_mk4 hr0 hr1 hr2 hr3
  simp only [List.append_assoc] at this ⊢
  exact this
theorem updated_row : Rows.SearchUpdatedSaid :=
  OpenClaim.holds_of_wide 7 Tryz.f7 rfl rfl rfl rfl rfl rfl rfl ⟨rfl, rfl, rfl, rfl, rfl⟩ rfl rfl rfl rfl rfl (by kernel_rfl) Tryz.func7 (by kernel_rfl)
    (of_decide_eq_true (by kernel_rfl)) (by unfold Func.isWrapper; first | (rw [if_pos (by decide +kernel)]; kernel_rfl) | (rw [if_neg (by decide +kernel)]; exact ⟨rfl, rfl⟩))
    (fun os started H enc _ => updated_lifted os started H enc)
theorem updated_holds : Rows.SearchUpdatedCardSaid :=
  Claim7.holds_tied_plain_at .later [] [.data, .data, .data, .data, .pinned] true (true, "550db86ae89acec0d42e890c3cf2666f953edc4201adba68e59c77d34d39f6e6") false
    updated_row (fun _ h => by cases h) (by kernel_rfl) (fun _ h => by cases h) searchUpdated_row_tie rfl ⟨rfl, rfl⟩ (by kernel_rfl) rfl
    (fun f fn hf hfn => by
      obtain rfl : f = 7 := Option.some.inj ((show Tryz.prog.funcNamed "archivum/archivumlaw56.SearchUpdated" = some 7 by kernel_rfl).symm.trans hf) |>.symm
      obtain rfl : fn = Tryz.f7 := (Option.some.inj (Tryz.func7.symm.trans hfn)).symm
      exact ⟨by kernel_rfl, fun j t ht => by
        rw [Tryz.params7] at ht
        have hm : t ∈ [41, 41, 9, 42] := by simpa using Array.mem_of_getElem? ht
        have hall : ([41, 41, 9, 42].all fun u => !Tryz.prog.wantsStandIn u) = true := by kernel_rfl
        exact (show Tryz.prog.wantsStandIn t = false by simpa using List.all_eq_true.1 hall t hm)⟩)
    (by kernel_rfl)
#print axioms updated_holds
end Go.Proofs.YtngodakkdhdmjaaGreatDoor
