/-
  SearchPieces: for any list of hits and any number, the pages of the list, one behind the other, are the list. Condition: the listed library variables hold what the program's own text lays in them (the tied card).
-/
import Derived.Test.YtngodakkdhdmjaaGreatDoorLwH
import Derived.Test.YtngodakkdhdmjaaGreatDoorLdS
import Derived.Test.YtngodakkdhdmjaaGreatDoorCards
import Derived.Test.YtngodakkdhdmjaaGreatDoorTie
import Derived.SevenTiedAt
namespace Go.Proofs.YtngodakkdhdmjaaGreatDoor
open Go.ChangeShapes Go.WideShapes Go.ChangeAt Go.RowKit

set_option maxRecDepth 100000 in
theorem pieces_lifted (os : Os) (started : os.Started) (H : Type) (enc : TypeId × Value → H) :
    ReturnsInHanded {} Tryz.checked os 6 .any (fun w args => (Rows.searchPiecesSpec.pre enc Tryz.prog Tryz.f6 Rows.searchPiecesRow.domain false w args ∧ laidMetH Tryz.prog laidM w) ∧ sizedMet enc Tryz.prog Tryz.f6 (OpenSpec.ofChange Rows.searchPiecesSpec) false w args)
      (Rows.searchPiecesSpec.post enc Tryz.prog Tryz.f6 false true false false) := by
  refine handed_both (C := Tryz.checked) (X := fun w _ => laidMetH Tryz.prog laidM w) (fun _ _ _ hh h => h.of_heap hh) own_ started (by kernel_rfl) Tryz.func6
    (ChangeSpec.witness_shaped (enc := enc) (C := Tryz.checked) (os := os) (X := fun w _ => laidMetH Tryz.prog laidM w) false (World.laidAll Tryz.prog os laidM) #[.slice none 0 0, .int .u8 0] 8 (World.laidAll_os _ _ _) (lay_shapedM os _) (by kernel_rfl) (by kernel_rfl) (by kernel_rfl) (lay_metM os _)) ?_
  intro W base args ds gs before hval0 hW hsh hL
  have hval : ∀ (j : Nat) t v, Tryz.f6.params[j]? = some t → args[j]? = some v → Value.okWide Tryz.prog W .any base t v := hval0
  have hW' := hW
  obtain ⟨p, q, hA0, hV, rfl, hfz, hnd⟩ := hW
  have hA : DataW.TrodAll enc Tryz.prog W 0 (fun _ => true) true Tryz.f6.params.toList args.toList ds p := hA0
  rw [Tryz.params6] at hA hval
  obtain ⟨v0, v1, d0, d1, p0, p1, rfl, rfl, rfl, h0, h1⟩ := trodAll_two hA
  obtain ⟨rfl, rfl⟩ := trodVars_none hV
  obtain ⟨c0, hrep0⟩ := open_hits (hval 0 22 v0 rfl rfl) h0
  obtain ⟨n1, rfl, hbd1⟩ := open_u8 (hval 1 5 v1 rfl rfl) h1
  clear hA0 hval0
  simp only [List.append_nil] at hW'
  have hlt0 : ∀ x ∈ p0, x.block < W.heap.size := fun x hx => hW'.lt x (by simp [hx])
  have hlt1 : ∀ x ∈ p1, x.block < W.heap.size := fun x hx => hW'.lt x (by simp [hx])
  refine (pieces_law c0 n1 v0 W W.heap.size (Nat.le_refl _) hrep0 (var_of_laidM hL hsh) hbd1).mono fun e W' ⟨he, hb⟩ => ?_
  subst he
  refine ⟨_, rfl, post_below (pa := p0 ++ p1) (pv := []) hW' (fun _ _ _ => trodAll_mk1 (shut_bool Tryz.underlying4 _)) (fun sp hsp => ?_) (fun _ _ => rfl) (by simp) hb (ok_one (by kernel_rfl) rfl (okWide_bool_mk Tryz.underlying4 _))⟩
  have hr0 : DataW.Trod enc Tryz.prog W' 0 sp true 22 _ d0 p0 := WideElems.Trod_stays laidOut_ (by kernel_rfl) (of_decide_eq_true (by kernel_rfl)) h0 (fun x hx => hb.same (hlt0 x hx)) (fun x hx => hsp x (by simp [hx]))
  have hr1 : DataW.Trod enc Tryz.prog W' 0 sp true 5 _ d1 p1 := WideElems.Trod_stays laidOut_ (by kernel_rfl) (of_decide_eq_true (by kernel_rfl)) h1 (fun x hx => hb.same (hlt1 x hx)) (fun x hx => hsp x (by simp [hx]))
  exact trodAll_mk2 hr0 hr1
theorem pieces_row : Rows.SearchPiecesSaid :=
  OpenClaim.holds_of_wide 6 Tryz.f6 rfl rfl rfl rfl rfl rfl rfl ⟨rfl, rfl, rfl, rfl, rfl⟩ rfl rfl rfl rfl rfl (by kernel_rfl) Tryz.func6 (by kernel_rfl)
    (of_decide_eq_true (by kernel_rfl)) (by unfold Func.isWrapper; first | (rw [if_pos (by decide +kernel)]; kernel_rfl) | (rw [if_neg (by decide +kernel)]; exact ⟨rfl, rfl⟩))
    (fun os started H enc _ => pieces_lifted os started H enc)
theorem pieces_holds : Rows.SearchPiecesCardSaid :=
  Claim7.holds_tied_plain_at .later [] [.data, .data, .data, .data, .pinned] true (true, "550db86ae89acec0d42e890c3cf2666f953edc4201adba68e59c77d34d39f6e6") false
    pieces_row (fun _ h => by cases h) (by kernel_rfl) (fun _ h => by cases h) searchPieces_row_tie rfl ⟨rfl, rfl⟩ (by kernel_rfl) rfl
    (fun f fn hf hfn => by
      obtain rfl : f = 6 := Option.some.inj ((show Tryz.prog.funcNamed "archivum/archivumlaw56.SearchPieces" = some 6 by kernel_rfl).symm.trans hf) |>.symm
      obtain rfl : fn = Tryz.f6 := (Option.some.inj (Tryz.func6.symm.trans hfn)).symm
      exact ⟨by kernel_rfl, fun j t ht => by
        rw [Tryz.params6] at ht
        have hm : t ∈ [22, 5] := by simpa using Array.mem_of_getElem? ht
        have hall : ([22, 5].all fun u => !Tryz.prog.wantsStandIn u) = true := by kernel_rfl
        exact (show Tryz.prog.wantsStandIn t = false by simpa using List.all_eq_true.1 hall t hm)⟩)
    (by kernel_rfl)
#print axioms pieces_holds
end Go.Proofs.YtngodakkdhdmjaaGreatDoor
