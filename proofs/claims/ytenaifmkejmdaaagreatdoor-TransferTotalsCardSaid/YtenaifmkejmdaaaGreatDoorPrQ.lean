/- Chapter 16: the parts of a division, by their places. No program in it. -/
import Derived.Test.YtenaifmkejmdaaaGreatDoorPlD
namespace Go.Proofs.YtenaifmkejmdaaaGreatDoor
open Go.RowKit

def offs (gs : List (List Item)) (k : Nat) : Nat := (gs.take k).flatten.length
theorem take_at_ {α : Type} {l : List α} {k : Nat} {x : α} (h : l[k]? = some x) : l.take (k + 1) = l.take k ++ [x] := by
  rw [List.take_add_one, h]; rfl
theorem offs_succ {gs : List (List Item)} {k : Nat} {g : List Item} (h : gs[k]? = some g) : offs gs (k + 1) = offs gs k + g.length := by
  unfold offs
  rw [take_at_ h, List.flatten_append, List.length_append]
  simp
theorem flat_parts {gs : List (List Item)} {k : Nat} {g : List Item} (h : gs[k]? = some g) : gs.flatten = (gs.take k).flatten ++ (g ++ (gs.drop (k + 1)).flatten) := by
  conv => lhs; rw [← List.take_append_drop k gs]
  rw [List.flatten_append]
  congr 1
  have := List.drop_eq_getElem_cons (l := gs) (i := k) (List.getElem?_eq_some_iff.1 h).1
  rw [this, List.flatten_cons, (List.getElem?_eq_some_iff.1 h).2]
structure PartAt (l : TL) (p : Int) (gs : List (List Item)) (k : Nat) (g : List Item) : Prop where
  pos : 1 ≤ g.length
  next : offs gs (k + 1) = offs gs k + g.length
  le : offs gs k + g.length ≤ l.items.length
  item : ∀ (j : Nat) x, g[j]? = some x → l.items[offs gs k + j]? = some x
  sum : sumP g ≤ p
  more : k + 1 < gs.length → ∃ x, l.items[offs gs (k + 1)]? = some x ∧ p < sumP g + x.pages
theorem parts_all {l : TL} {p : Int} (h : divE l p = 0) : ∃ gs, divF l p = gs.map (fun g => (g.length : Int)) ∧ offs gs gs.length = l.items.length ∧ ∀ k g, gs[k]? = some g → PartAt l p gs k g := by
  obtain ⟨gs, h1, h2, h3⟩ := div_parts h
  refine ⟨gs, h1, by unfold offs; rw [List.take_length, h2], fun k g hg => ?_⟩
  obtain ⟨a1, a2, a3⟩ := parts_at p gs h3 k g hg
  have hf := flat_parts hg
  rw [h2] at hf
  have hle : offs gs k + g.length ≤ l.items.length := by
    rw [hf, List.length_append, List.length_append]; unfold offs; omega
  have hit : ∀ (j : Nat) x, g[j]? = some x → l.items[offs gs k + j]? = some x := fun j x hx => by
    rw [hf, List.getElem?_append_right (by unfold offs; omega), List.getElem?_append_left (by have := (List.getElem?_eq_some_iff.1 hx).1; unfold offs; omega)]
    rw [show offs gs k + j - (gs.take k).flatten.length = j by unfold offs; omega]
    exact hx
  refine ⟨List.length_pos_iff.2 a1, offs_succ hg, hle, hit, a2, fun hk => ?_⟩
  obtain ⟨g2, hg2⟩ : ∃ g2, gs[k + 1]? = some g2 := ⟨_, List.getElem?_eq_getElem hk⟩
  obtain ⟨b1, b2⟩ := a3 g2 hg2
  obtain ⟨x, r, rfl⟩ : ∃ x r, g2 = x :: r := by
    cases g2 with
    | nil => exact absurd rfl b1
    | cons x r => exact ⟨x, r, rfl⟩
  refine ⟨x, ?_, b2 x rfl⟩
  have hf2 := flat_parts hg2
  rw [h2] at hf2
  rw [hf2, List.getElem?_append_right (by unfold offs; omega)]
  unfold offs
  simp
theorem divF_err {l : TL} {p : Int} (h : divE l p ≠ 0) : divF l p = [] := by unfold divF; rw [if_neg h]
end Go.Proofs.YtenaifmkejmdaaaGreatDoor
