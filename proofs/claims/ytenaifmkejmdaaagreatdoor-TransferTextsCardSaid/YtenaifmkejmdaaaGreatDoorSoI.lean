/- slices.Sort at a row of ints of the call's own. -/
import Derived.Test.YtenaifmkejmdaaaGreatDoorData
import Derived.Test.YtenaifmkejmdaaaGreatDoorOwn
import Derived.Test.YtenaifmkejmdaaaGreatDoorShelf
import Derived.Sort.OwnSortedInts
namespace Go.Proofs.YtenaifmkejmdaaaGreatDoor
open Go.RowKit Go.Sort Go.Lib Go.Shelf

theorem int_rows (xs : List Int) : (xs.map intEnc).flatten = xs.map (Value.int .i64) := by
  induction xs with
  | nil => rfl
  | cons x r ih => rw [List.map_cons, List.flatten_cons, ih]; rfl
theorem sortInts_c (xs : List Int) (v : Value) (base : Nat) (w : World) (h : OwnRep 1 (flat intEnc) 3 base w xs v) (hsz : xs.length < 4611686018427387904) :
    Calls Tryz.prog 56 #[v] w fun e w' => e = .returned (.tuple #[]) ∧ ∃ ys : List Int, ys.Perm xs ∧ ys.Pairwise (· ≤ ·) ∧ OwnRep 1 (flat intEnc) 3 base w' ys v ∧ w.grownBy w' v.ownBlock := by
  rcases Nat.eq_zero_or_pos xs.length with h0 | h0
  · obtain rfl : xs = [] := List.eq_nil_of_length_eq_zero h0
    obtain ⟨A, c, rfl, _⟩ := h.toSl intS
    refine (Tryz.slices_Sort_int_none A c w).mono ?_
    rintro e w' ⟨rfl, rfl⟩
    exact ⟨rfl, [], List.Perm.refl _, List.Pairwise.nil, h, World.grownBy.refl _ _⟩
  · have hrow := h.rows
    rcases hrow.2 with ⟨_, h1⟩ | ⟨g, cap, cur, rfl, hbg, hg, hcap, hm, hs, ht⟩
    · omega
    · have hgl := (h.own_lt g rfl).2
      rw [int_rows, Nat.mul_one] at ht
      have hH : Holds (Value.int .i64) w g 0 xs.toArray := holds_of_blockI hg ht
      refine (Tryz.slices_Sort_int g 0 cap xs w hH hgl hsz).mono ?_
      rintro e w' ⟨rfl, n, os, rfl⟩
      refine ⟨rfl, xs.mergeSort (fun x y => decide (x ≤ y)), List.mergeSort_perm _ _, ?_, ?_, grownBy_sortedI _⟩
      · have := List.pairwise_mergeSort (le := fun x y : Int => decide (x ≤ y)) (fun a b c h1 h2 => by simp at *; omega) (fun a b => by simp; omega) xs
        exact this.imp (fun h => by simpa using h)
      · have hl : (xs.mergeSort fun x y => decide (x ≤ y)).length = xs.length := (List.mergeSort_perm _ _).length_eq
        refine OwnRep.of_rows ?_
        rw [hl, int_rows]
        exact ownsRow_sortedI hl hbg hg hcap hm hs
end Go.Proofs.YtenaifmkejmdaaaGreatDoor
