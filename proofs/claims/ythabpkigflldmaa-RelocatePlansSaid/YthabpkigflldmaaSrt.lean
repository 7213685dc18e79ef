/- slices.SortFunc at a row of states of the call's own, by slices.Compare. -/
import Derived.Test.YthabpkigflldmaaVal
import Derived.Test.YthabpkigflldmaaShelf
namespace Go.Proofs.Ythabpkigflldmaa
open Go.RowKit Go.Sort Go.Lib Go.Shelf

theorem cmpI_neg (a b : Int) : (cmpI a b < 0 ↔ a < b) ∧ (cmpI a b = 0 ↔ a = b) := by
  unfold cmpI
  split
  · constructor <;> constructor <;> intro <;> omega
  · split
    · constructor <;> constructor <;> intro <;> omega
    · constructor <;> constructor <;> intro <;> omega
theorem cmpL_cons (a b : Int) (r s : List Int) : cmpL (a :: r) (b :: s) < 0 ↔ a < b ∨ (a = b ∧ cmpL r s < 0) := by
  obtain ⟨h1, h2⟩ := cmpI_neg a b
  rw [cmpL]
  by_cases h : cmpI a b = 0
  · rw [if_neg (by simpa using h)]
    have := h2.1 h
    constructor
    · intro hh; exact .inr ⟨this, hh⟩
    · rintro (hh | hh)
      · omega
      · exact hh.2
  · rw [if_pos h]
    have hne : a ≠ b := fun e => h (h2.2 e)
    constructor
    · intro hh; exact .inl (h1.1 hh)
    · rintro (hh | hh)
      · exact h1.2 hh
      · exact absurd hh.1 hne
theorem cmpL_irrefl : ∀ a : List Int, ¬ cmpL a a < 0
  | [] => by simp [cmpL]
  | x :: r => by rw [cmpL_cons]; have := cmpL_irrefl r; omega
theorem cmpL_trans : ∀ a b c : List Int, cmpL a b < 0 → cmpL b c < 0 → cmpL a c < 0
  | [], [], _, h, _ => by simp [cmpL] at h
  | [], _ :: _, [], _, h => by simp [cmpL] at h
  | [], _ :: _, _ :: _, _, _ => by simp [cmpL]
  | _ :: _, [], _, h, _ => by simp [cmpL] at h
  | _ :: _, _ :: _, [], _, h => by simp [cmpL] at h
  | x :: r, y :: s, z :: t, h1, h2 => by
    rw [cmpL_cons] at *
    rcases h1 with h1 | ⟨h1, h1'⟩
    · rcases h2 with h2 | ⟨h2, _⟩
      · exact .inl (by omega)
      · exact .inl (by omega)
    · rcases h2 with h2 | ⟨h2, h2'⟩
      · exact .inl (by omega)
      · exact .inr ⟨by omega, cmpL_trans r s t h1' h2'⟩
theorem cmpL_tri : ∀ a b : List Int, cmpL a b < 0 ∨ a = b ∨ cmpL b a < 0
  | [], [] => .inr (.inl rfl)
  | [], _ :: _ => .inl (by simp [cmpL])
  | _ :: _, [] => .inr (.inr (by simp [cmpL]))
  | x :: r, y :: s => by
    rw [cmpL_cons, cmpL_cons]
    rcases Int.lt_trichotomy x y with h | h | h
    · exact .inl (.inl h)
    · subst h
      rcases cmpL_tri r s with h | h | h
      · exact .inl (.inr ⟨rfl, h⟩)
      · subst h; exact .inr (.inl rfl)
      · exact .inr (.inr (.inr ⟨rfl, h⟩))
    · exact .inr (.inr (.inl h))

abbrev StA (w : World) (g : Nat) := { p : Value × List Int // SlRep 1 (flat intEnc) w (fun b => b < w.heap.size ∧ b ≠ g) p.2 p.1 }
instance (w : World) (g : Nat) : Inhabited (StA w g) := ⟨⟨(.slice none 0 0, []), SlRep.nil_⟩⟩
def encA {w : World} {g : Nat} (p : StA w g) : Value := p.1.1
theorem encA_one {w : World} {g : Nat} : OneCell (encA (w := w) (g := g)) := fun p => by
  obtain ⟨⟨v, x⟩, A, c, e, _⟩ := p
  simp only at e
  subst e
  rfl
def cmpA {w : World} {g : Nat} (x y : StA w g) : Int := cmpL x.1.2 y.1.2
theorem swoA {w : World} {g : Nat} : SWO (ltOf (cmpA (w := w) (g := g))) where
  irrefl x := decide_eq_false (cmpL_irrefl _)
  trans x y z h1 h2 := decide_eq_true (cmpL_trans _ _ _ (of_decide_eq_true h1) (of_decide_eq_true h2))
  ntrans x y z h1 h2 := by
    have h1' : ¬ cmpL x.1.2 y.1.2 < 0 := of_decide_eq_false h1
    have h2' : ¬ cmpL y.1.2 z.1.2 < 0 := of_decide_eq_false h2
    refine decide_eq_false fun h3 => ?_
    have h3' : cmpL x.1.2 z.1.2 < 0 := h3
    rcases cmpL_tri x.1.2 y.1.2 with h | h | h
    · exact h1' h
    · rw [h] at h3'; exact h2' h3'
    · exact h2' (cmpL_trans _ _ _ h h3')
theorem open_states {w : World} {g : Nat} : ∀ (xs : List (List Int)) (css : List (List Value)), css.length = xs.length → (∀ (i : Nat) x cs, xs[i]? = some x → css[i]? = some cs → stateR w (fun b => b < w.heap.size ∧ b ≠ g) x cs) → ∃ ps : List (StA w g), ps.map (fun p => p.1.2) = xs ∧ ps.map (fun p => [encA p]) = css
  | [], [], _, _ => ⟨[], rfl, rfl⟩
  | x :: xs, cs :: css, hl, h => by
    obtain ⟨v, rfl, hv⟩ := h 0 x cs rfl rfl
    obtain ⟨ps, h1, h2⟩ := open_states xs css (by simpa using hl) (fun i y ds hy hd => h (i + 1) y ds (by simpa using hy) (by simpa using hd))
    exact ⟨⟨(v, x), hv⟩ :: ps, by simp [h1], by rw [List.map_cons, h2]; rfl⟩
theorem sortWorld_heap {α : Type} [Inhabited α] (enc : α → Value) (w : World) (g m : Nat) (d : Array α) (os : Array Obj) (i : Nat) (hi : i < w.heap.size) :
    (sortWorld enc w g 0 m d os).heap[i]? = if i = g then (w.heap[i]?).map (onCells (putCells enc 0 d)) else w.heap[i]? := by
  show ((w.heap.modify g (onCells (putCells enc 0 d))) ++ os)[i]? = _
  rw [Array.getElem?_append_left (by simpa using hi), Array.getElem?_modify]
  by_cases hig : g = i
  · subst hig; simp
  · rw [if_neg hig, if_neg (fun h => hig h.symm)]
def ascW (l : List (List Int)) : Prop := l.Pairwise (fun a b => ¬ cmpL b a < 0)
set_option maxHeartbeats 1000000 in
theorem sortSt_c (xs : List (List Int)) (v : Value) (base : Nat) (w : World) (h : OwnRep 1 stateR 26 base w xs v) (hsz : xs.length ≤ 1000000) :
    Calls Try.prog 48 #[v, .func (.func 49) #[] #[]] w fun e w' => e = .returned (.tuple #[]) ∧ ∃ ys : List (List Int), ys.Perm xs ∧ ascW ys ∧ OwnRep 1 stateR 26 base w' ys v ∧ w.grownBy w' v.ownBlock := by
  have hlt := h.own_lt
  have hsl := h.toSl saS
  obtain ⟨css, hl, hr, hrow⟩ := id h
  rcases hrow.2 with ⟨rfl, h0⟩ | ⟨g, cap, cur, rfl, hbg, hg, hcap, hm, hcs, ht⟩
  · obtain rfl : xs = [] := List.eq_nil_of_length_eq_zero h0
    have hc := AnyF.slices_SortFunc_none { Try.sortStates with } none 0 (.func (.func 49) #[] #[]) w
    change Calls Try.prog 48 _ _ _ at hc
    refine hc.mono ?_
    rintro e w' ⟨rfl, rfl⟩
    exact ⟨rfl, [], List.Perm.refl _, List.Pairwise.nil, h, World.grownBy.refl _ _⟩
  · obtain ⟨hg1, hg2⟩ := hlt g rfl
    obtain ⟨ps, hp1, hp2⟩ := open_states (g := g) xs css hl (fun i x cs hx hcs' => saS.mono (fun b hb => ⟨hb.1, fun e => hb.2 (by rw [e]; rfl)⟩) (hr i x cs hx hcs'))
    have hpl : ps.length = xs.length := by rw [← hp1]; simp
    have hfl : css.flatten = ps.map encA := by rw [← hp2]; clear hp1 hp2 hpl; induction ps with
      | nil => rfl
      | cons p ps ih => simp [ih]
    rw [hfl] at ht
    simp only [Nat.mul_one] at hcs ht
    have hcur : ∀ j : Nat, j < ps.length → cur[j]? = some (encA (ps.toArray[j]!)) := by
      intro j hj
      have h1 : (cur.toList.take xs.length)[j]? = (ps.map encA)[j]? := by rw [ht]
      rw [List.getElem?_take, if_pos (by omega), List.getElem?_map] at h1
      obtain ⟨p, hp⟩ := get_at ps hj
      rw [hp] at h1
      have hpa : ps.toArray[j]! = p := by simp [hp]
      rw [hpa]
      simpa using h1
    have hH : Holds encA w g 0 ps.toArray := by
      intro j hj
      have hj' : j < ps.length := by simpa using hj
      refine ⟨?_, by simp [World.frozen?, hg]⟩
      have := hcur j hj'
      simp [World.cell?, hg] at this ⊢
      exact this
    have eg : ∀ args w, (callFunc 49 args).run Try.prog w = .ok (.enter 49 args) w := enters_of Try.func49 (by kernel_rfl) rfl
    have hcmp : CmpLays1 Try.prog 49 #[] (encA (w := w) (g := g)) (cmpA (w := w) (g := g)) g 0 ps.toArray.size w := by
      intro m os dk hdk x y
      have hfr : ∀ b, (b < w.heap.size ∧ b ≠ g) → (sortWorld encA w g 0 m dk os).heap[b]? = w.heap[b]? := fun b hb => by rw [sortWorld_heap _ _ _ _ _ _ _ hb.1, if_neg hb.2]
      have hz : w.heap.size ≤ (sortWorld encA w g 0 m dk os).heap.size := by
        show w.heap.size ≤ ((w.heap.modify g _) ++ os).size
        simp
      have hc := compare_c x.1.2 y.1.2 x.1.1 y.1.1 (sortWorld encA w g 0 m dk os) (fun b => b < w.heap.size ∧ b ≠ g) (fun b hb => Nat.lt_of_lt_of_le hb.1 hz) (x.2.frame inS hfr) (y.2.frame inS hfr)
      refine hc.mono ?_
      rintro e w' ⟨rfl, rfl⟩
      exact ⟨rfl, 0, #[], by simp [grow]; rfl⟩
    have hc := Any.slices_SortFunc Try.sortStates encA encA_one cmpA swoA 49 #[] g 0 cap ps.toArray w eg hcmp hH hg2 (by simp; omega)
    change Calls Try.prog 48 _ _ _ at hc
    simp only [List.size_toArray, hpl] at hc
    refine hc.mono ?_
    rintro e w' ⟨rfl, d', n, os, hp, hs, rfl⟩
    obtain ⟨p1, _, p3⟩ := hp
    have hd : d'.size = xs.length := by rw [← hpl]; simpa using p1
    have he1 : (d'.extract 0 xs.length) = d' := by rw [← hd]; simp
    have he2 : (ps.toArray.extract 0 xs.length) = ps.toArray := by rw [← hpl]; simp
    rw [he1, he2] at p3
    have p4 : d'.toList.Perm ps := by simpa using p3
    have hz : w.heap.size ≤ (sortWorld encA w g 0 n d' os).heap.size := by
      show w.heap.size ≤ ((w.heap.modify g _) ++ os).size
      simp
    have hfr : ∀ b, (b < w.heap.size ∧ b ≠ g) → (sortWorld encA w g 0 n d' os).heap[b]? = w.heap[b]? := fun b hb => by rw [sortWorld_heap _ _ _ _ _ _ _ hb.1, if_neg hb.2]
    refine ⟨rfl, d'.toList.map (fun p => p.1.2), ?_, ?_, ?_, ?_⟩
    · have := p4.map (fun p => p.1.2)
      rw [hp1] at this
      exact this
    · rw [ascW, List.pairwise_map, List.pairwise_iff_getElem]
      intro i j hi hj hij
      have hj' : j < d'.size := by simpa using hj
      have hi' : i < d'.size := by simpa using hi
      have := hs i j (Nat.zero_le _) hij (by omega)
      have h2 : ¬ cmpL (d'[j]!).1.2 (d'[i]!).1.2 < 0 := of_decide_eq_false this
      simpa [hi', hj'] using h2
    · have hl' : (d'.toList.map (fun p => p.1.2)).length = xs.length := by simp [hd]
      refine ⟨d'.toList.map (fun p => [encA p]), by simp, fun i x cs hx hcs' => ?_, ?_⟩
      · rw [List.getElem?_map] at hx hcs'
        cases hpi : d'.toList[i]? with
        | none => rw [hpi] at hx; cases hx
        | some p =>
          rw [hpi] at hx hcs'
          injection hx with hx
          injection hcs' with hcs'
          subst hx hcs'
          exact ⟨_, rfl, (p.2.frame inS hfr).monoF inS (fun b hb => ⟨Nat.lt_of_lt_of_le hb.1 hz, fun e => hb.2 (by injection e with e; exact e.symm)⟩)⟩
      · have hff : (d'.toList.map (fun p => [encA p])).flatten = d'.toList.map encA := by
          generalize d'.toList = l
          induction l with
          | nil => rfl
          | cons p l ih => simp [ih]
        rw [hff, hl']
        refine ⟨by simp [hd], .inr ⟨g, cap, putCells encA 0 d' cur, rfl, hbg, ?_, hcap, hm, by simpa [putCells] using hcs, ?_⟩⟩
        · rw [sortWorld_heap _ _ _ _ _ _ _ hg2, if_pos rfl, hg]
          rfl
        · apply List.ext_getElem?
          intro t
          rw [Nat.mul_one]
          by_cases htl : t < xs.length
          · have hkc : t < cur.size := by omega
            have htd : t < d'.size := by omega
            rw [List.getElem?_take, if_pos htl, List.getElem?_map]
            simp [putCells, hkc, htd]
          · rw [List.getElem?_take, if_neg htl, List.getElem?_eq_none (by simp; omega)]
    · refine ⟨rfl, rfl, rfl, hz, fun k hk hne => hfr k ⟨hk, fun e => hne (by rw [e]; rfl)⟩⟩
end Go.Proofs.Ythabpkigflldmaa
