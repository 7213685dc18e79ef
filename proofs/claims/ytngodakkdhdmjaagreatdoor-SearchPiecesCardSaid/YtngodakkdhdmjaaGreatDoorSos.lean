/- slices.Sort at a row of ints of the call's own. slices.SortFunc at postings: the shelf's contract brought to my words. -/
import Derived.Test.YtngodakkdhdmjaaGreatDoorDat
import Derived.Test.YtngodakkdhdmjaaGreatDoorBas
import Derived.Test.YtngodakkdhdmjaaGreatDoorShelf
import Derived.Sort.OwnSortedInts
import Derived.Test.YtngodakkdhdmjaaGreatDoorIvK
namespace Go.Proofs.YtngodakkdhdmjaaGreatDoor
section
open Go.RowKit Go.Sort Go.Lib Go.Shelf

theorem int_rows (xs : List Int) : (xs.map intEnc).flatten = xs.map (Value.int .i64) := by
  induction xs with
  | nil => rfl
  | cons x r ih => rw [List.map_cons, List.flatten_cons, ih]; rfl
theorem sortInts_c (xs : List Int) (v : Value) (base : Nat) (w : World) (h : OwnRep 1 (flat intEnc) 3 base w xs v) (hsz : xs.length < 4611686018427387904) :
    Calls Tryz.prog 83 #[v] w fun e w' => e = .returned (.tuple #[]) ∧ ∃ ys : List Int, ys.Perm xs ∧ ys.Pairwise (· ≤ ·) ∧ OwnRep 1 (flat intEnc) 3 base w' ys v ∧ w.grownBy w' v.ownBlock := by
  rcases Nat.eq_zero_or_pos xs.length with h0 | h0
  · obtain rfl : xs = [] := List.eq_nil_of_length_eq_zero h0
    obtain ⟨A, c, rfl, _⟩ := h.toSl intS
    refine (Tryz.slices_Sort_int_none A c w).mono ?_
    rintro e w' ⟨rfl, rfl⟩
    exact ⟨rfl, [], List.Perm.refl _, List.Pairwise.nil, h, World.grownBy.refl _ _⟩
  · have hrow := h.rows
    rcases hrow.2 with ⟨_, h1⟩ | ⟨g, cap, cur, rfl, hbg, hg, hcap, hm, hs, ht⟩
    · omega
    · have hgl := (h.own_lt g rfl).2
      rw [int_rows, Nat.mul_one] at ht
      have hH : Holds (Value.int .i64) w g 0 xs.toArray := holds_of_blockI hg ht
      refine (Tryz.slices_Sort_int g 0 cap xs w hH hgl hsz).mono ?_
      rintro e w' ⟨rfl, n, os, rfl⟩
      refine ⟨rfl, xs.mergeSort (fun x y => decide (x ≤ y)), List.mergeSort_perm _ _, ?_, ?_, grownBy_sortedI _⟩
      · have := List.pairwise_mergeSort (le := fun x y : Int => decide (x ≤ y)) (fun a b c h1 h2 => by simp at *; omega) (fun a b => by simp; omega) xs
        exact this.imp (fun h => by simpa using h)
      · have hl : (xs.mergeSort fun x y => decide (x ≤ y)).length = xs.length := (List.mergeSort_perm _ _).length_eq
        refine OwnRep.of_rows ?_
        rw [hl, int_rows]
        exact ownsRow_sortedI hl hbg hg hcap hm hs
end
section
open Go.RowKit Go.Sort Go.Lib Go.Shelf

theorem ltOf_pcmp (x y : Post) : ltOf pcmp x y = pltB x y := by
  unfold ltOf
  rw [Bool.eq_iff_iff, decide_eq_true_iff]
  exact pcmp_neg x y
theorem swoP : SWO (ltOf pcmp) where
  irrefl x := by rw [ltOf_pcmp]; exact pltB_irrefl x
  trans x y z h1 h2 := by rw [ltOf_pcmp] at *; exact pltB_trans h1 h2
  ntrans x y z h1 h2 := by
    rw [ltOf_pcmp] at *
    exact ple_trans (show ple z y from h2) (show ple y x from h1)
section
variable {α : Type} [Inhabited α] {k : Nat} {enc : α → List Value} {e : TypeId} {base : Nat} {w : World} {xs : List α}
theorem OwnRep.holds (hR : Shape k (flat enc)) {g n cap : Nat} (h : OwnRep k (flat enc) e base w xs (.slice (some ⟨g, 0, none⟩) n cap)) : HoldsK enc k w g 0 xs.toArray := by
  intro j hj
  rw [size_flatK] at hj
  simp only [List.size_toArray] at hj
  have hk : 0 < k := Nat.pos_of_ne_zero fun h0 => by subst h0; simp at hj
  have hi : j / k < xs.length := (Nat.div_lt_iff_lt_mul hk).2 hj
  obtain ⟨x, hx⟩ := get_at xs hi
  obtain ⟨g', cap', hv, _, _, _, _, _, hc⟩ := h.open_ hR (Nat.lt_of_le_of_lt (Nat.zero_le _) hi)
  injection hv with hv1
  injection hv1 with hv1
  injection hv1 with hv1
  subst hv1
  have hlen : (enc x).length = k := hR.len (w := w) (F := fun _ => True) (x := x) rfl
  have hm : j % k < (enc x).length := by rw [hlen]; exact Nat.mod_lt _ hk
  have h1 := hc (j / k) x (j % k) _ hx (List.getElem?_eq_getElem hm)
  rw [Nat.div_add_mod' j k] at h1
  rw [get_flatK _ _ _ _ (by simpa using hj)]
  have hxa : xs.toArray[j / k]! = x := by
    simp [hx]
  rw [hxa, Nat.zero_add]
  simpa [hm] using h1
theorem flat_getElem? (hk : ∀ x, (enc x).length = k) : ∀ (ys : List α) (t : Nat), t < ys.length * k → (ys.map enc).flatten[t]? = some ((enc ys.toArray[t / k]!)[t % k]!)
  | [], t, ht => by simp at ht
  | y :: ys, t, ht => by
    have hk0 : 0 < k := Nat.pos_of_ne_zero fun h0 => by subst h0; simp at ht
    rw [List.map_cons, List.flatten_cons]
    by_cases h1 : t < k
    · rw [List.getElem?_append_left (by rw [hk]; exact h1), Nat.div_eq_of_lt h1, Nat.mod_eq_of_lt h1]
      simp [hk, h1]
    · have ht' : t - k < ys.length * k := by rw [List.length_cons, Nat.add_mul] at ht; omega
      rw [List.getElem?_append_right (by rw [hk]; omega), hk, flat_getElem? hk ys (t - k) ht']
      have hd : t / k = (t - k) / k + 1 := by rw [Nat.div_eq_sub_div hk0 (by omega)]
      have hm : t % k = (t - k) % k := by rw [Nat.mod_eq_sub_mod (by omega)]
      have hlt : (t - k) / k < ys.length := (Nat.div_lt_iff_lt_mul hk0).2 ht'
      rw [hd, hm]
      simp [hlt]
theorem OwnRep.sorted (hk : ∀ x, (enc x).length = k) {g n cap : Nat} (h : OwnRep k (flat enc) e base w xs (.slice (some ⟨g, 0, none⟩) n cap)) (ys : List α) (hl : ys.length = xs.length) (m : Nat) (os : Array Obj) :
    OwnRep k (flat enc) e base (sortWorldK enc k w g 0 m ys.toArray os) ys (.slice (some ⟨g, 0, none⟩) n cap) ∧ w.grownBy (sortWorldK enc k w g 0 m ys.toArray os) (some g) := by
  have hrow := h.rows
  have hltg := (h.own_lt g rfl).2
  have hh : ∀ i, (sortWorldK enc k w g 0 m ys.toArray os).heap[i]? = if i < w.heap.size then (if i = g then (w.heap[i]?).map (onCells (putCells id 0 (flatK enc k ys.toArray))) else w.heap[i]?) else os[i - w.heap.size]? := by
    intro i
    show ((w.heap.modify g (onCells (putCells id 0 (flatK enc k ys.toArray)))) ++ os)[i]? = _
    by_cases hi : i < w.heap.size
    · rw [Array.getElem?_append_left (by simpa using hi), Array.getElem?_modify, if_pos hi]
      by_cases hig : g = i
      · subst hig; simp
      · rw [if_neg hig, if_neg (fun h => hig h.symm)]
    · rw [Array.getElem?_append_right (by simpa using hi), if_neg hi]
      simp
  refine ⟨OwnRep.of_rows ?_, ⟨rfl, rfl, rfl, ?_, fun i hi hne => ?_⟩⟩
  · rcases hrow.2 with ⟨h0, _⟩ | ⟨g', cap', cur, hv, hbg, hg, hcap, hm, hs, ht⟩
    · cases h0
    · injection hv with hv1 hv2 hv3
      injection hv1 with hv1
      injection hv1 with hv1
      subst hv1 hv2 hv3
      have hfl : (ys.map enc).flatten.length = ys.length * k := by
        clear hh
        induction ys generalizing xs with
        | nil => simp
        | cons y ys ih => 
          have : ∀ zs : List α, (zs.map enc).flatten.length = zs.length * k := fun zs => by
            induction zs with
            | nil => simp
            | cons z zs ihz => rw [List.map_cons, List.flatten_cons, List.length_append, hk, ihz, List.length_cons, Nat.add_mul]; omega
          exact this _
      refine ⟨hfl, .inr ⟨g, cap, putCells id 0 (flatK enc k ys.toArray) cur, by rw [hl], hbg, ?_, by omega, hm, by simpa [putCells] using hs, ?_⟩⟩
      · rw [hh, if_pos hltg, if_pos rfl, hg]
        rfl
      · apply List.ext_getElem?
        intro t
        by_cases htl : t < ys.length * k
        · have hkc : t < cur.size := by
            have := Nat.mul_le_mul_right k (show ys.length ≤ cap by omega)
            omega
          rw [List.getElem?_take, if_pos htl, flat_getElem? hk ys t htl]
          have h1 : t < (flatK enc k ys.toArray).size := by simpa using htl
          simp only [putCells, Array.getElem?_toList, Array.getElem?_mapIdx, Array.getElem?_eq_getElem hkc, Option.map_some, Nat.zero_le, true_and, Nat.zero_add, if_pos h1, Nat.sub_zero, id]
          rw [get_flatK _ _ _ _ (by simpa using htl)]
        · rw [List.getElem?_take, if_neg htl, List.getElem?_eq_none (by omega)]
  · show w.heap.size ≤ ((w.heap.modify g _) ++ os).size
    simp
  · rw [hh, if_pos hi, if_neg (fun h => hne (by rw [h]))]
end

instance : Inhabited Post := ⟨⟨⟨#[]⟩, 0, 0, 0⟩⟩
theorem alloc3_growP (W : World) (a b c : Obj) : ∃ q os', (((W.alloc a).alloc b).alloc c).drew = grow (W.drewN q) os' := ⟨1, #[a, b, c], by
  rw [alloc_eq_grow, alloc_eq_grow, alloc_eq_grow, grow_grow, grow_grow]
  rfl⟩
theorem sortPosts_c (xs : List Post) (v : Value) (base : Nat) (w : World) (h : OwnRep 4 (flat Post.enc) 36 base w xs v) (hsz : xs.length < 4611686018427387904) :
    Calls Tryz.prog 58 #[v, .func (.func 59) #[] #[]] w fun e w' => e = .returned (.tuple #[]) ∧ OwnRep 4 (flat Post.enc) 36 base w' (sortP xs) v ∧ w.grownBy w' v.ownBlock := by
  have hl : ∀ x : Post, x.enc.length = 4 := fun _ => rfl
  rcases Nat.eq_zero_or_pos xs.length with h0 | h0
  · obtain rfl : xs = [] := List.eq_nil_of_length_eq_zero h0
    obtain ⟨A, c, rfl, _⟩ := h.toSl pstS
    have hc := AnyF.slices_SortFunc_none Tryz.sortPost A c (.func (.func 59) #[] #[]) w
    change Calls Tryz.prog 58 _ _ _ at hc
    refine hc.mono ?_
    rintro e w' ⟨rfl, rfl⟩
    exact ⟨rfl, h, World.grownBy.refl _ _⟩
  · obtain ⟨g, cap, rfl, hb, hg, _⟩ := h.open_ pstS h0
    have eg : ∀ args w, (callFunc 59 args).run Tryz.prog w = .ok (.enter 59 args) w := enters_of Tryz.func59 (by kernel_rfl) rfl
    have hcmp : CmpLays Tryz.prog 59 #[] Post.enc 4 pcmp g 0 xs.toArray.size w := fun _ _ _ _ x y => (compare_c x y _).mono fun _ _ ⟨h1, _, _, _, h2⟩ => ⟨h1, h2 ▸ alloc3_growP _ _ _ _⟩
    have hc := AnyQ.slices_SortFunc Tryz.sortPost 4 (fun w => by kernel_rfl) (fun w => by kernel_rfl) Post.enc hl (fun x v hv => pstS.one (w := w) (F := fun _ => True) (x := x) rfl v hv) pcmp swoP 59 #[] g 0 cap xs.toArray w eg hcmp (h.holds pstS) hg (by simpa using hsz)
    change Calls Tryz.prog 58 _ _ _ at hc
    simp only [List.size_toArray] at hc
    refine hc.mono ?_
    rintro e w' ⟨rfl, d', n, os, hp, hs, rfl⟩
    obtain ⟨p1, _, p3⟩ := hp
    have hd : d'.size = xs.length := by simpa using p1
    have hds := h.sorted hl d'.toList (by simpa using hd) n os
    have he1 : (d'.extract 0 xs.length) = d' := by rw [← hd]; simp
    have he2 : (xs.toArray.extract 0 xs.length) = xs.toArray := by simp
    rw [he1, he2] at p3
    have hsort : SortedP d'.toList := by
      rw [SortedP, List.pairwise_iff_getElem]
      intro i j hi hj hij
      have hj' : j < d'.size := by simpa using hj
      have hi' : i < d'.size := by simpa using hi
      have := hs i j (Nat.zero_le _) hij (by omega)
      rw [ltOf_pcmp] at this
      simpa [ple, hi', hj'] using this
    have he := sortP_of hsort (show d'.toList.Perm xs by simpa using p3)
    rw [← he]
    exact ⟨rfl, by simpa using hds.1, by simpa [Value.ownBlock] using hds.2⟩
end
end Go.Proofs.YtngodakkdhdmjaaGreatDoor
