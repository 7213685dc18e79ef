/- slices.SortFunc at rows of my own: the shelf's contract brought to my words; the order on marks and days. -/
import Derived.Test.YtgnaknanpgfpnaaCmp
import Derived.Test.YtgnaknanpgfpnaaOwn
import Derived.Test.YtgnaknanpgfpnaaShelf
namespace Go.Proofs.Ytgnaknanpgfpnaa
open Go.RowKit Go.Sort Go.Lib Go.Shelf

theorem less_irrefl : ∀ x : List UInt8, Op.bytesLess x x = false
  | [] => rfl
  | a :: x => by
    have : ¬ a < a := by rw [UInt8.lt_iff_toNat_lt]; omega
    simp [Op.bytesLess, less_irrefl x, this]
theorem less_trans : ∀ x y z : List UInt8, Op.bytesLess x y = true → Op.bytesLess y z = true → Op.bytesLess x z = true
  | [], [], _, h, _ => by simp [Op.bytesLess] at h
  | [], _ :: _, [], _, h => by simp [Op.bytesLess] at h
  | [], _ :: _, _ :: _, _, _ => by simp [Op.bytesLess]
  | _ :: _, [], _, h, _ => by simp [Op.bytesLess] at h
  | _ :: _, _ :: _, [], _, h => by simp [Op.bytesLess] at h
  | a :: x, b :: y, c :: z, h1, h2 => by
    have ih := less_trans x y z
    simp only [Op.bytesLess, Bool.or_eq_true, Bool.and_eq_true, decide_eq_true_eq, beq_iff_eq, UInt8.lt_iff_toNat_lt] at *
    rcases h1 with h1 | ⟨rfl, h1⟩ <;> rcases h2 with h2 | ⟨rfl, h2⟩
    · left; omega
    · left; omega
    · left; omega
    · right; exact ⟨rfl, ih h1 h2⟩
theorem less_tri : ∀ x y : List UInt8, Op.bytesLess x y = true ∨ x = y ∨ Op.bytesLess y x = true
  | [], [] => by simp
  | [], _ :: _ => by simp [Op.bytesLess]
  | _ :: _, [] => by simp [Op.bytesLess]
  | a :: x, b :: y => by
    have ih := less_tri x y
    by_cases hab : a = b
    · subst hab
      rcases ih with h | rfl | h
      · left; simp [Op.bytesLess, h]
      · right; left; rfl
      · right; right; simp [Op.bytesLess, h]
    · have : a.toNat ≠ b.toNat := fun h => hab (UInt8.toNat_inj.1 h)
      by_cases hlt : a < b
      · left; simp [Op.bytesLess, hlt]
      · right; right
        have : b < a := by rw [UInt8.lt_iff_toNat_lt] at *; omega
        simp [Op.bytesLess, this]
theorem lessB_irrefl (a : ByteArray) : lessB a a = false := less_irrefl _
theorem lessB_trans {a b c : ByteArray} (h1 : lessB a b = true) (h2 : lessB b c = true) : lessB a c = true := less_trans _ _ _ h1 h2
theorem lessB_tri (a b : ByteArray) : lessB a b = true ∨ a = b ∨ lessB b a = true := by
  rcases less_tri a.toList b.toList with h | h | h
  · exact .inl h
  · exact .inr (.inl ((str_iff a b).1 h))
  · exact .inr (.inr h)
theorem lessB_asymm {a b : ByteArray} (h : lessB a b = true) : lessB b a = false := by
  cases h' : lessB b a
  · rfl
  · have := lessB_trans h h'
    rw [lessB_irrefl] at this
    cases this

def ltG (x y : Given) : Bool := lessB x.mark y.mark || (decide (x.mark = y.mark) && decide (x.from_ < y.from_))
theorem ltOf_cmpG (x y : Given) : ltOf cmpG x y = ltG x y := by
  unfold ltOf cmpG ltG or2 cmpS cmpI
  cases h : lessB x.mark y.mark
  · by_cases he : x.mark = y.mark
    · by_cases h1 : x.from_ < y.from_
      · simp [he, h1]
      · by_cases h2 : y.from_ < x.from_ <;> simp [he, h1, h2]
    · simp [he]
  · simp
theorem ltG_irrefl (x : Given) : ltG x x = false := by simp [ltG, lessB_irrefl]
theorem ltG_trans {x y z : Given} (h1 : ltG x y = true) (h2 : ltG y z = true) : ltG x z = true := by
  simp only [ltG, Bool.or_eq_true, Bool.and_eq_true, decide_eq_true_eq] at *
  rcases h1 with h1 | ⟨h1, h1'⟩ <;> rcases h2 with h2 | ⟨h2, h2'⟩
  · exact .inl (lessB_trans h1 h2)
  · exact .inl (h2 ▸ h1)
  · exact .inl (h1 ▸ h2)
  · exact .inr ⟨h1.trans h2, by omega⟩
theorem ltG_tri (x y : Given) : ltG x y = true ∨ (x.mark = y.mark ∧ x.from_ = y.from_) ∨ ltG y x = true := by
  simp only [ltG, Bool.or_eq_true, Bool.and_eq_true, decide_eq_true_eq]
  rcases lessB_tri x.mark y.mark with h | h | h
  · exact .inl (.inl h)
  · rcases Int.lt_trichotomy x.from_ y.from_ with h2 | h2 | h2
    · exact .inl (.inr ⟨h, h2⟩)
    · exact .inr (.inl ⟨h, h2⟩)
    · exact .inr (.inr (.inr ⟨h.symm, h2⟩))
  · exact .inr (.inr (.inl h))
theorem ltG_congr {x y z : Given} (h : x.mark = y.mark ∧ x.from_ = y.from_) : ltG x z = ltG y z ∧ ltG z x = ltG z y := by simp [ltG, h.1, h.2]
theorem swoG : SWO (ltOf cmpG) where
  irrefl x := by rw [ltOf_cmpG]; exact ltG_irrefl x
  trans x y z h1 h2 := by rw [ltOf_cmpG] at *; exact ltG_trans h1 h2
  ntrans x y z h1 h2 := by
    rw [ltOf_cmpG] at *
    rcases ltG_tri x y with h | h | h
    · rw [h] at h1; cases h1
    · rw [(ltG_congr h).1]; exact h2
    · rcases ltG_tri y z with h' | h' | h'
      · rw [h'] at h2; cases h2
      · rw [← (ltG_congr h').2]; exact h1
      · cases hxz : ltG x z
        · rfl
        · have := ltG_trans hxz (ltG_trans h' h)
          rw [ltG_irrefl] at this
          cases this

section
variable {α : Type} [Inhabited α] {k : Nat} {enc : α → List Value} {e : TypeId} {base : Nat} {w : World} {xs : List α}
theorem OwnRep.holds (hR : Shape k (flat enc)) {g n cap : Nat} (h : OwnRep k (flat enc) e base w xs (.slice (some ⟨g, 0, none⟩) n cap)) : HoldsK enc k w g 0 xs.toArray := by
  intro j hj
  rw [size_flatK] at hj
  simp only [List.size_toArray] at hj
  have hk : 0 < k := Nat.pos_of_ne_zero fun h0 => by subst h0; simp at hj
  have hi : j / k < xs.length := (Nat.div_lt_iff_lt_mul hk).2 hj
  obtain ⟨x, hx⟩ := get_at xs hi
  obtain ⟨g', cap', hv, _, _, _, _, _, hc⟩ := h.open_ hR (Nat.lt_of_le_of_lt (Nat.zero_le _) hi)
  injection hv with hv1
  injection hv1 with hv1
  injection hv1 with hv1
  subst hv1
  have hlen : (enc x).length = k := hR.len (w := w) (F := fun _ => True) (x := x) rfl
  have hm : j % k < (enc x).length := by rw [hlen]; exact Nat.mod_lt _ hk
  have h1 := hc (j / k) x (j % k) _ hx (List.getElem?_eq_getElem hm)
  rw [Nat.div_add_mod' j k] at h1
  rw [get_flatK _ _ _ _ (by simpa using hj)]
  have hxa : xs.toArray[j / k]! = x := by
    simp [hx]
  rw [hxa, Nat.zero_add]
  simpa [hm] using h1
theorem flat_getElem? (hk : ∀ x, (enc x).length = k) : ∀ (ys : List α) (t : Nat), t < ys.length * k → (ys.map enc).flatten[t]? = some ((enc ys.toArray[t / k]!)[t % k]!)
  | [], t, ht => by simp at ht
  | y :: ys, t, ht => by
    have hk0 : 0 < k := Nat.pos_of_ne_zero fun h0 => by subst h0; simp at ht
    rw [List.map_cons, List.flatten_cons]
    by_cases h1 : t < k
    · rw [List.getElem?_append_left (by rw [hk]; exact h1), Nat.div_eq_of_lt h1, Nat.mod_eq_of_lt h1]
      simp [hk, h1]
    · have ht' : t - k < ys.length * k := by rw [List.length_cons, Nat.add_mul] at ht; omega
      rw [List.getElem?_append_right (by rw [hk]; omega), hk, flat_getElem? hk ys (t - k) ht']
      have hd : t / k = (t - k) / k + 1 := by rw [Nat.div_eq_sub_div hk0 (by omega)]
      have hm : t % k = (t - k) % k := by rw [Nat.mod_eq_sub_mod (by omega)]
      have hlt : (t - k) / k < ys.length := (Nat.div_lt_iff_lt_mul hk0).2 ht'
      rw [hd, hm]
      simp [hlt]
theorem OwnRep.sorted (hk : ∀ x, (enc x).length = k) {g n cap : Nat} (h : OwnRep k (flat enc) e base w xs (.slice (some ⟨g, 0, none⟩) n cap)) (ys : List α) (hl : ys.length = xs.length) (m : Nat) (os : Array Obj) :
    OwnRep k (flat enc) e base (sortWorldK enc k w g 0 m ys.toArray os) ys (.slice (some ⟨g, 0, none⟩) n cap) ∧ w.grownBy (sortWorldK enc k w g 0 m ys.toArray os) (some g) := by
  have hrow := h.rows
  have hltg := (h.own_lt g rfl).2
  have hh : ∀ i, (sortWorldK enc k w g 0 m ys.toArray os).heap[i]? = if i < w.heap.size then (if i = g then (w.heap[i]?).map (onCells (putCells id 0 (flatK enc k ys.toArray))) else w.heap[i]?) else os[i - w.heap.size]? := by
    intro i
    show ((w.heap.modify g (onCells (putCells id 0 (flatK enc k ys.toArray)))) ++ os)[i]? = _
    by_cases hi : i < w.heap.size
    · rw [Array.getElem?_append_left (by simpa using hi), Array.getElem?_modify, if_pos hi]
      by_cases hig : g = i
      · subst hig; simp
      · rw [if_neg hig, if_neg (fun h => hig h.symm)]
    · rw [Array.getElem?_append_right (by simpa using hi), if_neg hi]
      simp
  refine ⟨OwnRep.of_rows ?_, ⟨rfl, rfl, rfl, ?_, fun i hi hne => ?_⟩⟩
  · rcases hrow.2 with ⟨h0, _⟩ | ⟨g', cap', cur, hv, hbg, hg, hcap, hm, hs, ht⟩
    · cases h0
    · injection hv with hv1 hv2 hv3
      injection hv1 with hv1
      injection hv1 with hv1
      subst hv1 hv2 hv3
      have hfl : (ys.map enc).flatten.length = ys.length * k := by
        clear hh
        induction ys generalizing xs with
        | nil => simp
        | cons y ys ih => 
          have : ∀ zs : List α, (zs.map enc).flatten.length = zs.length * k := fun zs => by
            induction zs with
            | nil => simp
            | cons z zs ihz => rw [List.map_cons, List.flatten_cons, List.length_append, hk, ihz, List.length_cons, Nat.add_mul]; omega
          exact this _
      refine ⟨hfl, .inr ⟨g, cap, putCells id 0 (flatK enc k ys.toArray) cur, by rw [hl], hbg, ?_, by omega, hm, by simpa [putCells] using hs, ?_⟩⟩
      · rw [hh, if_pos hltg, if_pos rfl, hg]
        rfl
      · apply List.ext_getElem?
        intro t
        by_cases htl : t < ys.length * k
        · have hkc : t < cur.size := by
            have := Nat.mul_le_mul_right k (show ys.length ≤ cap by omega)
            omega
          rw [List.getElem?_take, if_pos htl, flat_getElem? hk ys t htl]
          have h1 : t < (flatK enc k ys.toArray).size := by simpa using htl
          simp only [putCells, Array.getElem?_toList, Array.getElem?_mapIdx, Array.getElem?_eq_getElem hkc, Option.map_some, Nat.zero_le, true_and, Nat.zero_add, if_pos h1, Nat.sub_zero, id]
          rw [get_flatK _ _ _ _ (by simpa using htl)]
        · rw [List.getElem?_take, if_neg htl, List.getElem?_eq_none (by omega)]
  · show w.heap.size ≤ ((w.heap.modify g _) ++ os).size
    simp
  · rw [hh, if_pos hi, if_neg (fun h => hne (by rw [h]))]
end

def sortedG (l : List Given) : Prop := l.Pairwise fun a b => ltG b a = false
instance : Inhabited Given := ⟨⟨⟨#[]⟩, 0, 0, 0⟩⟩
theorem sortG_c (xs : List Given) (v : Value) (base : Nat) (w : World) (h : OwnRep 4 (flat Given.enc) 38 base w xs v) (hsz : xs.length < 4611686018427387904) :
    Calls Try.prog 40 #[v, .func (.func 41) #[] #[]] w fun e w' => e = .returned (.tuple #[]) ∧ ∃ ys : List Given, ys.Perm xs ∧ sortedG ys ∧ OwnRep 4 (flat Given.enc) 38 base w' ys v ∧ w.grownBy w' v.ownBlock := by
  have hl : ∀ x : Given, x.enc.length = 4 := fun _ => rfl
  rcases Nat.eq_zero_or_pos xs.length with h0 | h0
  · obtain rfl : xs = [] := List.eq_nil_of_length_eq_zero h0
    obtain ⟨A, c, rfl, _⟩ := h.toSl giS
    have hc := AnyF.slices_SortFunc_none Try.sortGiven A c (.func (.func 41) #[] #[]) w
    change Calls Try.prog 40 _ _ _ at hc
    refine hc.mono ?_
    rintro e w' ⟨rfl, rfl⟩
    exact ⟨rfl, [], List.Perm.refl _, List.Pairwise.nil, h, World.grownBy.refl _ _⟩
  · obtain ⟨g, cap, rfl, hb, hg, _⟩ := h.open_ giS h0
    have eg : ∀ args w, (callFunc 41 args).run Try.prog w = .ok (.enter 41 args) w := enters_of Try.func41 (by kernel_rfl) rfl
    have hcmp : CmpLays Try.prog 41 #[] Given.enc 4 cmpG g 0 xs.toArray.size w := fun _ _ _ _ x y => cmpG_c x y _
    have hc := AnyQ.slices_SortFunc Try.sortGiven 4 (fun w => by kernel_rfl) (fun w => by kernel_rfl) Given.enc hl (fun x v hv => giS.one (w := w) (F := fun _ => True) (x := x) rfl v hv) cmpG swoG 41 #[] g 0 cap xs.toArray w eg hcmp (h.holds giS) hg (by simpa using hsz)
    change Calls Try.prog 40 _ _ _ at hc
    simp only [List.size_toArray] at hc
    refine hc.mono ?_
    rintro e w' ⟨rfl, d', n, os, hp, hs, rfl⟩
    obtain ⟨p1, _, p3⟩ := hp
    have hd : d'.size = xs.length := by simpa using p1
    have hds := h.sorted hl d'.toList (by simpa using hd) n os
    have he1 : (d'.extract 0 xs.length) = d' := by rw [← hd]; simp
    have he2 : (xs.toArray.extract 0 xs.length) = xs.toArray := by simp
    rw [he1, he2] at p3
    refine ⟨rfl, d'.toList, by simpa using p3, ?_, by simpa using hds.1, by simpa [Value.ownBlock] using hds.2⟩
    rw [sortedG, List.pairwise_iff_getElem]
    intro i j hi hj hij
    have hj' : j < d'.size := by simpa using hj
    have hi' : i < d'.size := by simpa using hi
    have := hs i j (Nat.zero_le _) hij (by omega)
    rw [ltOf_cmpG] at this
    simpa [hi', hj'] using this
end Go.Proofs.Ytgnaknanpgfpnaa
