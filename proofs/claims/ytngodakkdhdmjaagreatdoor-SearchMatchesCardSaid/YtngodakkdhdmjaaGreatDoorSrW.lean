/- slices.SortFunc at words, by a closure that looks up how often each is met. -/
import Derived.Test.YtngodakkdhdmjaaGreatDoorSus
import Derived.Test.YtngodakkdhdmjaaGreatDoorSos
import Derived.Test.YtngodakkdhdmjaaGreatDoorBas
import Derived.Test.YtngodakkdhdmjaaGreatDoorShst
namespace Go.Proofs.YtngodakkdhdmjaaGreatDoor
open Go.RowKit Go.Sort Go.Lib Go.Shelf

/-- how often a word is met, as a map reads -/
def cntM (l : List Post) (x : ByteArray) : Option Int := if cntN l x = 0 then none else some (cntN l x : Nat)
theorem cntM_nil : cntM [] = fun _ => none := by funext x; simp [cntM, cntN]
theorem cntM_get (l : List Post) (x : ByteArray) : (match cntM l x with | none => (.int .i64 0 : Value) | some v => .int .i64 v) = .int .i64 (cntN l x : Nat) := by
  unfold cntM
  by_cases h : cntN l x = 0
  · rw [if_pos h, h]; rfl
  · rw [if_neg h]
theorem cntM_snoc (l : List Post) (p : Post) : upd (cntM l) p.word ((cntN l p.word : Nat) + 1) = cntM (l ++ [p]) := by
  funext x
  unfold upd cntM
  rw [cntN_snoc]
  by_cases h : x = p.word
  · subst h
    rw [if_pos rfl, if_pos rfl, if_neg (by omega)]
    congr 1
  · have h' : ¬ p.word = x := fun e => h e.symm
    rw [if_neg h]
    simp only [h', if_false]
theorem strK : KeyKind Tryz.prog 9 Value.string := string_kind Tryz.underlying9
abbrev intV (n : Int) : Value := .int .i64 n
theorem look_cnt {w : World} {mb : Nat} {l : List Post} (h : MapF w mb Value.string intV (cntM l)) (x : ByteArray) : (Instr.lookup 79 (.map (some mb)) (.string x) false).run Tryz.prog w = .ok (.int .i64 (cntN l x : Nat)) w := by
  have hz : (zeroValue 3).run Tryz.prog w = .ok (.int .i64 0) w := Tryz.zeroValue3 w
  have := run_lookup_at strK Tryz.underlying79 hz h x false
  rw [this, ← cntM_get l x]
  cases cntM l x <;> rfl
def scmp (l : List Post) (a b : ByteArray) : Int := or2 (cmpI (cntN l b : Nat) (cntN l a : Nat)) (cmpS a b)
theorem ltOf_scmp (l : List Post) (a b : ByteArray) : ltOf (scmp l) a b = !sleB l b a := by
  have irr : ∀ x, lessB x x = false := fun x => by
    cases e : lessB x x
    · rfl
    · rw [lessB_asymm e] at e; cases e
  unfold ltOf
  rw [Bool.eq_iff_iff, decide_eq_true_iff, Bool.not_eq_true', ← Bool.not_eq_true, sle_iff]
  rcases Nat.lt_trichotomy (cntN l a) (cntN l b) with h | h | h
  · have e : scmp l a b = 1 := by
      have : cmpI (cntN l b : Nat) (cntN l a : Nat) = 1 := by unfold cmpI; rw [if_neg (by omega), if_pos (by omega)]
      unfold scmp
      rw [this]
      rfl
    rw [e]
    omega
  · have e : scmp l a b = cmpS a b := by
      have : cmpI (cntN l b : Nat) (cntN l a : Nat) = 0 := by unfold cmpI; rw [if_neg (by omega), if_neg (by omega)]
      unfold scmp
      rw [this]
      rfl
    rw [e, h]
    unfold cmpS
    rcases lessB_tri a b with g | g | g
    · rw [if_pos g, g]
      simp
    · subst g
      rw [if_neg (by simp [irr]), if_pos rfl]
      simp [irr]
    · rw [if_neg (by simp [lessB_asymm g]), if_neg (by rintro rfl; rw [irr] at g; cases g)]
      simp [lessB_asymm g]
  · have e : scmp l a b = -1 := by
      have : cmpI (cntN l b : Nat) (cntN l a : Nat) = -1 := by unfold cmpI; rw [if_pos (by omega)]
      unfold scmp
      rw [this]
      rfl
    rw [e]
    omega
theorem swoW (l : List Post) : SWO (ltOf (scmp l)) where
  irrefl x := by
    rw [ltOf_scmp]
    rcases sle_to l x x with h | h <;> rw [h] <;> rfl
  trans x y z h1 h2 := by
    rw [ltOf_scmp] at *
    cases h3 : sleB l z x
    · rfl
    · have hxy : sleB l x y = true := (sle_to l x y).resolve_right (by simpa using h1)
      rw [sle_tr l z x y h3 hxy] at h2
      exact h2
  ntrans x y z h1 h2 := by
    rw [ltOf_scmp] at *
    rw [sle_tr l z y x (by simpa using h2) (by simpa using h1)]
    rfl
instance : Inhabited ByteArray := ⟨⟨#[]⟩⟩
theorem sug1_c (l : List Post) (mb g : Nat) (a b : ByteArray) (w : World) (hm : MapF w mb Value.string intV (cntM l)) (hg : w.cell? ⟨g, 0, none⟩ = some (.map (some mb))) :
    Calls Tryz.prog 41 #[.string a, .string b, .pointer (some ⟨g, 0, none⟩)] w fun e w' => e = .returned (.int .i64 (scmp l a b)) ∧ ∃ q os', w' = grow (w.drewN q) os' := by
  have q1 := look_cnt hm a
  have q2 := look_cnt hm b
  have HC := Lib.hid (fun (x y : Int) (W : World) => cmpI_c x y W)
  have HS := Lib.hid (fun (W : World) => cmpS_c a b W)
  have HE := Lib.hid (show scmp l a b = or2 (cmpI (cntN l b : Nat) (cntN l a : Nat)) (cmpS a b) from rfl)
  generalize cntN l a = na at *
  generalize cntN l b = nb at *
  go_enter Tryz.func41, Tryz.ntmps41
  go_wp2_with fail
  refine (HC.out _ _ _).mono ?_
  rintro e w1 ⟨rfl, rfl⟩
  go_wp2_with fail
  refine (HS.out _).mono ?_
  rintro e w1 ⟨rfl, rfl⟩
  go_wp2_with fail
  refine Calls.mono (or_c (cmpI (nb : Nat) (na : Nat)) (cmpS a b) _ _ (by simp [go_sem]) (by simp [go_sem])) ?_
  rintro e w1 ⟨rfl, rfl⟩
  go_wp2
  go_ret
  exact ⟨ret_int HE.out.symm, 0, #[_], by rw [alloc_eq_grow]; rfl⟩
theorem sortWorld_heapW {α : Type} [Inhabited α] (enc : α → Value) (w : World) (g m : Nat) (d : Array α) (os : Array Obj) (i : Nat) (hi : i < w.heap.size) :
    (sortWorld enc w g 0 m d os).heap[i]? = if i = g then (w.heap[i]?).map (onCells (putCells enc 0 d)) else w.heap[i]? := by
  show ((w.heap.modify g (onCells (putCells enc 0 d))) ++ os)[i]? = _
  rw [Array.getElem?_append_left (by simpa using hi), Array.getElem?_modify]
  by_cases hig : g = i
  · subst hig; simp
  · rw [if_neg hig, if_neg (fun h => hig h.symm)]
theorem flat_str (l : List ByteArray) : (l.map strEnc).flatten = l.map Value.string := by
  induction l with
  | nil => rfl
  | cons x l ih => simp [strEnc, ih]
theorem sortWords_c (ps : List Post) (xs : List ByteArray) (mb gm : Nat) (v : Value) (base : Nat) (w : World) (h : OwnRep 1 (flat strEnc) 9 base w xs v) (hsz : xs.length < 4611686018427387904) (hm : MapF w mb Value.string intV (cntM ps)) (hg : w.cell? ⟨gm, 0, none⟩ = some (.map (some mb))) (hgl : gm < w.heap.size) (h1 : mb < base) (h2 : gm < base) :
    Calls Tryz.prog 40 #[v, .func (.func 41) #[] #[.pointer (some ⟨gm, 0, none⟩)]] w fun e w' => e = .returned (.tuple #[]) ∧ OwnRep 1 (flat strEnc) 9 base w' (sortG (sleB ps) xs) v ∧ w.grownBy w' v.ownBlock := by
  rcases Nat.eq_zero_or_pos xs.length with h0 | h0
  · obtain rfl : xs = [] := List.eq_nil_of_length_eq_zero h0
    obtain ⟨A, c, rfl, _⟩ := h.toSl strS
    have hc := AnyF.slices_SortFunc_none { Tryz.sortWords with } A c (.func (.func 41) #[] #[.pointer (some ⟨gm, 0, none⟩)]) w
    change Calls Tryz.prog 40 _ _ _ at hc
    refine hc.mono ?_
    rintro e w' ⟨rfl, rfl⟩
    exact ⟨rfl, h, World.grownBy.refl _ _⟩
  · obtain ⟨g, cap, rfl, hb, hgw, _⟩ := h.open_ strS h0
    have eg : ∀ args w, (callFunc 41 args).run Tryz.prog w = .ok (.enter 41 args) w := enters_of Tryz.func41 (by kernel_rfl) rfl
    have hcmp : CmpLays1 Tryz.prog 41 #[.pointer (some ⟨gm, 0, none⟩)] Value.string (scmp ps) g 0 xs.toArray.size w := by
      intro m os dk hdk x y
      have hfr : ∀ b, (b < w.heap.size ∧ b ≠ g) → (sortWorld Value.string w g 0 m dk os).heap[b]? = w.heap[b]? := fun b hb => by rw [sortWorld_heapW _ _ _ _ _ _ _ hb.1, if_neg hb.2]
      have hz : w.heap.size ≤ (sortWorld Value.string w g 0 m dk os).heap.size := by
        show w.heap.size ≤ ((w.heap.modify g _) ++ os).size
        simp
      exact sug1_c ps mb gm x y _ (hm.frame (hfr mb ⟨hm.lt, by omega⟩)) ((World.cell?_of_block (a := ⟨gm, 0, none⟩) (hfr gm ⟨hgl, by omega⟩)).trans hg)
    have hH : Holds Value.string w g 0 xs.toArray := by
      intro j hj
      have hj' : j < xs.length := by simpa using hj
      obtain ⟨x, hx⟩ := get_at xs hj'
      obtain ⟨g', cap', hv, _, _, _, _, _, hc⟩ := h.open_ strS h0
      injection hv with hv1
      injection hv1 with hv1
      injection hv1 with hv1
      subst hv1
      have hc0 := hc j x 0 _ hx rfl
      rw [Nat.mul_one, Nat.add_zero] at hc0
      have hxa : xs.toArray[j]! = x := by simp [hx]
      rw [hxa, Nat.zero_add]
      exact hc0
    have hc := Any.slices_SortFunc Tryz.sortWords Value.string (fun _ => rfl) (scmp ps) (swoW ps) 41 #[.pointer (some ⟨gm, 0, none⟩)] g 0 cap xs.toArray w eg hcmp hH hgw (by simpa using hsz)
    change Calls Tryz.prog 40 _ _ _ at hc
    simp only [List.size_toArray] at hc
    refine hc.mono ?_
    rintro e w' ⟨rfl, d', n, os, hp, hs, rfl⟩
    obtain ⟨p1, _, p3⟩ := hp
    have hd : d'.size = xs.length := by simpa using p1
    have he1 : (d'.extract 0 xs.length) = d' := by rw [← hd]; simp
    have he2 : (xs.toArray.extract 0 xs.length) = xs.toArray := by simp
    rw [he1, he2] at p3
    have hsort : d'.toList.Pairwise (fun a b => sleB ps a b = true) := by
      rw [List.pairwise_iff_getElem]
      intro i j hi hj hij
      have hj' : j < d'.size := by simpa using hj
      have hi' : i < d'.size := by simpa using hi
      have := hs i j (Nat.zero_le _) hij (by omega)
      rw [ltOf_scmp] at this
      simpa [hi', hj'] using this
    have he : d'.toList = sortG (sleB ps) xs := sortG_of (sle_tr ps) (sle_to ps) (sle_an ps) hsort (show d'.toList.Perm xs by simpa using p3)
    have hz : w.heap.size ≤ (sortWorld Value.string w g 0 n d' os).heap.size := by
      show w.heap.size ≤ ((w.heap.modify g _) ++ os).size
      simp
    rw [← he]
    refine ⟨rfl, OwnRep.of_rows ?_, ⟨rfl, rfl, rfl, hz, fun k hk hne => by rw [sortWorld_heapW _ _ _ _ _ _ _ hk, if_neg (fun e => hne (by rw [e]; rfl))]⟩⟩
    rcases h.rows.2 with ⟨h9, _⟩ | ⟨g', cap', cur, hv, hbg, hgb, hcap, hmx, hcs, ht⟩
    · cases h9
    · injection hv with hv1 hv2 hv3
      injection hv1 with hv1
      injection hv1 with hv1
      subst hv1 hv3
      have hl : d'.toList.length = xs.length := by simpa using hd
      rw [hl, flat_str]
      refine ⟨by simp [hd], .inr ⟨g, cap, putCells Value.string 0 d' cur, rfl, hbg, ?_, hcap, hmx, by simpa [putCells] using hcs, ?_⟩⟩
      · rw [sortWorld_heapW _ _ _ _ _ _ _ hgw, if_pos rfl, hgb]
        rfl
      · apply List.ext_getElem?
        intro t
        rw [Nat.mul_one]
        by_cases htl : t < xs.length
        · have hkc : t < cur.size := by omega
          have htd : t < d'.size := by omega
          rw [List.getElem?_take, if_pos htl, List.getElem?_map]
          simp [putCells, hkc, htd]
        · rw [List.getElem?_take, if_neg htl, List.getElem?_eq_none (by simp; omega)]
end Go.Proofs.YtngodakkdhdmjaaGreatDoor
