/- slices.SortFunc at hits: the shelf's contract brought to my words. -/
import Derived.Test.YtngodakkdhdmjaaGreatDoorSus
import Derived.Test.YtngodakkdhdmjaaGreatDoorSos
namespace Go.Proofs.YtngodakkdhdmjaaGreatDoor
open Go.RowKit Go.Sort Go.Lib Go.Shelf

def hcmp (x y : Hit) : Int := or2 (cmpI y.score x.score) (cmpI x.unit y.unit)
theorem ltOf_hcmp (x y : Hit) : ltOf hcmp x y = !hleB y x := by
  unfold ltOf hcmp or2 cmpI hleB
  rw [Bool.eq_iff_iff, decide_eq_true_iff]
  simp only [Bool.not_eq_true', Bool.or_eq_false_iff, Bool.and_eq_false_iff, decide_eq_false_iff_not]
  repeat' split
  all_goals omega
theorem swoH : SWO (ltOf hcmp) where
  irrefl x := by
    rw [ltOf_hcmp]
    rcases hle_to x x with h | h <;> rw [h] <;> rfl
  trans x y z h1 h2 := by
    rw [ltOf_hcmp] at *
    cases h3 : hleB z x
    · rfl
    · have hxy : hleB x y = true := (hle_to x y).resolve_right (by simpa using h1)
      rw [hle_tr z x y h3 hxy] at h2
      exact h2
  ntrans x y z h1 h2 := by
    rw [ltOf_hcmp] at *
    rw [hle_tr z y x (by simpa using h2) (by simpa using h1)]
    rfl
instance : Inhabited Hit := ⟨⟨0, 0⟩⟩
theorem hitf_c (x y : Hit) (W : World) :
    Calls Tryz.prog 66 #[.agg #[.int .i64 x.unit, .int .i64 x.score], .agg #[.int .i64 y.unit, .int .i64 y.score]] W fun e w' => e = .returned (.int .i64 (hcmp x y)) ∧ ∃ q os', w' = grow (W.drewN q) os' := by
  go_enter Tryz.func66, Tryz.ntmps66
  go_wp2
  go_region_held3 (fun w' => w'.cell? ⟨W.heap.size, 0, none⟩ = some (.int .i64 x.unit) ∧ w'.cell? ⟨W.heap.size, 1, none⟩ = some (.int .i64 x.score) ∧ w'.cell? ⟨W.heap.size + 1, 0, none⟩ = some (.int .i64 y.unit) ∧ w'.cell? ⟨W.heap.size + 1, 1, none⟩ = some (.int .i64 y.score)) (simp [go_sem, World.cell?_alloc_past])
    (first
      | (go_at_call 43; refine (cmpI_c _ _ _).mono ?_; rintro e w' ⟨rfl, rfl⟩)
      | (go_at_call 42; refine Calls.mono (or_c (cmpI y.score x.score) (cmpI x.unit y.unit) _ _ (by simp [go_sem]) (by simp [go_sem])) ?_; rintro e w' ⟨rfl, rfl⟩))
  go_wp2
  go_ret
  exact ⟨rfl, alloc3_growP _ _ _ _⟩
theorem sortHits_c (xs : List Hit) (v : Value) (base : Nat) (w : World) (h : OwnRep 2 (flat Hit.enc) 30 base w xs v) (hsz : xs.length < 4611686018427387904) :
    Calls Tryz.prog 65 #[v, .func (.func 66) #[] #[]] w fun e w' => e = .returned (.tuple #[]) ∧ OwnRep 2 (flat Hit.enc) 30 base w' (sortH xs) v ∧ w.grownBy w' v.ownBlock := by
  have hl : ∀ x : Hit, x.enc.length = 2 := fun _ => rfl
  rcases Nat.eq_zero_or_pos xs.length with h0 | h0
  · obtain rfl : xs = [] := List.eq_nil_of_length_eq_zero h0
    obtain ⟨A, c, rfl, _⟩ := h.toSl hitS
    have hc := AnyF.slices_SortFunc_none Tryz.sortHit A c (.func (.func 66) #[] #[]) w
    change Calls Tryz.prog 65 _ _ _ at hc
    refine hc.mono ?_
    rintro e w' ⟨rfl, rfl⟩
    exact ⟨rfl, h, World.grownBy.refl _ _⟩
  · obtain ⟨g, cap, rfl, hb, hg, _⟩ := h.open_ hitS h0
    have eg : ∀ args w, (callFunc 66 args).run Tryz.prog w = .ok (.enter 66 args) w := enters_of Tryz.func66 (by kernel_rfl) rfl
    have hcmp : CmpLays Tryz.prog 66 #[] Hit.enc 2 hcmp g 0 xs.toArray.size w := fun _ _ _ _ x y => hitf_c x y _
    have hc := AnyQ.slices_SortFunc Tryz.sortHit 2 (fun w => by kernel_rfl) (fun w => by kernel_rfl) Hit.enc hl (fun x v hv => hitS.one (w := w) (F := fun _ => True) (x := x) rfl v hv) Go.Proofs.YtngodakkdhdmjaaGreatDoor.hcmp swoH 66 #[] g 0 cap xs.toArray w eg hcmp (h.holds hitS) hg (by simpa using hsz)
    change Calls Tryz.prog 65 _ _ _ at hc
    simp only [List.size_toArray] at hc
    refine hc.mono ?_
    rintro e w' ⟨rfl, d', n, os, hp, hs, rfl⟩
    obtain ⟨p1, _, p3⟩ := hp
    have hd : d'.size = xs.length := by simpa using p1
    have hds := h.sorted hl d'.toList (by simpa using hd) n os
    have he1 : (d'.extract 0 xs.length) = d' := by rw [← hd]; simp
    have he2 : (xs.toArray.extract 0 xs.length) = xs.toArray := by simp
    rw [he1, he2] at p3
    have hsort : d'.toList.Pairwise (fun a b => hleB a b = true) := by
      rw [List.pairwise_iff_getElem]
      intro i j hi hj hij
      have hj' : j < d'.size := by simpa using hj
      have hi' : i < d'.size := by simpa using hi
      have := hs i j (Nat.zero_le _) hij (by omega)
      rw [ltOf_hcmp] at this
      simpa [hi', hj'] using this
    have he : d'.toList = sortH xs := sortG_of hle_tr hle_to hle_an hsort (show d'.toList.Perm xs by simpa using p3)
    rw [← he]
    exact ⟨rfl, by simpa using hds.1, by simpa [Value.ownBlock] using hds.2⟩
end Go.Proofs.YtngodakkdhdmjaaGreatDoor
