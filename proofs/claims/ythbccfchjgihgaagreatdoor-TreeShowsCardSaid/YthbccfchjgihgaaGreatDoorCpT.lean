/- The statements' own helpers: the copy of a tree, its size. -/
import Derived.Test.YthbccfchjgihgaaGreatDoorKid
import Derived.Deep.RegionLawGrows
namespace Go.Proofs.YthbccfchjgihgaaGreatDoor
open Go.RowKit

/-- a branch whose kids lie only in blocks of a kind -/
def outR (p : Nat → Prop) : CRep Brn := fun w F x cs => brnR w (fun b => F b ∧ p b) x cs
theorem outS (p : Nat → Prop) : Shape 6 (outR p) :=
  ⟨fun hf h => brnS.frame (fun b hb => hf b hb.1) h, fun hm h => brnS.mono (fun b hb => ⟨hm b hb.1, hb.2⟩) h, fun h => brnS.len h, fun h => brnS.one h⟩
theorem to_off {p : Nat → Prop} {w : World} {F : Nat → Prop} {xs : List Brn} {v : Value} (h : SlRep 6 brnR w F xs v) (hp : ∀ b, F b → p b) : SlRep 6 (outR p) w F xs v := by
  obtain ⟨A, c, e1, h1, h2, h3⟩ := h
  refine ⟨A, c, e1, h1, h2, fun i x hx => ?_⟩
  obtain ⟨b, off, cs, hA, hF, hr, hc⟩ := h3 i x hx
  exact ⟨b, off, cs, hA, hF, brnS.mono (fun b hb => ⟨hb, hp b hb⟩) hr, hc⟩
theorem of_off {p : Nat → Prop} {base : Nat} {e : TypeId} {W : World} {xs : List Brn} {v : Value} (h : OwnRep 6 (outR p) e base W xs v) (hp : ∀ b, base ≤ b → p b) : SlRep 6 brnR W (fun b => b < W.heap.size ∧ p b) xs v := by
  have hlt := h.own_lt
  obtain ⟨A, c, e1, h1, h2, h3⟩ := h.toSl (outS p)
  refine ⟨A, c, e1, h1, h2, fun i x hx => ?_⟩
  obtain ⟨b, off, cs, hA, hF, hr, hc⟩ := h3 i x hx
  have hbo := hlt b (by rw [e1, hA]; rfl)
  exact ⟨b, off, cs, hA, ⟨hbo.2, hp b hbo.1⟩, hr, hc⟩
theorem OwnRep.brnAt {p : Nat → Prop} {e : TypeId} {base g n cap : Nat} {w : World} {xs : List Brn} (h : OwnRep 6 (outR p) e base w xs (.slice (some ⟨g, 0, none⟩) n cap)) {i : Nat} {x : Brn} (hx : xs[i]? = some x) :
    ∃ v, w.cell? ⟨g, i * 6 + 5, none⟩ = some v ∧ w.frozen? ⟨g, i * 6 + 5, none⟩ = false ∧ SlRep 1 (flat intEnc) w (fun b => (b < w.heap.size ∧ b ≠ g) ∧ p b) x.kids v := by
  obtain ⟨css, hl, hr, hown⟩ := h
  obtain ⟨cs, hcs⟩ := get_at css (show i < css.length by rw [hl]; exact lt_of_at hx)
  obtain ⟨v, h1, h2⟩ := hr i x cs hx hcs
  refine ⟨v, ?_, ?_, h2.monoF intS (fun b hb => ⟨⟨hb.1.1, fun e => hb.1.2 (by rw [e]; rfl)⟩, hb.2⟩)⟩
  · have := hown.cells (g := g) rfl (i * 6 + 5) v (flatten_at (outS p) hl hr i x cs 5 v hx hcs (by rw [h1]; rfl))
    rwa [Addr.add_lit, Nat.zero_add] at this
  · rcases hown.2 with ⟨h0, _⟩ | ⟨g', cap', cur, hv, _, hg, _⟩
    · cases h0
    · injection hv with hv1
      injection hv1 with hv1
      injection hv1 with hv1
      subst hv1
      simp [World.frozen?, hg]
theorem OwnRep.setBrn {p : Nat → Prop} {e : TypeId} {base g n cap : Nat} {w : World} {xs : List Brn} (h : OwnRep 6 (outR p) e base w xs (.slice (some ⟨g, 0, none⟩) n cap)) {i : Nat} {x : Brn} {u : Value} (hx : xs[i]? = some x) (hu : SlRep 1 (flat intEnc) w (fun b => (b < w.heap.size ∧ b ≠ g) ∧ p b) x.kids u) :
    OwnRep 6 (outR p) e base (w.setCell ⟨g, i * 6 + 5, none⟩ u) xs (.slice (some ⟨g, 0, none⟩) n cap) := by
  obtain ⟨css, hl, hr, hown⟩ := h
  have hil := lt_of_at hx
  obtain ⟨cs, hcs⟩ := get_at css (show i < css.length by omega)
  obtain ⟨v, h1, h2⟩ := hr i x cs hx hcs
  have hfr : ∀ b, (b < w.heap.size ∧ (Value.slice (some ⟨g, 0, none⟩) n cap).ownBlock ≠ some b) → (w.setCell ⟨g, i * 6 + 5, none⟩ u).heap[b]? = w.heap[b]? := fun b hb => Below.heap_setCell _ _ _ _ (fun e => hb.2 (by rw [e]; rfl))
  have hlk : ∀ c ∈ css, c.length = 6 := fun c hc => by
    obtain ⟨j, hj⟩ := List.getElem?_of_mem hc
    obtain ⟨y, hy⟩ := get_at xs (show j < xs.length by have := lt_of_at hj; omega)
    exact (outS p).len (hr j y c hy hj)
  refine ⟨css.set i (cs.set 5 u), by simp [hl], fun j y ds hy hds => ?_, ?_⟩
  · rw [List.getElem?_set] at hds
    by_cases hij : i = j
    · subst hij
      rw [if_pos rfl, if_pos (by omega)] at hds
      injection hds with hds
      rw [hx] at hy
      injection hy with hy
      subst hds hy h1
      exact ⟨u, rfl, (hu.frame intS (fun b hb => hfr b ⟨hb.1.1, fun e => hb.1.2 (by injection e with e; exact e.symm)⟩)).monoF intS (fun b hb => ⟨⟨by simpa using hb.1.1, fun e => hb.1.2 (by injection e with e; exact e.symm)⟩, hb.2⟩)⟩
    · rw [if_neg hij] at hds
      exact (outS p).mono (fun b hb => ⟨by simpa using hb.1, hb.2⟩) ((outS p).frame hfr (hr j y ds hy hds))
  · have hf := flatten_set css i 5 cs u hlk hcs (by omega)
    rcases hown.2 with ⟨h0, _⟩ | ⟨g', cap', cur, hv, hbg, hg, hcap, hm, hs, ht⟩
    · cases h0
    · injection hv with hv1 hv2 hv3
      injection hv1 with hv1
      injection hv1 with hv1
      subst hv1 hv2 hv3
      refine ⟨by rw [hf, List.length_set]; exact hown.1, .inr ⟨g, cap, cur.setIfInBounds (i * 6 + 5) u, rfl, hbg, ?_, hcap, hm, by simpa using hs, ?_⟩⟩
      · simp [World.setCell, Array.getElem?_modify, hg]
      · rw [hf, Array.toList_setIfInBounds, List.take_set, ht]
set_option maxHeartbeats 1000000 in
theorem cloneB_c (p : Nat → Prop) (xs : List Brn) (v : Value) (w : World) (B : Nat) (hB : B ≤ w.heap.size) (h : SlRep 6 (outR p) w (fun b => b < B) xs v) (hn : xs.length ≤ 100000) :
    Calls Tryz.prog 50 #[v] w fun e w' => ∃ v', e = .returned v' ∧ OwnRep 6 (outR p) 60 w.heap.size w' xs v' ∧ Below w.heap.size w w' := by
  obtain ⟨A, c, rfl, hc1, hc2, _⟩ := id h
  have HN := Lib.hid hn
  clear hn
  rcases A with _ | ad
  · obtain rfl : xs = [] := by
      obtain ⟨A', c', e', _, _, h3⟩ := id h
      injection e' with e1 e2
      rcases xs with _ | ⟨y, ys⟩
      · rfl
      · obtain ⟨_, _, _, hA, _⟩ := h3 0 y rfl
        rw [← e1] at hA
        cases hA
    clear h
    have hq := fun (W : World) => Lib.run_eql_slice_nil (P := Tryz.prog) W 23 60 none 0 c 0 0 Tryz.underlying23
    go_enter Tryz.func50, Tryz.ntmps50
    go_wp2
    go_ret
    exact ⟨_, rfl, OwnRep.nil_, Below.refl _ _⟩
  · have hq := fun (W : World) => Lib.run_eql_slice_nil (P := Tryz.prog) W 23 60 (some ad) xs.length c 0 0 Tryz.underlying23
    go_enter Tryz.func50, Tryz.ntmps50
    go_wp2_with (at_builtin; refine stop_intro ?_)
    refine stop_elim ?_
    refine wpList_append_rep rfl (outS p) brnE_ w.heap.size (.tmp 5) (.tmp 6) rfl rfl (OwnRep.empty_new ?hg ?hb) rfl (ys := xs) (F := fun b => b < B) ?src ?F ?n (by decide) ?hbase ?_
    case hb => exact Nat.le_refl _
    case hg => rfl
    case src => exact h.below (outS p) ((Below.refl _ _).alloc hB _)
    case F => intro b' (hb' : b' < B); exact ⟨by simp only [World.size_alloc]; omega, show some w.heap.size ≠ some b' by simp; omega⟩
    case hbase => simp only [World.size_alloc]; omega
    case n => have hn := HN.out; simp; omega
    intro v1 w1 hown1 hg1 hat1
    rw [List.nil_append] at hown1
    change World.grownBy _ w1 (some w.heap.size) at hg1
    have hb1 : Below w.heap.size w w1 := ((Below.refl _ _).alloc (Nat.le_refl _) _).grown hg1 (by simp only [World.size_alloc]; omega) (fun k hk => by injection hk; omega)
    go_wp2
    go_ret
    exact ⟨_, rfl, hown1, hb1⟩
/-- what the copy is made of: the box of the copy, the box of the result, the two rows -/
structure CpAt (w : World) (n1 : Nat) (t : Tre) (v1 v2 : Value) (W : World) : Prop where
  cb : W.heap[w.heap.size]? = some (treC v1 v2)
  rb : W.heap[w.heap.size + 1]? = some (treC (.slice none 0 0) (.slice none 0 0))
  lo : w.heap.size + 2 ≤ n1
  hi : n1 ≤ W.heap.size
  tops : SlRep 1 (flat intEnc) W (fun b => w.heap.size + 2 ≤ b ∧ b < n1) t.roots v1
  brs : OwnRep 6 (outR fun b => b < w.heap.size ∨ w.heap.size + 2 ≤ b) 60 n1 W t.brs v2
  below : Below w.heap.size w W
abbrev put2 (W : World) (g : Nat) (v1 v2 : Value) : World := (W.setCell ⟨g, 0, none⟩ v1).setCell ⟨g, 1, none⟩ v2
theorem put2_at {W : World} {g : Nat} {a b v1 v2 : Value} (h : W.heap[g]? = some (treC a b)) : (put2 W g v1 v2).heap[g]? = some (treC v1 v2) := by
  simp [put2, World.setCell, Array.getElem?_modify, h]
theorem put2_other {W : World} {g k : Nat} {v1 v2 : Value} (h : k ≠ g) : (put2 W g v1 v2).heap[k]? = W.heap[k]? := by
  rw [Below.heap_setCell _ _ _ _ h, Below.heap_setCell _ _ _ _ h]
theorem tre_cells {W : World} {g : Nat} {v1 v2 : Value} (h : W.heap[g]? = some (treC v1 v2)) : W.cell? ⟨g, 0, none⟩ = some v1 ∧ W.cell? ⟨g, 1, none⟩ = some v2 ∧ W.frozen? ⟨g, 0, none⟩ = false ∧ W.frozen? ⟨g, 1, none⟩ = false ∧ g < W.heap.size :=
  ⟨by rw [Lib.cell_of_heap h]; rfl, by rw [Lib.cell_of_heap h]; rfl, Lib.frozen_of_heap h 0, Lib.frozen_of_heap h 1, heap_ltT h⟩
/-- the end of the copy: it is laid in the result's box -/
theorem CpAt.fin {w W : World} {n1 : Nat} {t : Tre} {v1 v2 : Value} (h : CpAt w n1 t v1 v2 W) : TreRep (put2 W (w.heap.size + 1) v1 v2) (put2 W (w.heap.size + 1) v1 v2).heap.size t v1 v2 ∧ Below w.heap.size w (put2 W (w.heap.size + 1) v1 v2) := by
  have hl := heap_ltT h.rb
  have hlo := h.lo
  have hhi := h.hi
  have hs : (put2 W (w.heap.size + 1) v1 v2).heap.size = W.heap.size := by simp [put2, World.setCell]
  have hp : ∀ b, n1 ≤ b → (b < w.heap.size ∨ w.heap.size + 2 ≤ b) := fun b hb => .inr (by omega)
  exact ⟨⟨(h.tops.frame intS (fun b hb => put2_other (by omega))).monoF intS (fun b hb => by omega), ((of_off h.brs hp).frame brnS (fun b hb => put2_other (by have := hb.2; omega))).monoF brnS (fun b hb => by rw [hs]; exact hb.1)⟩, ((h.below.setCell (p := ⟨w.heap.size + 1, 0, none⟩) (Nat.le_succ _) _).setCell (p := ⟨w.heap.size + 1, 1, none⟩) (Nat.le_succ _) _)⟩
theorem CpAt.call {w W W' : World} {n1 : Nat} {t : Tre} {v1 v2 : Value} (h : CpAt w n1 t v1 v2 W) (hb : Below W.heap.size W W') : CpAt w n1 t v1 v2 W' where
  cb := (hb.block _ (heap_ltT h.cb)).trans h.cb
  rb := (hb.block _ (heap_ltT h.rb)).trans h.rb
  lo := h.lo
  hi := Nat.le_trans h.hi hb.size
  tops := h.tops.frame intS (fun b hb' => hb.block b (Nat.lt_of_lt_of_le hb'.2 h.hi))
  brs := h.brs.below (outS _) hb
  below := h.below.trans (hb.mono h.below.size)
theorem CpAt.kid {w W : World} {n1 g n cap i : Nat} {t : Tre} {x : Brn} {v1 u : Value} (h : CpAt w n1 t v1 (.slice (some ⟨g, 0, none⟩) n cap) W) (hx : t.brs[i]? = some x) (hu : SlRep 1 (flat intEnc) W (fun b => (b < W.heap.size ∧ b ≠ g) ∧ (b < w.heap.size ∨ w.heap.size + 2 ≤ b)) x.kids u) : CpAt w n1 t v1 (.slice (some ⟨g, 0, none⟩) n cap) (W.setCell ⟨g, i * 6 + 5, none⟩ u) := by
  have hg := (h.brs.own_lt g rfl).1
  have hlo := h.lo
  exact { cb := (Below.heap_setCell _ _ _ _ (by show w.heap.size ≠ g; omega)).trans h.cb, rb := (Below.heap_setCell _ _ _ _ (by show w.heap.size + 1 ≠ g; omega)).trans h.rb, lo := h.lo, hi := by simpa [World.setCell] using h.hi, tops := h.tops.frame intS (fun b hb => Below.heap_setCell _ _ _ _ (by show b ≠ g; omega)), brs := h.brs.setBrn hx hu, below := h.below.setCell (p := ⟨g, i * 6 + 5, none⟩) (by show w.heap.size ≤ g; omega) _ }
abbrev cpW (w : World) (vr vb : Value) : World := (w.alloc (treC vr vb)).alloc (treC (.slice none 0 0) (.slice none 0 0))
theorem cpW_at (w : World) (vr vb : Value) : (cpW w vr vb).heap[w.heap.size]? = some (treC vr vb) ∧ (cpW w vr vb).heap[w.heap.size + 1]? = some (treC (.slice none 0 0) (.slice none 0 0)) ∧ Below w.heap.size w (cpW w vr vb) ∧ (cpW w vr vb).heap.size = w.heap.size + 2 := by
  refine ⟨(Below.heap_alloc _ _ _ (by simp)).trans (heap_newT w _), ?_, ((Below.refl _ _).alloc (Nat.le_refl _) _).alloc (by simp) _, by simp⟩
  have := heap_newT (w.alloc (treC vr vb)) (treC (.slice none 0 0) (.slice none 0 0))
  rwa [show (w.alloc (treC vr vb)).heap.size = w.heap.size + 1 by simp] at this
theorem CpAt.make {w w1 w2 : World} {t : Tre} {vr vb v1 v2 : Value} (h1 : OwnRep 1 (flat intEnc) 3 (w.heap.size + 2) w1 t.roots v1) (h2 : OwnRep 6 (outR fun b => b < w.heap.size ∨ w.heap.size + 2 ≤ b) 60 w1.heap.size w2 t.brs v2) (hb : Below (w.heap.size + 2) (cpW w vr vb) w1) (hb2 : Below w1.heap.size w1 w2) :
    CpAt w w1.heap.size t v1 v2 (put2 w2 w.heap.size v1 v2) := by
  obtain ⟨k1, k2, k3, k4⟩ := cpW_at w vr vb
  have hs := hb.size
  rw [k4] at hs
  have hb3 := hb.trans (hb2.mono hs)
  have hg := h2.own_lt
  refine ⟨put2_at ((hb3.block _ (by omega)).trans k1), (put2_other (by omega)).trans ((hb3.block _ (by omega)).trans k2), hs, by simpa [put2, World.setCell] using hb2.size, ?_, ?_, ((k3.trans (hb3.mono (by omega))).setCell (p := ⟨w.heap.size, 0, none⟩) (Nat.le_refl _) _).setCell (p := ⟨w.heap.size, 1, none⟩) (Nat.le_refl _) _⟩
  · obtain ⟨A, c, e1, e2, e3, e4⟩ := h1.toSl intS
    have hI : SlRep 1 (flat intEnc) w1 (fun b => w.heap.size + 2 ≤ b ∧ b < w1.heap.size) t.roots v1 := ⟨A, c, e1, e2, e3, fun i x hx => by
      obtain ⟨b, off, cs, hA, hF, hr, hc⟩ := e4 i x hx
      exact ⟨b, off, cs, hA, ⟨(h1.own_lt b (by rw [e1, hA]; rfl)).1, hF⟩, hr, hc⟩⟩
    exact hI.frame intS (fun b hb' => (put2_other (by omega)).trans (hb2.block b hb'.2))
  · obtain ⟨css, hl, hr, hown⟩ := h2
    refine ⟨css, hl, fun i x cs hx hcs => ?_, ownsRow_frame hown fun b hv => put2_other (by have := (hg b hv).1; omega)⟩
    exact brnS.mono (fun b hb' => ⟨⟨by simpa [put2, World.setCell] using hb'.1.1, hb'.1.2⟩, hb'.2⟩) (brnS.frame (fun b hb' => put2_other (by have := hb'.2; omega)) (hr i x cs hx hcs))
def CpPost (t : Tre) (w : World) (e : Ending) (w' : World) : Prop := ∃ vr' vb', e = .returned (treV vr' vb') ∧ TreRep w' w'.heap.size t vr' vb' ∧ Below w.heap.size w w'
set_option maxRecDepth 100000 in
set_option maxHeartbeats 8000000 in
theorem cp_c (t : Tre) (h1 : t.roots.length ≤ 100000) (h2 : t.brs.length ≤ 100000) (h3 : ∀ b ∈ t.brs, b.kids.length ≤ 100000) (vr vb : Value) (w : World) (B : Nat) (hB : B ≤ w.heap.size) (h : TreRep w B t vr vb) :
    Calls Tryz.prog 14 #[treV vr vb] w (CpPost t w) := by
  obtain ⟨k1, k2, k3, k4⟩ := cpW_at w vr vb
  have KC := Lib.hid (fun (W : World) (hW : Below (w.heap.size + 2) (cpW w vr vb) W) => tre_cells ((hW.block _ (by omega)).trans k1))
  have HCI := Lib.hid (fun (W : World) (hW : Below (w.heap.size + 2) (cpW w vr vb) W) => cloneInts_c t.roots vr W (fun b => b < B) (h.below ((k3.trans (hW.mono (by omega))).mono hB)).tops h1)
  have HCB := Lib.hid (fun (W : World) (hW : Below (w.heap.size + 2) (cpW w vr vb) W) => cloneB_c (fun b => b < w.heap.size ∨ w.heap.size + 2 ≤ b) t.brs vb W B (by have := hW.size; omega) (to_off (h.below ((k3.trans (hW.mono (by omega))).mono hB)).brs (fun b hb => .inl (Nat.lt_of_lt_of_le hb hB))) h2)
  have H3 := Lib.hid h3
  obtain ⟨Ar, cr, rfl, -⟩ := id h.tops
  obtain ⟨A, ca, rfl, -⟩ := id h.brs
  have hbX : Below (w.heap.size + 2) (cpW w (.slice Ar t.roots.length cr) (.slice A t.brs.length ca)) (cpW w (.slice Ar t.roots.length cr) (.slice A t.brs.length ca)).drew := (Below.refl _ _).drew
  obtain ⟨z0, z1, f0, f1, zl⟩ := KC.out _ hbX
  have k4' := Nat.le_of_eq k4.symm
  clear k1 k2 k3 h3
  go_enter Tryz.func14, Tryz.ntmps14
  go_wp2
  go_region_law (first
    | (go_simp; go_at_call 49; (with_reducible refine (HCI.out _ hbX).mono ?_); rintro e w1 ⟨v1, rfl, ho1, hb1⟩; have hbX1 := bnd_call hbX k4' hb1; obtain ⟨z0, z1, f0, f1, zl⟩ := KC.out _ hbX1; obtain ⟨A1, c1, rfl, -⟩ := id (ho1.toSl intS))
    | (go_simp; go_at_call 50; (with_reducible refine (HCB.out _ hbX1).mono ?_); rintro e w2 ⟨v2, rfl, ho2, hb2⟩; have hbX2 := bnd_call hbX1 k4' hb2; obtain ⟨z0, z1, f0, f1, zl⟩ := KC.out _ hbX2; obtain ⟨A2, c2, rfl, -⟩ := id (ho2.toSl (outS _))))
  all_goals
    have HC := CpAt.make (ho1.base_le (Nat.le_trans k4' hbX.size)) ho2 hbX1 hb2
    have HL := Lib.hid (HC.lo)
    obtain ⟨n1, hn1⟩ : ∃ n, w1.heap.size = n := ⟨_, rfl⟩
    rw [hn1] at HC HL
    clear hn1 z0 z1 f0 f1 zl ho1 ho2 hb1 hb2 hbX1 hbX2 hbX KC HCI HCB
    obtain ⟨z0, z1, f0, f1, zl⟩ := tre_cells HC.cb
    go_wp2
    go_loopw [15] (fun i wr => ∃ k : Nat, k ≤ t.brs.length ∧ i = .int .i64 k ∧ CpAt w n1 t (.slice A1 t.roots.length c1) (.slice A2 t.brs.length c2) wr) (fun i _ => t.brs.length - (intOf i).toNat)
    case atStart => exact ⟨0, Nat.zero_le _, rfl, HC⟩
    case round =>
      clear z0 z1 f0 f1 zl HC
      obtain ⟨k, hk, rfl, HC⟩ := hrel
      obtain ⟨z0, z1, f0, f1, zl⟩ := tre_cells HC.cb
      by_cases hlt : k < t.brs.length
      · obtain ⟨x, hx⟩ := get_at t.brs hlt
        have hxl := H3.out x (List.mem_of_getElem? hx)
        obtain ⟨g, rfl⟩ : ∃ g, A2 = some ⟨g, 0, none⟩ := by
          obtain ⟨_, _, _, hrow⟩ := HC.brs
          rcases hrow.2 with ⟨h0, _⟩ | ⟨g, cap, cur, h1, _⟩
          · injection h0 with _ h2; omega
          · injection h1 with h1; exact ⟨g, h1⟩
        obtain ⟨vx, x0, xf, hvx⟩ := HC.brs.brnAt hx
        obtain ⟨hg1, hg2⟩ := HC.brs.own_lt g rfl
        obtain ⟨Ax, cx, rfl, -⟩ := id hvx
        have hki : (k : Int) < (t.brs.length : Int) := by omega
        have hwk : IntKind.i64.wrap ((k : Int) + 1) = (k : Int) + 1 := IntWalk.i64_in _ (by omega)
        have bD : Below wr.heap.size wr wr.drew := (Below.refl _ _).drew
        have HCK := Lib.hid (cloneInts_c x.kids (.slice Ax x.kids.length cx) wr.drew (fun b => (b < wr.heap.size ∧ b ≠ g) ∧ (b < w.heap.size ∨ w.heap.size + 2 ≤ b)) (hvx.frame intS (fun b hb' => bD.block b hb'.1.1)) hxl)
        have HN := Lib.hid (fun (W : World) (hW : Below wr.heap.size wr W) => And.intro (HC.call hW) (And.intro ((hW.cell (p := ⟨g, k * 6 + 5, none⟩) hg2).trans x0) (tre_cells (HC.call hW).cb)))
        have HX := Lib.hid hx
        obtain ⟨-, y0, z0, z1, f0, f1, zl⟩ := HN.out _ bD
        clear hx hvx x0 xf HC
        go_wp2
        go_region_law (first
          | (go_simp; go_at_call 49; (with_reducible refine HCK.out.mono ?_); rintro e w3 ⟨v3, rfl, ho3, hb3⟩; have hbY := bnd_call bD (Nat.le_refl _) hb3; obtain ⟨hC3, y0, z0, z1, f0, f1, zl⟩ := HN.out _ hbY; obtain ⟨A3, c3, rfl, -⟩ := id (ho3.toSl intS); obtain ⟨-, -, yf, -⟩ := hC3.brs.brnAt HX.out))
        all_goals
          have hlo := HL.out
          have hlt3 := ho3.own_lt
          have hG := hC3.kid HX.out (u := .slice A3 x.kids.length c3) ((ho3.toFlat intS).monoF intS (fun b hb' => by
            obtain ⟨q1, q2⟩ := hlt3 b hb'
            have q3 : wr.heap.size ≤ b := q1
            omega))
          clear hC3 ho3 hb3 hbY hlt3 y0 yf z0 z1 f0 f1 zl
          go_wp2
          go_roundw
          case rel => exact ⟨k + 1, by omega, by go_num, hG⟩
          case measure => simp [intOf]; omega
      · have hki : ¬ (k : Int) < (t.brs.length : Int) := by omega
        have hr := HC.rb
        obtain ⟨y0, y1, g0, g1, yl⟩ := tre_cells hr
        have HF := Lib.hid HC.fin
        clear HC hr
        go_wp2
        refine bodyPost_ret (v := treV (.slice A1 t.roots.length c1) (.slice A2 t.brs.length c2)) (by simp [results, Tryz.results14, go_sem, y0, y1]) rfl ⟨_, _, rfl, HF.out⟩
set_option maxRecDepth 100000 in
set_option maxHeartbeats 4000000 in
theorem few_c (t : Tre) (vr vb : Value) (w : World) (B : Nat) (hB : B ≤ w.heap.size) (h : TreRep w B t vr vb) :
    Calls Tryz.prog 12 #[treV vr vb] w fun e w' => e = .returned (.bool (fewT t)) ∧ Below w.heap.size w w' := by
  have b1 := tre_new w vr vb
  obtain ⟨z0, z1, zl⟩ := treW_at (Below.refl (w.heap.size + 1) (w.alloc (treC vr vb)))
  obtain ⟨Ar, cr, rfl, -⟩ := id h.tops
  obtain ⟨A, ca, rfl, hc1, hc2, _⟩ := id h.brs
  have HIT := Lib.hid (fun (k : Nat) (x : Brn) (hx : t.brs[k]? = some x) => Brns.at_ (h.below (b1.mono hB)).brs hx)
  have HE := Lib.hid (show fewT t = (!(decide (20 < t.brs.length) && decide (t.brs.length ≠ 257)) && decide (t.roots.length ≤ 20) && t.brs.all fun b => decide (b.kids.length ≤ 20) && decide (b.title.size ≤ 100) && decide (b.mark.size ≤ 100)) from rfl)
  by_cases h1 : 20 < t.brs.length ∧ t.brs.length ≠ 257
  · have HX := Lib.hid (show fewT t = false by rw [HE.out]; simp [h1.1, h1.2])
    have hi1 : (20 : Int) < (t.brs.length : Int) := by omega
    have hi2 : ((t.brs.length : Int) != 257) = true := by simpa using (fun e => h1.2 (by omega) : ¬ (t.brs.length : Int) = 257)
    clear h1 HE
    go_enter Tryz.func12, Tryz.ntmps12
    go_wp2
    go_ret
    exact ⟨ret_bool HX.out.symm, b1⟩
  · have HG := Lib.hid (show (¬ (20 : Int) < (t.brs.length : Int) ∧ True) ∨ ((20 : Int) < (t.brs.length : Int) ∧ ((t.brs.length : Int) != 257) = false) by
      rcases Nat.lt_or_ge 20 t.brs.length with h2 | h2
      · have h3 : t.brs.length = 257 := Classical.byContradiction fun e => h1 ⟨h2, e⟩
        right; simp [h3]
      · left; exact ⟨by omega, trivial⟩)
    have HE := Lib.hid (show fewT t = (decide (t.roots.length ≤ 20) && t.brs.all fun b => decide (b.kids.length ≤ 20) && decide (b.title.size ≤ 100) && decide (b.mark.size ≤ 100)) by
      rw [HE.out]
      have : (decide (20 < t.brs.length) && decide (t.brs.length ≠ 257)) = false := by
        rw [Bool.eq_false_iff]
        intro c
        rw [Bool.and_eq_true, decide_eq_true_eq, decide_eq_true_eq] at c
        exact h1 c
      rw [this]; rfl)
    clear h1
    by_cases h2 : t.roots.length ≤ 20
    · have hr1 : ¬ (20 : Int) < (t.roots.length : Int) := by omega
      have HE0 := Lib.hid (show fewT t = (t.brs.drop 0).all fun b => decide (b.kids.length ≤ 20) && decide (b.title.size ≤ 100) && decide (b.mark.size ≤ 100) by rw [HE.out]; simp [h2])
      have hbW : B ≤ (w.alloc (treC (.slice Ar t.roots.length cr) (.slice A t.brs.length ca))).heap.size := Nat.le_trans hB b1.size
      clear h2 HE h
      go_enter Tryz.func12, Tryz.ntmps12
      rcases HG.out with ⟨hg, hg'⟩ | ⟨hg, hg'⟩
      all_goals
        go_wp2
        go_loopw [3] (fun i wr => ∃ k : Nat, k ≤ t.brs.length ∧ i = .int .i64 k ∧ Hid (fewT t = (t.brs.drop k).all fun b => decide (b.kids.length ≤ 20) && decide (b.title.size ≤ 100) && decide (b.mark.size ≤ 100)) ∧ wr = w.alloc (treC (.slice Ar t.roots.length cr) (.slice A t.brs.length ca))) (fun i _ => t.brs.length - (intOf i).toNat)
        case atStart => exact ⟨0, Nat.zero_le _, rfl, HE0, rfl⟩
        case round =>
          obtain ⟨k, hk, rfl, HS, rfl⟩ := hrel
          by_cases hlt : k < t.brs.length
          · obtain ⟨x, hx⟩ := get_at t.brs hlt
            obtain ⟨b, off, vk, rfl, hbB, g0, g1, g2, g3, g4, g5, hkr⟩ := HIT.out k x hx
            have HD := Lib.hid (drop_at hx)
            obtain ⟨Ak, ck, rfl, -⟩ := id hkr
            have hki : (k : Int) < (t.brs.length : Int) := by omega
            have hw : IntKind.i64.wrap ((k : Int) + 1) = (k : Int) + 1 := IntWalk.i64_in _ (by omega)
            have hbw : b < (w.alloc (treC (.slice Ar t.roots.length cr) (.slice (some ⟨b, off, none⟩) t.brs.length ca))).heap.size := by have : b < B := hbB; omega
            clear hx hkr
            by_cases ht : x.kids.length ≤ 20
            · have hti : ¬ (20 : Int) < (x.kids.length : Int) := by omega
              by_cases hd : x.title.size ≤ 100
              · have hdi : ¬ (100 : Int) < (x.title.size : Int) := by omega
                by_cases hm : x.mark.size ≤ 100
                · have hmi : ¬ (100 : Int) < (x.mark.size : Int) := by omega
                  have HE := Lib.hid (show fewT t = (t.brs.drop (k + 1)).all fun b => decide (b.kids.length ≤ 20) && decide (b.title.size ≤ 100) && decide (b.mark.size ≤ 100) by rw [HS.out, HD.out]; simp [ht, hd, hm])
                  clear ht hd hm
                  go_wp2
                  go_roundw
                  case rel => exact ⟨k + 1, by omega, by go_num, HE, by first | rfl | trivial⟩
                  case measure => simp [intOf]; omega
                · have hmi : (100 : Int) < (x.mark.size : Int) := by omega
                  have HE := Lib.hid (show fewT t = false by rw [HS.out, HD.out]; simp [hm])
                  clear ht hd hm
                  go_wp2
                  go_ret
                  exact ⟨ret_bool HE.out.symm, b1⟩
              · have hdi : (100 : Int) < (x.title.size : Int) := by omega
                have HE := Lib.hid (show fewT t = false by rw [HS.out, HD.out]; simp [hd])
                clear ht hd
                go_wp2
                go_ret
                exact ⟨ret_bool HE.out.symm, b1⟩
            · have hti : (20 : Int) < (x.kids.length : Int) := by omega
              have HE := Lib.hid (show fewT t = false by rw [HS.out, HD.out]; simp [ht])
              clear ht
              go_wp2
              go_ret
              exact ⟨ret_bool HE.out.symm, b1⟩
          · have HE := Lib.hid (show fewT t = true by rw [HS.out, List.drop_of_length_le (by omega)]; rfl)
            have hki : ¬ (k : Int) < (t.brs.length : Int) := by omega
            go_wp2
            go_ret
            exact ⟨ret_bool HE.out.symm, b1⟩
    · have hr1 : (20 : Int) < (t.roots.length : Int) := by omega
      have HX := Lib.hid (show fewT t = false by rw [HE.out]; simp [h2])
      clear h2 HE h
      go_enter Tryz.func12, Tryz.ntmps12
      rcases HG.out with ⟨hg, hg'⟩ | ⟨hg, hg'⟩
      all_goals
        go_wp2
        go_ret
        exact ⟨ret_bool HX.out.symm, b1⟩
end Go.Proofs.YthbccfchjgihgaaGreatDoor
