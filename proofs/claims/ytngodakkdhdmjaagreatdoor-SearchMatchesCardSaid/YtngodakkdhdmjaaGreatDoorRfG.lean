/- The reference: Copy. -/
import Derived.Test.YtngodakkdhdmjaaGreatDoorRfF
import Derived.Test.YtngodakkdhdmjaaGreatDoorPri
import Derived.Deep.RegionLaw
import Derived.Outline
namespace Go.Proofs.YtngodakkdhdmjaaGreatDoor
open Go.RowKit

theorem heap_newT (w : World) (o : Obj) : (w.alloc o).heap[w.heap.size]? = some o := by
  show (w.heap.push _)[w.heap.size]? = _
  simp
theorem heap_ltT {w : World} {b : Nat} {o : Obj} (h : w.heap[b]? = some o) : b < w.heap.size := by
  rcases Nat.lt_or_ge b w.heap.size with hlt | hge
  · exact hlt
  · rw [Array.getElem?_eq_none hge] at h
    cases h
/-- a sheet whose facts lie from block m on -/
def lowT (m : Nat) : CRep Sheet := fun w F x cs => shtR w (fun b => F b ∧ m ≤ b) x cs
theorem lowTS (m : Nat) : Shape 6 (lowT m) :=
  ⟨fun hf h => shtS.frame (fun b hb => hf b hb.1) h, fun hm h => shtS.mono (fun b hb => ⟨hm b hb.1, hb.2⟩) h, fun h => shtS.len h, fun h => shtS.one h⟩
theorem OwnRep.lowT {m base : Nat} {e : TypeId} {W W' : World} {l : List Sheet} {v : Value} (h : OwnRep 6 (lowT m) e base W l v) (hs : W.heap.size ≤ W'.heap.size) (hf : ∀ b, b < W.heap.size → m ≤ b → W'.heap[b]? = W.heap[b]?) (hm : m ≤ base) : OwnRep 6 (Go.Proofs.YtngodakkdhdmjaaGreatDoor.lowT m) e base W' l v := by
  obtain ⟨css, hl, hr, hown⟩ := h
  refine ⟨css, hl, fun i x cs hx hcs => ?_, ownsRow_frame hown (fun b hv => hf b (hown.lt b hv).2 (Nat.le_trans hm (hown.lt b hv).1))⟩
  exact shtS.mono (fun b hb => ⟨⟨Nat.lt_of_lt_of_le hb.1.1 hs, hb.1.2⟩, hb.2⟩) (shtS.frame (fun b hb => hf b hb.1.1 hb.2) (hr i x cs hx hcs))
theorem OwnRep.empty_at {α : Type} {k : Nat} {R : CRep α} {e : TypeId} {base g : Nat} {w : World} (hg : w.heap[g]? = some (.cells #[] e (0, 0))) (hb : base ≤ g) : OwnRep k R e base w ([] : List α) (.slice (some ⟨g, 0, none⟩) 0 0) :=
  ⟨[], rfl, fun i x cs hx => by simp at hx, ⟨by simp, .inr ⟨g, 0, #[], rfl, hb, hg, Nat.le_refl _, by unfold maxLen; omega, by simp, by simp⟩⟩⟩
theorem row_sht {m base : Nat} {e : TypeId} {W : World} {l : List Sheet} {v : Value} (h : OwnRep 6 (lowT m) e base W l v) (hb : m ≤ base) : SlRep 6 shtR W (fun b => m ≤ b ∧ b < W.heap.size) l v := by
  have hlt := h.own_lt
  obtain ⟨A, c, e1, h1, h2, h3⟩ := h.toSl (lowTS m)
  refine ⟨A, c, e1, h1, h2, fun i x hx => ?_⟩
  obtain ⟨b, off, cs, hA, hF, hr, hc⟩ := h3 i x hx
  have hbo := hlt b (by rw [e1, hA]; rfl)
  exact ⟨b, off, cs, hA, ⟨Nat.le_trans hb hbo.1, hbo.2⟩, shtS.mono (fun b hb => ⟨hb.2, hb.1⟩) hr, hc⟩
/-- the row and its facts lie from 'lo' on -/
theorem OwnRep.lowSht {m lo : Nat} {e : TypeId} {W : World} {l : List Sheet} {v : Value} (h : OwnRep 6 (Go.Proofs.YtngodakkdhdmjaaGreatDoor.lowT m) e m W l v) (hb : lo < m) : ∀ (W' : World), W.heap.size ≤ W'.heap.size → (∀ b, m ≤ b → b < W.heap.size → W'.heap[b]? = W.heap[b]?) → OwnRep 6 shtR e lo W' l v := by
  intro W' hs hf
  obtain ⟨css, hl, hr, hown⟩ := h
  have h2 := ownsRow_frame (w' := W') hown (fun b hv => hf b (hown.lt b hv).1 (hown.lt b hv).2)
  refine ⟨css, hl, fun i x cs hx hcs => ?_, h2.1, ?_⟩
  · have h1 := hr i x cs hx hcs
    exact shtS.mono (fun b hb => ⟨Nat.lt_of_lt_of_le hb.1.1 hs, hb.1.2⟩) (shtS.frame (fun b hb => hf b hb.2 hb.1.1) h1)
  · rcases h2.2 with h3 | ⟨g, cap, cur, e1, h4, h5⟩
    · exact .inl h3
    · exact .inr ⟨g, cap, cur, e1, by omega, h5⟩
theorem heap_atL (w : World) (o : Obj) (g : Nat) (h : g = w.heap.size) : (w.alloc o).heap[g]? = some o := by subst h; exact heap_newT w o
theorem heap_drewL (w : World) : w.drew.heap = w.heap := rfl
/-- what the copy works on -/
structure CpyAt (w : World) (c : Cat) (v1 v2 v3 : Value) (g m : Nat) (u1 u2 : Value) (xs : List Sheet) (v : Value) (W : World) : Prop where
  cb : W.heap[w.heap.size]? = some (catC v1 v2 v3)
  rb : W.heap[w.heap.size + 1]? = some (catC (.slice none 0 0) (.slice none 0 0) (.slice none 0 0))
  gb : W.heap[g]? = some (catC u1 u2 v)
  ls : SlRep 1 (flat strEnc) W (fun b => (w.heap.size + 2 ≤ b ∧ b < m) ∧ b ≠ g) c.langs u1
  lb : SlRep 4 (flat Label.enc) W (fun b => (w.heap.size + 2 ≤ b ∧ b < m) ∧ b ≠ g) c.labels u2
  row : OwnRep 6 (lowT m) 59 m W xs v
  below : Below w.heap.size w W
  lg : w.heap.size + 1 < g ∧ g < m
  sz : m ≤ W.heap.size
theorem CpyAt.app {w : World} {c : Cat} {v1 v2 v3 : Value} {g m : Nat} {u1 u2 : Value} {xs : List Sheet} {x : Sheet} {v v' : Value} {W w5 w6 : World} (h : CpyAt w c v1 v2 v3 g m u1 u2 xs v W) (hb : Below W.heap.size W w5) (hown : OwnRep 6 (lowT m) 59 m w6 (xs ++ [x]) v') (hg : w5.grownBy w6 v.ownBlock) :
    CpyAt w c v1 v2 v3 g m u1 u2 (xs ++ [x]) v' (w6.setCell ⟨g, 2, none⟩ v') ∧ w6.frozen? ⟨g, 2, none⟩ = false ∧ w6.cell? ⟨g, 2, none⟩ = some v := by
  have hlt := h.row.own_lt
  have hs5 := hb.size
  have hs6 := hg.size
  have hlg := h.lg
  have hsz := h.sz
  have keep : ∀ b, b < m → w6.heap[b]? = W.heap[b]? := fun b hb' => (hg.block b (by omega) (fun e => by have := (hlt b e.symm).1; omega)).trans (hb.block b (by omega))
  have keep2 : ∀ b, b ≠ g → b < m → (w6.setCell ⟨g, 2, none⟩ v').heap[b]? = W.heap[b]? := fun b hne hb => by rw [Below.heap_setCell _ _ _ _ hne]; exact keep b hb
  have h6 : w6.heap[g]? = some (catC u1 u2 v) := (keep g (by omega)).trans h.gb
  exact ⟨⟨(keep2 _ (by omega) (by omega)).trans h.cb, (keep2 _ (by omega) (by omega)).trans h.rb, by simp [World.setCell, Array.getElem?_modify, h6], h.ls.frame strS (fun b hb => keep2 b hb.2 hb.1.2), h.lb.frame labS (fun b hb => keep2 b hb.2 hb.1.2),
    hown.lowT (by simp [World.setCell]) (fun b _ hm => Below.heap_setCell _ _ _ _ (by show b ≠ g; omega)) (Nat.le_refl _), ((h.below.trans (hb.mono h.below.size)).grown hg (by have := h.below.size; omega) (fun k hk => by have := (hlt k hk).1; omega)).setCell (by show w.heap.size ≤ g; omega) _, hlg, by simp [World.setCell]; omega⟩, Lib.frozen_of_heap h6 2, by rw [Lib.cell_of_heap h6]; rfl⟩
abbrev catN : Obj := catC (.slice none 0 0) (.slice none 0 0) (.slice none 0 0)
theorem zero_at {W : World} {g : Nat} (h : W.heap[g]? = some catN) : W.cell? ⟨g, 0, none⟩ = some (.slice none 0 0) ∧ W.cell? ⟨g, 1, none⟩ = some (.slice none 0 0) ∧ W.cell? ⟨g, 2, none⟩ = some (.slice none 0 0) ∧ W.frozen? ⟨g, 0, none⟩ = false ∧ W.frozen? ⟨g, 1, none⟩ = false ∧ W.frozen? ⟨g, 2, none⟩ = false :=
  ⟨by rw [Lib.cell_of_heap h]; rfl, by rw [Lib.cell_of_heap h]; rfl, by rw [Lib.cell_of_heap h]; rfl, Lib.frozen_of_heap h 0, Lib.frozen_of_heap h 1, Lib.frozen_of_heap h 2⟩
theorem own_keepL {α : Type} {k : Nat} {enc : α → List Value} {e : TypeId} {base gl : Nat} {w1 W w2 : World} {xs : List α} {v1 : Value} (h : OwnRep k (flat enc) e base w1 xs v1) (hb : Below w1.heap.size w1 W) (hg : W.grownBy w2 (some gl)) (hne : v1.ownBlock ≠ some gl) : OwnRep k (flat enc) e base w2 xs v1 :=
  h.keep (fun b hb' => by
    have h1 := (h.own_lt b hb').2
    exact (hg.block b (Nat.lt_of_lt_of_le h1 hb.size) (fun e => hne (by rw [hb', ← e]))).trans (hb.block b h1))
theorem cpy_start {w w5 W : World} {c : Cat} {v1 v2 v3 u1 u2 : Value} {g : Nat} (hb : Below (w.heap.size + 2) ((w.alloc (catC v1 v2 v3)).alloc catN) w5) (h1 : OwnRep 1 (flat strEnc) 9 (w.heap.size + 2) w5 c.langs u1) (h2 : OwnRep 4 (flat Label.enc) 127 (w.heap.size + 2) w5 c.labels u2)
    (n1 : u1.ownBlock ≠ some g) (n2 : u2.ownBlock ≠ some g) (hg : W.heap[g]? = some (catC u1 u2 (.slice none 0 0))) (hW : ∀ b, b ≠ g → b < w5.heap.size → W.heap[b]? = w5.heap[b]?) (hz : w5.heap.size ≤ W.heap.size) (hBW : Below w.heap.size w W) (hl : w.heap.size + 1 < g) : CpyAt w c v1 v2 v3 g W.heap.size u1 u2 [] (.slice none 0 0) W := by
  have hs := hb.size
  simp at hs
  have k0 : ((w.alloc (catC v1 v2 v3)).alloc catN).heap[w.heap.size]? = some (catC v1 v2 v3) := by
    rw [Below.heap_alloc _ _ _ (by simp)]
    exact heap_newT _ _
  have k1 : ((w.alloc (catC v1 v2 v3)).alloc catN).heap[w.heap.size + 1]? = some catN := heap_atL _ _ _ (by simp)
  exact ⟨(hW _ (by omega) (by omega)).trans ((hb.block _ (by omega)).trans k0), (hW _ (by omega) (by omega)).trans ((hb.block _ (by omega)).trans k1), hg,
    ((h1.toFlat strS).frame strS (fun b hb => hW b (fun e => n1 (by rw [hb, e])) (h1.own_lt b hb).2)).monoF strS (fun b hb => ⟨⟨(h1.own_lt b hb).1, by have := (h1.own_lt b hb).2; omega⟩, fun e => n1 (by rw [hb, e])⟩),
    ((h2.toFlat labS).frame labS (fun b hb => hW b (fun e => n2 (by rw [hb, e])) (h2.own_lt b hb).2)).monoF labS (fun b hb => ⟨⟨(h2.own_lt b hb).1, by have := (h2.own_lt b hb).2; omega⟩, fun e => n2 (by rw [hb, e])⟩),
    OwnRep.nil_, hBW, ⟨hl, heap_ltT hg⟩, Nat.le_refl _⟩
/-- the copy's sheets lie behind all else of it -/
def CpyLo (c : Cat) (v1 v2 v3 : Value) (lo : Nat) (W : World) : Prop := ∃ m, lo ≤ m ∧ SlRep 1 (flat strEnc) W (fun b => b < m) c.langs v1 ∧ SlRep 4 (flat Label.enc) W (fun b => b < m) c.labels v2 ∧ OwnRep 6 (lowT m) 59 m W c.sheets v3
set_option maxRecDepth 100000 in
set_option maxHeartbeats 8000000 in
theorem rcopy_lo (c : Cat) (v1 v2 v3 : Value) (w : World) (B : Nat) (hB : B ≤ w.heap.size) (h : CatRep w B c v1 v2 v3) (hF : FewOk c) :
    Calls Tryz.prog 21 #[.agg #[v1, v2, v3]] w fun e w' => ∃ v1 v2 v3, e = .returned (.agg #[v1, v2, v3]) ∧ CatRep w' w'.heap.size c v1 v2 v3 ∧ (OwnRep 6 shtR 59 w.heap.size w' c.sheets v3 ∧ CpyLo c v1 v2 v3 w.heap.size w') ∧ Below w.heap.size w w' := by
  obtain ⟨A1, c1, rfl, ha1, ha2, _⟩ := id h.langs
  obtain ⟨A2, c2, rfl, hb1, hb2, _⟩ := id h.labels
  obtain ⟨A3, c3, rfl, hd1, hd2, _⟩ := id h.sheets
  have b0 : Below w.heap.size w ((w.alloc (catC (.slice A1 c.langs.length c1) (.slice A2 c.labels.length c2) (.slice A3 c.sheets.length c3))).alloc catN) := ((Below.refl _ _).alloc (Nat.le_refl _) _).alloc (by simp) _
  have KC := Lib.hid (fun (W : World) (hW : Below (w.heap.size + 2) ((w.alloc (catC (.slice A1 c.langs.length c1) (.slice A2 c.labels.length c2) (.slice A3 c.sheets.length c3))).alloc catN) W) => (⟨(hW.cell (p := ⟨w.heap.size, 0, none⟩) (by simp)).trans (by simp), (hW.cell (p := ⟨w.heap.size, 1, none⟩) (by simp)).trans (by simp), (hW.cell (p := ⟨w.heap.size, 2, none⟩) (by simp)).trans (by simp), by have := hW.size; simp at this; omega⟩ : W.cell? ⟨w.heap.size, 0, none⟩ = some (.slice A1 c.langs.length c1) ∧ W.cell? ⟨w.heap.size, 1, none⟩ = some (.slice A2 c.labels.length c2) ∧ W.cell? ⟨w.heap.size, 2, none⟩ = some (.slice A3 c.sheets.length c3) ∧ w.heap.size + 1 < W.heap.size))
  have HL := Lib.hid (fun (W : World) (hW : Below w.heap.size w W) => (h.langs.below strS (hW.mono hB)))
  have HB := Lib.hid (fun (W : World) (hW : Below w.heap.size w W) => (h.labels.below labS (hW.mono hB)))
  have HX := Lib.hid (fun (W : World) (hW : Below w.heap.size w W) => (h.sheets.below shtS (hW.mono hB)))
  have hf1 := hF.langs
  have hf2 := hF.labels
  have hf3 := hF.sheets
  have HF := Lib.hid hF.facts
  clear h hF
  have KH := Lib.hid (fun (w' : World) (hW : Below (w.heap.size + 2) ((w.alloc (catC (.slice A1 c.langs.length c1) (.slice A2 c.labels.length c2) (.slice A3 c.sheets.length c3))).alloc catN) w') => (⟨hW, (KC.out _ hW).1, (KC.out _ hW).2.1⟩ : Below (w.heap.size + 2) ((w.alloc (catC (.slice A1 c.langs.length c1) (.slice A2 c.labels.length c2) (.slice A3 c.sheets.length c3))).alloc catN) w' ∧ w'.cell? ⟨w.heap.size, 0, none⟩ = some (.slice A1 c.langs.length c1) ∧ w'.cell? ⟨w.heap.size, 1, none⟩ = some (.slice A2 c.labels.length c2)))
  go_enter Tryz.func21, Tryz.ntmps21
  go_wp2
  go_cut [3] (fun p W => ∃ g m u1 u2, p = .pointer (some ⟨g, 0, none⟩) ∧ CpyAt w c (.slice A1 c.langs.length c1) (.slice A2 c.labels.length c2) (.slice A3 c.sheets.length c3) g m u1 u2 [] (.slice none 0 0) W)
  case first =>
    go_region_held3 (fun w' => Below (w.heap.size + 2) ((w.alloc (catC (.slice A1 c.langs.length c1) (.slice A2 c.labels.length c2) (.slice A3 c.sheets.length c3))).alloc catN) w' ∧ w'.cell? ⟨w.heap.size, 0, none⟩ = some (.slice A1 c.langs.length c1) ∧ w'.cell? ⟨w.heap.size, 1, none⟩ = some (.slice A2 c.labels.length c2)) (exact KH.out _ (by have zz := KC.out; repeat (first | exact hb5 | exact hb4 | exact Below.refl _ _ | refine Below.drew ?_ | refine Below.alloc ?_ (by first | omega | (simp <;> omega)) _ | refine Below.setCell ?_ (by first | omega | (simp <;> omega)) _))) (first
      | (refine step_append_rep rfl strS strE_ (w.heap.size + 2) (.tmp 6) (.tmp 8) rfl rfl (OwnRep.empty_at ?_ ?_) rfl (v := .slice (some ⟨_, 0, none⟩) 0 0) (ys := c.langs) (F := fun b => b < B) ?_ ?_ ?_ (by decide) ?_ ?_
         · (try rw [heap_drewL]); first | (with_reducible refine heap_atL _ _ _ ?_; (first | omega | (simp <;> omega))) | (with_reducible refine (Below.heap_alloc _ _ _ ?_).trans ?_; (· (first | omega | (simp <;> omega))); first | (with_reducible refine heap_atL _ _ _ ?_; (first | omega | (simp <;> omega))) | (with_reducible refine (Below.heap_alloc _ _ _ ?_).trans ?_; (· (first | omega | (simp <;> omega))); (with_reducible refine heap_atL _ _ _ ?_; (first | omega | (simp <;> omega)))))
         · simp
         · exact HL.out _ (by repeat (first | exact Below.refl _ _ | refine Below.drew ?_ | refine Below.alloc ?_ (by first | omega | (simp <;> omega)) _))
         · intro b' (hb' : b' < B); exact ⟨by simp; omega, fun e => by simp [Value.ownBlock] at e <;> omega⟩
         · simp <;> omega
         · simp
         intro v4 w4 hown4 hg4 hat4
         rw [List.nil_append] at hown4
         have hb4 : Below (w.heap.size + 2) ((w.alloc (catC (.slice A1 c.langs.length c1) (.slice A2 c.labels.length c2) (.slice A3 c.sheets.length c3))).alloc catN) w4 := Below.grown (by repeat (first | exact Below.refl _ _ | refine Below.drew ?_ | refine Below.alloc ?_ (by first | omega | (simp <;> omega)) _)) hg4 (by simp <;> omega) (fun k hk => by simp [Value.ownBlock] at hk; omega)
         obtain ⟨A4, c4, rfl, -⟩ := id (hown4.toSl strS)
         obtain ⟨z0, z1, z2, zl⟩ := KC.out _ hb4
         have zm := Nat.lt_of_succ_lt zl
         first
           | (refine (fun (y4 : w4.heap[w.heap.size + 1 + 1]? = some catN) (m4 : Value.ownBlock (.slice A4 c.langs.length c4) ≠ some (w.heap.size + 1 + 1)) => ?_) ?_ ?_; rotate_left; (· (refine (hg4.block _ ?_ ?_).trans ?_; (· (first | omega | (simp <;> omega))); (· (simp [Value.ownBlock] <;> omega)); ((try rw [heap_drewL]); first | (with_reducible refine heap_atL _ _ _ ?_; (first | omega | (simp <;> omega))) | (with_reducible refine (Below.heap_alloc _ _ _ ?_).trans ?_; (· (first | omega | (simp <;> omega))); first | (with_reducible refine heap_atL _ _ _ ?_; (first | omega | (simp <;> omega))) | (with_reducible refine (Below.heap_alloc _ _ _ ?_).trans ?_; (· (first | omega | (simp <;> omega))); (with_reducible refine heap_atL _ _ _ ?_; (first | omega | (simp <;> omega)))))))); (· (rcases hat4 with h | h <;> rw [h] <;> simp [Value.ownBlock] <;> omega)))
           | (refine (fun (y4 : w4.heap[w.heap.size + 1 + 1 + 1]? = some catN) (m4 : Value.ownBlock (.slice A4 c.langs.length c4) ≠ some (w.heap.size + 1 + 1 + 1)) => ?_) ?_ ?_; rotate_left; (· (refine (hg4.block _ ?_ ?_).trans ?_; (· (first | omega | (simp <;> omega))); (· (simp [Value.ownBlock] <;> omega)); ((try rw [heap_drewL]); first | (with_reducible refine heap_atL _ _ _ ?_; (first | omega | (simp <;> omega))) | (with_reducible refine (Below.heap_alloc _ _ _ ?_).trans ?_; (· (first | omega | (simp <;> omega))); first | (with_reducible refine heap_atL _ _ _ ?_; (first | omega | (simp <;> omega))) | (with_reducible refine (Below.heap_alloc _ _ _ ?_).trans ?_; (· (first | omega | (simp <;> omega))); (with_reducible refine heap_atL _ _ _ ?_; (first | omega | (simp <;> omega)))))))); (· (rcases hat4 with h | h <;> rw [h] <;> simp [Value.ownBlock] <;> omega)))
           | (refine (fun (y4 : w4.heap[w.heap.size + 1 + 1 + 1 + 1]? = some catN) (m4 : Value.ownBlock (.slice A4 c.langs.length c4) ≠ some (w.heap.size + 1 + 1 + 1 + 1)) => ?_) ?_ ?_; rotate_left; (· (refine (hg4.block _ ?_ ?_).trans ?_; (· (first | omega | (simp <;> omega))); (· (simp [Value.ownBlock] <;> omega)); ((try rw [heap_drewL]); first | (with_reducible refine heap_atL _ _ _ ?_; (first | omega | (simp <;> omega))) | (with_reducible refine (Below.heap_alloc _ _ _ ?_).trans ?_; (· (first | omega | (simp <;> omega))); first | (with_reducible refine heap_atL _ _ _ ?_; (first | omega | (simp <;> omega))) | (with_reducible refine (Below.heap_alloc _ _ _ ?_).trans ?_; (· (first | omega | (simp <;> omega))); (with_reducible refine heap_atL _ _ _ ?_; (first | omega | (simp <;> omega)))))))); (· (rcases hat4 with h | h <;> rw [h] <;> simp [Value.ownBlock] <;> omega)))
           | skip)
      | (refine step_append_rep rfl labS labE_ (w.heap.size + 2) (.tmp 10) (.tmp 12) rfl rfl (OwnRep.empty_at ?_ ?_) rfl (v := .slice (some ⟨_, 0, none⟩) 0 0) (ys := c.labels) (F := fun b => b < B) ?_ ?_ ?_ (by decide) ?_ ?_
         · have hs4 := hg4.size
           simp at hs4
           first
             | (with_reducible refine heap_atL _ _ _ ?_; (first | omega | (simp <;> omega)))
             | (with_reducible refine (Below.heap_alloc _ _ _ ?_).trans ?_; (· (first | omega | (simp <;> omega))); (with_reducible refine heap_atL _ _ _ ?_; (first | omega | (simp <;> omega))))
             | (refine (hg4.block _ ?_ ?_).trans ?_; (· (first | omega | (simp <;> omega))); (· (simp [Value.ownBlock] <;> omega)); ((try rw [heap_drewL]); first | (with_reducible refine heap_atL _ _ _ ?_; (first | omega | (simp <;> omega))) | (with_reducible refine (Below.heap_alloc _ _ _ ?_).trans ?_; (· (first | omega | (simp <;> omega))); first | (with_reducible refine heap_atL _ _ _ ?_; (first | omega | (simp <;> omega))) | (with_reducible refine (Below.heap_alloc _ _ _ ?_).trans ?_; (· (first | omega | (simp <;> omega))); (with_reducible refine heap_atL _ _ _ ?_; (first | omega | (simp <;> omega)))))))
             | (with_reducible refine (Below.heap_alloc _ _ _ ?_).trans ?_; (· (first | omega | (simp <;> omega))); refine (hg4.block _ ?_ ?_).trans ?_; (· (first | omega | (simp <;> omega))); (· (simp [Value.ownBlock] <;> omega)); ((try rw [heap_drewL]); first | (with_reducible refine heap_atL _ _ _ ?_; (first | omega | (simp <;> omega))) | (with_reducible refine (Below.heap_alloc _ _ _ ?_).trans ?_; (· (first | omega | (simp <;> omega))); first | (with_reducible refine heap_atL _ _ _ ?_; (first | omega | (simp <;> omega))) | (with_reducible refine (Below.heap_alloc _ _ _ ?_).trans ?_; (· (first | omega | (simp <;> omega))); (with_reducible refine heap_atL _ _ _ ?_; (first | omega | (simp <;> omega)))))))
         · have hs4 := hg4.size; simp at hs4 ⊢ <;> omega
         · exact HB.out _ (by have hs4 := hb4.size; simp at hs4; repeat (first | exact b0.trans (hb4.mono (Nat.le_add_right _ _)) | refine Below.drew ?_ | refine Below.alloc ?_ (by first | omega | (simp <;> omega)) _))
         · have hs4 := hb4.size; simp at hs4; intro b' (hb' : b' < B); exact ⟨by first | omega | (simp <;> omega), fun e => by simp [Value.ownBlock] at e <;> omega⟩
         · simp <;> omega
         · have hs4 := hb4.size; simp at hs4; simp <;> omega
         intro v5 w5 hown5 hg5 hat5
         rw [List.nil_append] at hown5
         have hs4 := hb4.size
         simp at hs4
         have hs45 := hg4.size
         simp at hs45
         have hb5 : Below (w.heap.size + 2) ((w.alloc (catC (.slice A1 c.langs.length c1) (.slice A2 c.labels.length c2) (.slice A3 c.sheets.length c3))).alloc catN) w5 := Below.grown (by repeat (first | exact hb4 | refine Below.drew ?_ | refine Below.alloc ?_ (by first | omega | (simp <;> omega)) _)) hg5 (by first | omega | (simp <;> omega)) (fun k hk => by simp [Value.ownBlock] at hk <;> omega)
         have hk4 := own_keepL hown4 (by repeat (first | exact Below.refl _ _ | refine Below.drew ?_ | refine Below.alloc ?_ (by first | omega | (simp <;> omega)) _)) hg5 (by first | (rcases hat4 with h | h <;> rw [h] <;> simp [Value.ownBlock] <;> omega) | (intro e; have := (hown4.own_lt _ e).2; first | omega | (simp at this <;> omega)))
         obtain ⟨A5, c5, rfl, -⟩ := id (hown5.toSl labS)
         obtain ⟨z0, z1, z2, zl⟩ := KC.out _ hb5
         have zm := Nat.lt_of_succ_lt zl
         first
           | (refine (fun (y5 : w5.heap[w4.heap.size]? = some catN) (m5 : Value.ownBlock (.slice A5 c.labels.length c5) ≠ some (w4.heap.size)) (m6 : Value.ownBlock (.slice A4 c.langs.length c4) ≠ some (w4.heap.size)) => ?_) ?_ ?_ ?_; rotate_left; (· (refine (hg5.block _ ?_ ?_).trans ?_; (· (first | omega | (simp <;> omega))); (· (simp [Value.ownBlock] <;> omega)); ((try rw [heap_drewL]); repeat (first | (with_reducible exact y4) | (with_reducible refine heap_atL _ _ _ ?_; (first | omega | (simp <;> omega))) | (with_reducible refine (Below.heap_alloc _ _ _ ?_).trans ?_; (· (first | omega | (simp <;> omega)))))))); (· (rcases hat5 with h | h <;> rw [h] <;> simp [Value.ownBlock] <;> omega)); (· (first | exact m4 | (intro e; have := (hown4.own_lt _ e).2; omega))); obtain ⟨e0, e1, e2, f0, f1, f2⟩ := zero_at y5)
           | (refine (fun (y5 : w5.heap[w4.heap.size + 1]? = some catN) (m5 : Value.ownBlock (.slice A5 c.labels.length c5) ≠ some (w4.heap.size + 1)) (m6 : Value.ownBlock (.slice A4 c.langs.length c4) ≠ some (w4.heap.size + 1)) => ?_) ?_ ?_ ?_; rotate_left; (· (refine (hg5.block _ ?_ ?_).trans ?_; (· (first | omega | (simp <;> omega))); (· (simp [Value.ownBlock] <;> omega)); ((try rw [heap_drewL]); repeat (first | (with_reducible exact y4) | (with_reducible refine heap_atL _ _ _ ?_; (first | omega | (simp <;> omega))) | (with_reducible refine (Below.heap_alloc _ _ _ ?_).trans ?_; (· (first | omega | (simp <;> omega)))))))); (· (rcases hat5 with h | h <;> rw [h] <;> simp [Value.ownBlock] <;> omega)); (· (first | exact m4 | (intro e; have := (hown4.own_lt _ e).2; omega))); obtain ⟨e0, e1, e2, f0, f1, f2⟩ := zero_at y5)
           | (refine (fun (y5 : w5.heap[w.heap.size + 1 + 1]? = some catN) (m5 : Value.ownBlock (.slice A5 c.labels.length c5) ≠ some (w.heap.size + 1 + 1)) (m6 : Value.ownBlock (.slice A4 c.langs.length c4) ≠ some (w.heap.size + 1 + 1)) => ?_) ?_ ?_ ?_; rotate_left; (· (refine (hg5.block _ ?_ ?_).trans ?_; (· (first | omega | (simp <;> omega))); (· (simp [Value.ownBlock] <;> omega)); ((try rw [heap_drewL]); repeat (first | (with_reducible exact y4) | (with_reducible refine heap_atL _ _ _ ?_; (first | omega | (simp <;> omega))) | (with_reducible refine (Below.heap_alloc _ _ _ ?_).trans ?_; (· (first | omega | (simp <;> omega)))))))); (· (rcases hat5 with h | h <;> rw [h] <;> simp [Value.ownBlock] <;> omega)); (· (first | exact m4 | (intro e; have := (hown4.own_lt _ e).2; omega))); obtain ⟨e0, e1, e2, f0, f1, f2⟩ := zero_at y5)
           | (refine (fun (y5 : w5.heap[w.heap.size + 1 + 1 + 1]? = some catN) (m5 : Value.ownBlock (.slice A5 c.labels.length c5) ≠ some (w.heap.size + 1 + 1 + 1)) (m6 : Value.ownBlock (.slice A4 c.langs.length c4) ≠ some (w.heap.size + 1 + 1 + 1)) => ?_) ?_ ?_ ?_; rotate_left; (· (refine (hg5.block _ ?_ ?_).trans ?_; (· (first | omega | (simp <;> omega))); (· (simp [Value.ownBlock] <;> omega)); ((try rw [heap_drewL]); repeat (first | (with_reducible exact y4) | (with_reducible refine heap_atL _ _ _ ?_; (first | omega | (simp <;> omega))) | (with_reducible refine (Below.heap_alloc _ _ _ ?_).trans ?_; (· (first | omega | (simp <;> omega)))))))); (· (rcases hat5 with h | h <;> rw [h] <;> simp [Value.ownBlock] <;> omega)); (· (first | exact m4 | (intro e; have := (hown4.own_lt _ e).2; omega))); obtain ⟨e0, e1, e2, f0, f1, f2⟩ := zero_at y5)
           | (refine (fun (y5 : w5.heap[w.heap.size + 1 + 1 + 1 + 1]? = some catN) (m5 : Value.ownBlock (.slice A5 c.labels.length c5) ≠ some (w.heap.size + 1 + 1 + 1 + 1)) (m6 : Value.ownBlock (.slice A4 c.langs.length c4) ≠ some (w.heap.size + 1 + 1 + 1 + 1)) => ?_) ?_ ?_ ?_; rotate_left; (· (refine (hg5.block _ ?_ ?_).trans ?_; (· (first | omega | (simp <;> omega))); (· (simp [Value.ownBlock] <;> omega)); ((try rw [heap_drewL]); repeat (first | (with_reducible exact y4) | (with_reducible refine heap_atL _ _ _ ?_; (first | omega | (simp <;> omega))) | (with_reducible refine (Below.heap_alloc _ _ _ ?_).trans ?_; (· (first | omega | (simp <;> omega)))))))); (· (rcases hat5 with h | h <;> rw [h] <;> simp [Value.ownBlock] <;> omega)); (· (first | exact m4 | (intro e; have := (hown4.own_lt _ e).2; omega))); obtain ⟨e0, e1, e2, f0, f1, f2⟩ := zero_at y5)
           | skip))
    all_goals (go_wp2_with fail; go_meet)
    all_goals refine ⟨_, _, _, _, rfl, cpy_start hb5 hk4 hown5 ?_ ?_ ?_ ?_ ?_ ?_ ?_⟩
    all_goals first
      | exact m6
      | exact m5
      | (intro e; have := (hk4.own_lt _ e).2; omega)
      | (intro e; have := (hown5.own_lt _ e).2; omega)
      | (simp [World.setCell, Array.getElem?_modify, y5]; done)
      | (simp [World.setCell, Array.getElem?_modify]; done)
      | (intro b hne hb; rw [Below.heap_setCell _ _ _ _ hne, Below.heap_setCell _ _ _ _ hne, Below.heap_setCell _ _ _ _ hne]; done)
      | (intro b hne hb; exact Below.heap_alloc _ _ _ hb)
      | exact heap_newT _ _
      | (simp [World.setCell]; done)
      | exact (b0.trans (Below.mono (B := w.heap.size + 2) (B' := w.heap.size) (by repeat (first | exact hb5 | refine Below.drew ?_ | refine Below.alloc ?_ (by first | omega | (simp <;> omega)) _ | refine Below.setCell ?_ (by first | omega | (simp <;> omega)) _)) (Nat.le_add_right _ _)))
      | omega
      | (simp <;> omega)
  case rest =>
    obtain ⟨g, m, u1, u2, rfl, h0⟩ := hcut
    have hC0 := Lib.hid h0
    clear h0
    have HS := Lib.hid hf3
    clear KH KC HL HB
    go_wp2
    go_loopw [4] (fun v4 wr => ∃ (k : Nat) (v : Value), k ≤ c.sheets.length ∧ v4 = .int .i64 k ∧ Hid (CpyAt w c (.slice A1 c.langs.length c1) (.slice A2 c.labels.length c2) (.slice A3 c.sheets.length c3) g m u1 u2 (c.sheets.take k) v wr)) (fun v4 _ => c.sheets.length - (intOf v4).toNat)
    case atStart => exact ⟨0, _, Nat.zero_le _, rfl, by simpa using hC0⟩
    case round =>
      clear hC0
      obtain ⟨k, v, hk, rfl, hc⟩ := hrel
      have c2_ : wr.cell? ⟨w.heap.size, 2, none⟩ = some (.slice A3 c.sheets.length c3) := by rw [Lib.cell_of_heap hc.out.cb]; rfl
      have hsz := hc.out.below.size
      by_cases hlt : k < c.sheets.length
      · obtain ⟨x, hx⟩ := get_at c.sheets hlt
        have HT := Lib.hid (take_at hx)
        have hsl : x.facts.length ≤ 33 := HF.out x (List.mem_of_getElem? hx)
        obtain ⟨b, off, vf, rfl, hbB, g0, g1, g2, g3, g4, g5, hu⟩ := Sheets.at_ (HX.out _ hc.out.below) hx
        obtain ⟨A', c', rfl, hd1', hd2', _⟩ := id hu
        have hbr : b < wr.heap.size := by have : b < B := hbB; omega
        have cg_ : wr.cell? ⟨g, 2, none⟩ = some v := by rw [Lib.cell_of_heap hc.out.gb]; rfl
        clear hx
        go_wp2_with (at_builtin; refine stop_intro ?_)
        refine stop_elim ?_
        refine wpList_append_rep rfl fctS fctE_ (wr.heap.size + 1) (.tmp 27) (.tmp 29) rfl rfl (OwnRep.empty_new ?hg ?hb) rfl (ys := x.facts) (F := fun b => b < B) ?src ?F ?n (by decide) ?hbase ?_
        case hb => exact Nat.le_of_eq (World.size_alloc _ _).symm
        case hg => simp only [World.size_alloc]
        case src => exact hu.below fctS ((((Below.refl _ _).alloc (by omega) _).alloc (by simp only [World.size_alloc]; omega) _))
        case F => intro b' (hb' : b' < B); exact ⟨by simp only [World.size_alloc]; omega, show some (wr.heap.size + 1) ≠ some b' by simp; omega⟩
        case hbase => simp only [World.size_alloc]; omega
        case n => simp; omega
        intro y1 w1 hown1 hg1 hat1
        rw [List.nil_append] at hown1
        change World.grownBy _ w1 (some (wr.heap.size + 1)) at hg1
        have hb1 : Below (wr.heap.size + 1) (wr.alloc (.cells #[.int .i64 x.unit, .int .i64 x.parent, .int .i64 x.level, .string x.mark, .string x.title, .slice A' x.facts.length c'] 59)) w1 := ((Below.refl _ _).alloc (by simp only [World.size_alloc]; omega) _).grown hg1 (by simp only [World.size_alloc]; omega) (fun k hk => by injection hk; omega)
        obtain ⟨A1', c1', rfl, -⟩ := id (hown1.toSl fctS)
        have hs1 := hb1.size
        simp only [World.size_alloc] at hs1
        have q0 : w1.heap[wr.heap.size]? = some (.cells #[.int .i64 x.unit, .int .i64 x.parent, .int .i64 x.level, .string x.mark, .string x.title, .slice A' x.facts.length c'] 59) := (hb1.block _ (by omega)).trans (heap_newT wr _)
        have r0 : w1.cell? ⟨wr.heap.size, 0, none⟩ = some (.int .i64 x.unit) := by rw [Lib.cell_of_heap q0]; rfl
        have r1 : w1.cell? ⟨wr.heap.size, 1, none⟩ = some (.int .i64 x.parent) := by rw [Lib.cell_of_heap q0]; rfl
        have r2 : w1.cell? ⟨wr.heap.size, 2, none⟩ = some (.int .i64 x.level) := by rw [Lib.cell_of_heap q0]; rfl
        have r3 : w1.cell? ⟨wr.heap.size, 3, none⟩ = some (.string x.mark) := by rw [Lib.cell_of_heap q0]; rfl
        have r4 : w1.cell? ⟨wr.heap.size, 4, none⟩ = some (.string x.title) := by rw [Lib.cell_of_heap q0]; rfl
        have r5 : w1.cell? ⟨wr.heap.size, 5, none⟩ = some (.slice A' x.facts.length c') := by rw [Lib.cell_of_heap q0]; rfl
        have f5 : w1.frozen? ⟨wr.heap.size, 5, none⟩ = false := Lib.frozen_of_heap q0 5
        have hbw : Below wr.heap.size wr w1 := ((Below.refl _ _).alloc (Nat.le_refl _) _).trans (hb1.mono (Nat.le_succ _))
        have hlg := hc.out.lg
        have hsm := hc.out.sz
        have cg1 : w1.cell? ⟨g, 2, none⟩ = some v := (hbw.cell (p := ⟨g, 2, none⟩) (by show g < _; omega)).trans cg_
        go_wp2_with (at_builtin; refine stop_intro ?_)
        refine stop_elim ?_
        have hlt1 := hown1.own_lt
        have hlt3 := hc.out.row.own_lt
        have hsl1 := ((hown1.toFlat fctS).frame (w' := w1.setCell ⟨wr.heap.size, 5, none⟩ (.slice A1' x.facts.length c1')) fctS (fun b hb => Below.heap_setCell _ _ _ _ (by have := hlt1 b hb; simp; omega))).monoF fctS (F' := fun b => Value.ownBlock (.slice A1' x.facts.length c1') = some b ∧ m ≤ b) (fun b hb => ⟨hb, by have := hlt1 b hb; omega⟩)
        have hb2 : Below wr.heap.size wr (w1.setCell ⟨wr.heap.size, 5, none⟩ (.slice A1' x.facts.length c1')) := hbw.setCell (Nat.le_refl _) _
        have hb3 := hb2.alloc (by simp; omega) (.cells #[.int .i64 x.unit, .int .i64 x.parent, .int .i64 x.level, .string x.mark, .string x.title, .slice A1' x.facts.length c1'] 59)
        have hs2 : (w1.setCell ⟨wr.heap.size, 5, none⟩ (.slice A1' x.facts.length c1')).heap.size = w1.heap.size := by simp [World.setCell]
        refine wpList_append_rep rfl (lowTS m) shtE_ m (.tmp 33) (.tmp 35) rfl rfl (hc.out.row.below (lowTS m) hb3) rfl (ys := [x]) (SlRep.one_new (lowTS m) (x := x) (F := fun b => Value.ownBlock (.slice A1' x.facts.length c1') = some b) ?hg ⟨_, rfl, hsl1⟩ ?hF1) ?F ?n (by decide) ?hbase ?_
        case hg => simp
        case hF1 => intro b' hb'; have := hlt1 b' hb'; rw [hs2]; exact this.2
        case F =>
          intro b' hb'
          refine ⟨?_, fun he => ?_⟩
          · rcases hb' with hb' | hb'
            · have := hlt1 b' hb'; simp; omega
            · simp; omega
          · have h3 := hlt3 b' he
            rcases hb' with hb' | hb'
            · have := hlt1 b' hb'; omega
            · omega
        case hbase => simp; omega
        case n => have := HS.out; simp; omega
        intro v2 w2 hown2 hg2 hat2
        obtain ⟨A6, c6, rfl, -⟩ := id (hown2.toSl (lowTS m))
        have hle : (List.take k c.sheets ++ [x]).length = k + 1 := by simp; omega
        rw [hle] at hown2 ⊢
        have hcn := hc.out.app hb3 hown2 hg2
        obtain ⟨hcn, z1, z2⟩ := hcn
        have hl2 := World.block_lt_of_cell? w2 ⟨g, 2, none⟩ z2
        have HN := Lib.hid hcn
        clear hcn
        go_wp2
        go_roundw
        case rel => exact ⟨k + 1, _, by omega, by go_num, by rw [HT.out]; exact HN⟩
        case measure => simp [intOf]; omega
      · have hN := hc.out
        rw [List.take_of_length_le (by omega)] at hN
        obtain ⟨U1, d1, rfl, -⟩ := id hN.ls
        obtain ⟨U2, d2, rfl, -⟩ := id hN.lb
        have hrow := row_sht hN.row (Nat.le_refl _)
        have HO := Lib.hid (hN.row.lowSht (lo := w.heap.size) (by have := hN.lg; omega))
        obtain ⟨U3, d3, rfl, -⟩ := id hrow
        have HL := Lib.hid hN.ls
        have HB := Lib.hid hN.lb
        have HR := Lib.hid hrow
        have HW := Lib.hid hN.below
        have HRO := Lib.hid hN.row
        have hlg := hN.lg
        have hsm := hN.sz
        have g0 : wr.cell? ⟨g, 0, none⟩ = some (.slice U1 c.langs.length d1) := by rw [Lib.cell_of_heap hN.gb]; rfl
        have g1 : wr.cell? ⟨g, 1, none⟩ = some (.slice U2 c.labels.length d2) := by rw [Lib.cell_of_heap hN.gb]; rfl
        have g2 : wr.cell? ⟨g, 2, none⟩ = some (.slice U3 c.sheets.length d3) := by rw [Lib.cell_of_heap hN.gb]; rfl
        have e0 : wr.cell? ⟨w.heap.size + 1, 0, none⟩ = some (.slice none 0 0) := by rw [Lib.cell_of_heap hN.rb]; rfl
        have e1 : wr.cell? ⟨w.heap.size + 1, 1, none⟩ = some (.slice none 0 0) := by rw [Lib.cell_of_heap hN.rb]; rfl
        have e2 : wr.cell? ⟨w.heap.size + 1, 2, none⟩ = some (.slice none 0 0) := by rw [Lib.cell_of_heap hN.rb]; rfl
        have f0 : wr.frozen? ⟨w.heap.size + 1, 0, none⟩ = false := Lib.frozen_of_heap hN.rb 0
        have f1 : wr.frozen? ⟨w.heap.size + 1, 1, none⟩ = false := Lib.frozen_of_heap hN.rb 1
        have f2 : wr.frozen? ⟨w.heap.size + 1, 2, none⟩ = false := Lib.frozen_of_heap hN.rb 2
        clear hN hrow hc
        have KZ := Lib.hid (fun (a b' d : Value) (b : Nat) (hb : b ≠ w.heap.size + 1) => (by rw [Below.heap_setCell _ _ _ _ hb, Below.heap_setCell _ _ _ _ hb, Below.heap_setCell _ _ _ _ hb] : (((wr.setCell ⟨w.heap.size + 1, 0, none⟩ a).setCell ⟨w.heap.size + 1, 1, none⟩ b').setCell ⟨w.heap.size + 1, 2, none⟩ d).heap[b]? = wr.heap[b]?))
        have KS := Lib.hid (fun (a b' d : Value) => (by simp [World.setCell] : (((wr.setCell ⟨w.heap.size + 1, 0, none⟩ a).setCell ⟨w.heap.size + 1, 1, none⟩ b').setCell ⟨w.heap.size + 1, 2, none⟩ d).heap.size = wr.heap.size))
        go_wp2
        refine bodyPost_ret (v := .agg #[.slice U1 c.langs.length d1, .slice U2 c.labels.length d2, .slice U3 c.sheets.length d3]) (by simp [results, Tryz.results21, go_sem, e0, e1, e2]) rfl ⟨_, _, _, rfl, ⟨?_, ?_, ?_⟩, ⟨?_, m, by omega, ?_, ?_, ?_⟩, ((HW.out.setCell (by show w.heap.size ≤ w.heap.size + 1; omega) _).setCell (by show w.heap.size ≤ w.heap.size + 1; omega) _).setCell (by show w.heap.size ≤ w.heap.size + 1; omega) _⟩
        · exact (HL.out.frame strS (fun b hb => KZ.out _ _ _ b (by omega))).monoF strS (fun b hb => by rw [KS.out]; omega)
        · exact (HB.out.frame labS (fun b hb => KZ.out _ _ _ b (by omega))).monoF labS (fun b hb => by rw [KS.out]; omega)
        · exact (HR.out.frame shtS (fun b hb => KZ.out _ _ _ b (by omega))).monoF shtS (fun b hb => by rw [KS.out]; exact hb.2)
        · exact HO.out _ (Nat.le_of_eq (KS.out _ _ _).symm) (fun b hb _ => KZ.out _ _ _ b (by omega))
        · exact (HL.out.frame strS (fun b hb => KZ.out _ _ _ b (by omega))).monoF strS (fun b hb => hb.1.2)
        · exact (HB.out.frame labS (fun b hb => KZ.out _ _ _ b (by omega))).monoF labS (fun b hb => hb.1.2)
        · exact HRO.out.lowT (Nat.le_of_eq (KS.out _ _ _).symm) (fun b _ hm => KZ.out _ _ _ b (by omega)) (Nat.le_refl _)
theorem rcopy_c (c : Cat) (v1 v2 v3 : Value) (w : World) (B : Nat) (hB : B ≤ w.heap.size) (h : CatRep w B c v1 v2 v3) (hF : FewOk c) :
    Calls Tryz.prog 21 #[.agg #[v1, v2, v3]] w fun e w' => ∃ v1 v2 v3, e = .returned (.agg #[v1, v2, v3]) ∧ CatRep w' w'.heap.size c v1 v2 v3 ∧ OwnRep 6 shtR 59 w.heap.size w' c.sheets v3 ∧ Below w.heap.size w w' :=
  (rcopy_lo c v1 v2 v3 w B hB h hF).mono fun _ _ ⟨a, b, d, h1, h2, h3, h4⟩ => ⟨a, b, d, h1, h2, h3.1, h4⟩
end Go.Proofs.YtngodakkdhdmjaaGreatDoor
