/- Words for memory of my own: how a slice, a struct and what a call made read as Lean data. No function of the program is in it. Rows of the call's own whose elements stand in their cells alone: reading and writing one cell. An append inside a region that draws its order. Two rows of the call's own that grow side by side: the elements of the first one may have memory, those of the second one stand in their cells alone. Words for rows of the call's own, used from chapter 47 on. A row without room, its block known whole. Maps of my own: a map block that reads as a function from keys to values. How many entries a map of my own has. Ranging over a map of my own, and delete: laws at the operations. Maps whose keys are structs: look up and put. -/
import Derived.Test.YtngodakkdhdmjaaGreatDoorProg
import Derived.WalkKit
import Derived.WalkSpells
import Derived.WalkLawsBesides
import Derived.Lib.Hide
import Derived.LoopTactic
import Derived.Handy
import Derived.BigGuardPart
import Derived.Deep.QuietTactic
import Derived.BigQuiet
import Derived.Deep.RegionHeld3
import Derived.Deep.DeepFit
import Derived.Deep.DeepCutAuto
import Derived.Deep.LoopGhost
import Derived.Maps.AppendAt
import Derived.Maps.OwnSet
import Derived.MapKept
import Derived.Maps.RangeRun
import Derived.Maps.RangeWalk
namespace Go.Proofs.YtngodakkdhdmjaaGreatDoor
section
open Go.RowKit

/-- old cells and old marks read as before, in the form that the walk takes for rules -/
theorem bcell {B : Nat} {W w1 : World} (hb : Below B W w1) : (∀ b o, b < B → w1.cell? ⟨b, o, none⟩ = W.cell? ⟨b, o, none⟩) ∧ (∀ b o, b < B → w1.frozen? ⟨b, o, none⟩ = W.frozen? ⟨b, o, none⟩) :=
  ⟨fun b o h => hb.cell (p := ⟨b, o, none⟩) h, fun b o h => hb.frozen (p := ⟨b, o, none⟩) h⟩
theorem below_drewN {B : Nat} {a w : World} (h : Below B a w) (n : Nat) : Below B a (w.drewN n) := ⟨h.os, h.tape, h.output, h.size, h.block⟩

theorem ret_int {k : IntKind} {a b : Int} (h : a = b) : Ending.returned (.int k a) = .returned (.int k b) := by rw [h]
theorem ret_bool {a b : Bool} (h : a = b) : Ending.returned (.bool a) = .returned (.bool b) := by rw [h]
theorem ret_val {a b : Value} (h : a = b) : Ending.returned a = .returned b := by rw [h]

/-- the walk stands still here: an arm 'refine stop_intro ?_' ends it, 'refine stop_elim ?_' goes on by hand -/
def Stop (p : Prop) : Prop := p
theorem stop_intro {p : Prop} (h : Stop p) : p := h
theorem stop_elim {p : Prop} (h : p) : Stop p := h

/-- How the cells of one datum read, in a world, with all that it reaches in the blocks of F. -/
abbrev CRep (α : Type) := World → (Nat → Prop) → α → List Value → Prop

/-- A datum of k cells, each one value; it is kept where the blocks of F are kept. -/
structure Shape {α : Type} (k : Nat) (R : CRep α) : Prop where
  frame : ∀ {w w' : World} {F : Nat → Prop} {x : α} {cs : List Value}, (∀ b, F b → w'.heap[b]? = w.heap[b]?) → R w F x cs → R w' F x cs
  mono : ∀ {w : World} {F F' : Nat → Prop} {x : α} {cs : List Value}, (∀ b, F b → F' b) → R w F x cs → R w F' x cs
  len : ∀ {w : World} {F : Nat → Prop} {x : α} {cs : List Value}, R w F x cs → cs.length = k
  one : ∀ {w : World} {F : Nat → Prop} {x : α} {cs : List Value}, R w F x cs → ∀ u ∈ cs, u.oneCell' = true

/-- a slice value that reads as a list -/
def SlRep {α : Type} (k : Nat) (R : CRep α) (w : World) (F : Nat → Prop) (xs : List α) (v : Value) : Prop :=
  ∃ A c, v = .slice A xs.length c ∧ xs.length ≤ c ∧ c ≤ 9223372036854775807 ∧
    ∀ (i : Nat) x, xs[i]? = some x → ∃ b off cs, A = some ⟨b, off, none⟩ ∧ F b ∧ R w F x cs ∧
      ∀ j u, cs[j]? = some u → w.cell? ⟨b, off + i * k + j, none⟩ = some u

section
variable {α : Type} {k : Nat} {R : CRep α} {w w' : World} {B B' : Nat} {F F' : Nat → Prop} {xs : List α} {v : Value}

theorem SlRep.frame (hR : Shape k R) (hf : ∀ b, F b → w'.heap[b]? = w.heap[b]?) (h : SlRep k R w F xs v) : SlRep k R w' F xs v := by
  obtain ⟨A, c, e, h1, h2, h3⟩ := h
  refine ⟨A, c, e, h1, h2, fun i x hx => ?_⟩
  obtain ⟨b, off, cs, hA, hlt, hr, hc⟩ := h3 i x hx
  exact ⟨b, off, cs, hA, hlt, hR.frame hf hr, fun j u hu => (World.cell?_of_block (a := ⟨b, _, none⟩) (hf b hlt)).trans (hc j u hu)⟩
theorem SlRep.monoF (hR : Shape k R) (hf : ∀ b, F b → F' b) (h : SlRep k R w F xs v) : SlRep k R w F' xs v := by
  obtain ⟨A, c, e, h1, h2, h3⟩ := h
  refine ⟨A, c, e, h1, h2, fun i x hx => ?_⟩
  obtain ⟨b, off, cs, hA, hlt, hr, hc⟩ := h3 i x hx
  exact ⟨b, off, cs, hA, hf b hlt, hR.mono hf hr, hc⟩
theorem SlRep.below (hR : Shape k R) (hb : Below B w w') (h : SlRep k R w (fun b => b < B) xs v) : SlRep k R w' (fun b => b < B) xs v := h.frame hR fun b hlt => hb.block b hlt
theorem SlRep.mono (hR : Shape k R) (hB : B ≤ B') (h : SlRep k R w (fun b => b < B) xs v) : SlRep k R w (fun b => b < B') xs v := h.monoF hR fun b (hlt : b < B) => (Nat.lt_of_lt_of_le hlt hB : b < B')
theorem SlRep.nil_ : SlRep k R w F [] (.slice none 0 0) := ⟨none, 0, rfl, by simp, by omega, fun i x hx => by simp at hx⟩
theorem SlRep.len_ {A : Option Addr} {n c : Nat} (h : SlRep k R w F xs (.slice A n c)) : n = xs.length ∧ n ≤ c ∧ c ≤ 9223372036854775807 := by
  obtain ⟨A', c', e, h1, h2, _⟩ := h
  injection e with _ e2 e3
  subst e2 e3
  exact ⟨rfl, h1, h2⟩
/-- the cells of all elements, one behind the other -/
theorem SlRep.cells (hR : Shape k R) {A : Option Addr} {n c : Nat} (h : SlRep k R w F xs (.slice A n c)) :
    ∃ css : List (List Value), css.length = xs.length ∧ (∀ (i : Nat) x cs, xs[i]? = some x → css[i]? = some cs → R w F x cs) ∧
      ∀ ad, A = some ad → ∀ j u, css.flatten[j]? = some u → w.cell? (ad.add j) = some u := by
  obtain ⟨A', c', e, h1, h2, h3⟩ := h
  injection e with e1 e2 e3
  subst e1 e2 e3
  clear h1 h2
  have hsome : ∀ (i : Nat) x, xs[i]? = some x → ∃ cs, R w F x cs ∧ ∀ ad, A = some ad → ∀ j u, cs[j]? = some u → w.cell? (ad.add (i * k + j)) = some u := by
    intro i x hx
    obtain ⟨b, off, cs, rfl, _, hr, hc⟩ := h3 i x hx
    refine ⟨cs, hr, fun ad had j u hu => ?_⟩
    injection had with had
    subst had
    have hadd : (⟨b, off, none⟩ : Addr).add (i * k + j) = ⟨b, off + i * k + j, none⟩ := by
      unfold Addr.add
      split
      · rename_i h0; rw [show off + i * k + j = off by omega]
      · rw [Nat.add_assoc]
    rw [hadd]
    exact hc j u hu
  clear h3
  have gen : ∀ (ys : List α) (s : Nat), (∀ (i : Nat) x, ys[i]? = some x → ∃ cs, R w F x cs ∧ ∀ ad, A = some ad → ∀ j u, cs[j]? = some u → w.cell? (ad.add ((s + i) * k + j)) = some u) →
      ∃ css : List (List Value), css.length = ys.length ∧ (∀ (i : Nat) x cs, ys[i]? = some x → css[i]? = some cs → R w F x cs) ∧ ∀ ad, A = some ad → ∀ j u, css.flatten[j]? = some u → w.cell? (ad.add (s * k + j)) = some u := by
    intro ys
    induction ys with
    | nil => exact fun s _ => ⟨[], rfl, fun i x cs hx => by simp at hx, fun ad _ j u hu => by simp at hu⟩
    | cons y ys ih =>
      intro s hy
      obtain ⟨cs0, hr0, hc0⟩ := hy 0 y rfl
      obtain ⟨css, hl, hr, hc⟩ := ih (s + 1) fun i x hx => by
        obtain ⟨cs, h1, h2⟩ := hy (i + 1) x (by simpa using hx)
        exact ⟨cs, h1, fun ad had j u hu => by rw [show (s + 1 + i) = s + (i + 1) by omega]; exact h2 ad had j u hu⟩
      refine ⟨cs0 :: css, by simp [hl], fun i x cs hx hcs => ?_, fun ad had j u hu => ?_⟩
      · rcases i with _ | i
        · simp at hx hcs; subst hx hcs; exact hr0
        · exact hr i x cs (by simpa using hx) (by simpa using hcs)
      · rw [List.flatten_cons] at hu
        have hk := hR.len hr0
        by_cases hj : j < cs0.length
        · rw [List.getElem?_append_left hj] at hu
          simpa using hc0 ad had j u hu
        · rw [List.getElem?_append_right (by omega)] at hu
          have := hc ad had (j - cs0.length) u hu
          rw [show (s + 1) * k + (j - cs0.length) = s * k + j by rw [hk, Nat.add_mul]; omega] at this
          exact this
  obtain ⟨css, h1, h2, h3⟩ := gen xs 0 (fun i x hx => by simpa using hsome i x hx)
  exact ⟨css, h1, h2, fun ad had j u hu => by simpa using h3 ad had j u hu⟩
theorem flatten_len (hR : Shape k R) : ∀ {xs : List α} {css : List (List Value)}, css.length = xs.length → (∀ (i : Nat) x cs, xs[i]? = some x → css[i]? = some cs → R w F x cs) → css.flatten.length = xs.length * k
  | [], [], _, _ => by simp
  | x :: xs, cs :: css, hl, h => by
    have h0 := hR.len (h 0 x cs rfl rfl)
    have h1 := flatten_len hR (xs := xs) (css := css) (by simpa using hl) fun i y ds hy hd => h (i + 1) y ds (by simpa using hy) (by simpa using hd)
    rw [List.flatten_cons, List.length_append, h0, h1, List.length_cons, Nat.add_mul]; omega
theorem flatten_one (hR : Shape k R) : ∀ {xs : List α} {css : List (List Value)}, css.length = xs.length → (∀ (i : Nat) x cs, xs[i]? = some x → css[i]? = some cs → R w F x cs) → ∀ u ∈ css.flatten, u.oneCell' = true
  | [], [], _, _ => by simp
  | x :: xs, cs :: css, hl, h => by
    have h1 := flatten_one hR (xs := xs) (css := css) (by simpa using hl) fun i y ds hy hd => h (i + 1) y ds (by simpa using hy) (by simpa using hd)
    intro u hu
    rw [List.flatten_cons, List.mem_append] at hu
    rcases hu with hu | hu
    · exact hR.one (h 0 x cs rfl rfl) u hu
    · exact h1 u hu
theorem flatten_at (hR : Shape k R) : ∀ {xs : List α} {css : List (List Value)}, css.length = xs.length → (∀ (i : Nat) x cs, xs[i]? = some x → css[i]? = some cs → R w F x cs) → ∀ (i : Nat) x cs (j : Nat) u, xs[i]? = some x → css[i]? = some cs → cs[j]? = some u → css.flatten[i * k + j]? = some u
  | [], [], _, _ => fun i x cs j u hx => by simp at hx
  | x :: xs, cs :: css, hl, h => by
    have h0 := hR.len (h 0 x cs rfl rfl)
    have h1 := flatten_at hR (xs := xs) (css := css) (by simpa using hl) fun i y ds hy hd => h (i + 1) y ds (by simpa using hy) (by simpa using hd)
    intro i y ds j u hy hd hu
    rcases i with _ | i
    · simp at hd; subst hd
      have : j < cs.length := (List.getElem?_eq_some_iff.1 hu).1
      rw [List.flatten_cons, Nat.zero_mul, Nat.zero_add, List.getElem?_append_left this]; exact hu
    · rw [List.flatten_cons, List.getElem?_append_right (by rw [h0, Nat.add_mul]; omega), show (i + 1) * k + j - cs.length = i * k + j by rw [h0, Nat.add_mul]; omega]
      exact h1 i y ds j u (by simpa using hy) (by simpa using hd) hu

/-- a slice of the call's own (or nil) that reads as a list, the memory of its elements elsewhere -/
def OwnRep {α : Type} (k : Nat) (R : CRep α) (e : TypeId) (base : Nat) (w : World) (xs : List α) (v : Value) : Prop :=
  ∃ css : List (List Value), css.length = xs.length ∧ (∀ (i : Nat) x cs, xs[i]? = some x → css[i]? = some cs → R w (fun b => b < w.heap.size ∧ v.ownBlock ≠ some b) x cs) ∧ w.ownsRow base e k v xs.length css.flatten

theorem OwnRep.nil_ {e : TypeId} {base : Nat} : OwnRep k R e base w ([] : List α) (.slice none 0 0) := ⟨[], rfl, fun i x cs hx => by simp at hx, ⟨by simp, .inl ⟨rfl, rfl⟩⟩⟩
theorem OwnRep.toSl (hR : Shape k R) {e : TypeId} {base : Nat} (h : OwnRep k R e base w xs v) : SlRep k R w (fun b => b < w.heap.size) xs v := by
  obtain ⟨css, hl, hr, hown⟩ := h
  rcases hown.2 with ⟨rfl, h0⟩ | ⟨g, cap, cur, rfl, hbg, hg, hcap, hm, hs, ht⟩
  · obtain rfl : xs = [] := List.eq_nil_of_length_eq_zero h0
    exact SlRep.nil_
  · have hlt : g < w.heap.size := (hown.lt g rfl).2
    refine ⟨_, cap, rfl, hcap, by unfold maxLen at hm; omega, fun i x hx => ?_⟩
    have hi : i < css.length := by rw [hl]; exact (List.getElem?_eq_some_iff.1 hx).1
    have hcs : css[i]? = some css[i] := List.getElem?_eq_getElem hi
    refine ⟨g, 0, css[i], rfl, hlt, hR.mono (fun b hb => hb.1) (hr i x _ hx hcs), fun j u hu => ?_⟩
    have h1 := hown.cells (g := g) rfl (i * k + j) u (flatten_at hR hl hr i x _ j u hx hcs hu)
    have hadd : (⟨g, 0, none⟩ : Addr).add (i * k + j) = ⟨g, 0 + i * k + j, none⟩ := by
      unfold Addr.add
      split
      · rename_i h0; rw [show 0 + i * k + j = 0 by omega]
      · rw [Nat.add_assoc]
    rwa [hadd] at h1
theorem ownsRow_frame {base : Nat} {e : TypeId} {n : Nat} {l : List Value} (h : w.ownsRow base e k v n l) (hf : ∀ b, v.ownBlock = some b → w'.heap[b]? = w.heap[b]?) : w'.ownsRow base e k v n l := by
  refine ⟨h.1, ?_⟩
  rcases h.2 with h0 | ⟨g, cap, cur, rfl, hbg, hg, hcap, hm, hs, ht⟩
  · exact .inl h0
  · exact .inr ⟨g, cap, cur, rfl, hbg, (hf g rfl).trans hg, hcap, hm, hs, ht⟩
theorem OwnRep.below (hR : Shape k R) {e : TypeId} {base : Nat} (hb : Below w.heap.size w w') (h : OwnRep k R e base w xs v) : OwnRep k R e base w' xs v := by
  obtain ⟨css, hl, hr, hown⟩ := h
  refine ⟨css, hl, fun i x cs hx hcs => ?_, ownsRow_frame hown fun b hv => hb.block b (hown.lt b hv).2⟩
  exact hR.mono (fun b hb' => ⟨Nat.lt_of_lt_of_le hb'.1 hb.size, hb'.2⟩) (hR.frame (fun b hb' => hb.block b hb'.1) (hr i x cs hx hcs))
theorem OwnRep.own_lt {e : TypeId} {base : Nat} (h : OwnRep k R e base w xs v) : ∀ b, v.ownBlock = some b → base ≤ b ∧ b < w.heap.size := h.choose_spec.2.2.lt

/-- '[]T{}': a new row without a cell -/
theorem OwnRep.empty_new {e : TypeId} {base g : Nat} (hg : w.heap.size = g) (hb : base ≤ w.heap.size) : OwnRep k R e base (w.alloc (.cells #[] e)) ([] : List α) (.slice (some ⟨g, 0, none⟩) 0 0) := by
  subst hg
  exact ⟨[], rfl, fun i x cs hx => by simp at hx, ⟨by simp, .inr ⟨w.heap.size, 0, #[], rfl, hb, by show (w.heap.push _)[w.heap.size]? = _; simp, Nat.le_refl _, by unfold maxLen; omega, by simp, by simp⟩⟩⟩

/-- the facts on a slice type and its element's type -/
structure Elem (P : Program) (t e : TypeId) (k bytes : Nat) : Prop where
  und : P.underlying t = some (.slice e)
  info : ∃ i z, P.info? e = some i ∧ i.zero = some z ∧ i.size = k ∧ i.bytes = bytes ∧ z.cells.size = k
  pos : 0 < k

theorem run_append_nilsrc {P : Program} (base : Nat) (t ty e : TypeId) (i : TypeInfo) (ht : P.underlying t = some (.slice e)) (hi : P.info? e = some i)
    (v : Value) (n : Nat) (l : List Value) (hown : w.ownsRow base e k v n l) (c : Nat) : (Builtin.append_ #[t, t] ty #[v, .slice none 0 c]).run P w = .ok v w := by
  rcases hown.2 with ⟨rfl, rfl⟩ | ⟨g, cap, cur, rfl, _, _, hnc, _⟩
  · simp [Builtin.append_, run_underlying ht, sizeOf, typeInfo, hi, Builtin.lenOf, Builtin.firstCells]
  · simp [Builtin.append_, run_underlying ht, sizeOf, typeInfo, hi, Builtin.lenOf, Builtin.firstCells, hnc, storeCells]

/-- append(dst, src...): dst the call's own, src whatever reads as a list, nil or not -/
theorem run_append_rep {P : Program} (hR : Shape k R) {t e : TypeId} {bytes : Nat} (hE : Elem P t e k bytes) (base : Nat) (ty : TypeId) {ys : List α}
    (hown : OwnRep k R e base w xs v) {A : Option Addr} {m c : Nat} (hsrc : SlRep k R w F ys (.slice A m c)) (hF : ∀ b, F b → b < w.heap.size ∧ v.ownBlock ≠ some b)
    (hn : xs.length + ys.length ≤ 4294967296) (hby : bytes ≤ 4096) (hbase : base ≤ w.heap.size) :
    ∃ v' w', (Builtin.append_ #[t, t] ty #[v, .slice A m c]).run P w = .ok v' w' ∧ OwnRep k R e base w' (xs ++ ys) v' ∧ w.grownBy w' v.ownBlock ∧ (v'.ownBlock = v.ownBlock ∨ v'.ownBlock = some w.heap.size) := by
  obtain ⟨i, z, hi, hz, hsz, hbyt, hzs⟩ := hE.info
  obtain ⟨rfl, hmc, hc⟩ := hsrc.len_
  obtain ⟨dss, dl, dr, dc⟩ := hsrc.cells hR
  obtain ⟨css, hl, hr, hrow⟩ := id hown
  have fin : ∀ v' w', w'.ownsRow base e k v' (xs.length + ys.length) (css.flatten ++ dss.flatten) → w.grownBy w' v.ownBlock → (v'.ownBlock = v.ownBlock ∨ v'.ownBlock = some w.heap.size) → OwnRep k R e base w' (xs ++ ys) v' := by
    intro v' w' h1 h2 h3
    have hstep : ∀ b, (b < w.heap.size ∧ v.ownBlock ≠ some b) → (b < w'.heap.size ∧ v'.ownBlock ≠ some b) := fun b hb => ⟨Nat.lt_of_lt_of_le hb.1 h2.size, by
      rcases h3 with h3 | h3 <;> rw [h3]
      · exact hb.2
      · intro he; injection he with he; omega⟩
    have hkeep : ∀ b, (b < w.heap.size ∧ v.ownBlock ≠ some b) → w'.heap[b]? = w.heap[b]? := fun b hb => h2.block b hb.1 fun he => hb.2 he.symm
    refine ⟨css ++ dss, by simp [hl, dl], fun j x cs hx hcs => ?_, by simpa using h1⟩
    by_cases hj : j < xs.length
    · rw [List.getElem?_append_left hj] at hx
      rw [List.getElem?_append_left (by omega)] at hcs
      exact hR.mono hstep (hR.frame hkeep (hr j x cs hx hcs))
    · rw [List.getElem?_append_right (by omega)] at hx
      rw [List.getElem?_append_right (by omega), hl] at hcs
      exact hR.mono hstep (hR.frame hkeep (hR.mono hF (dr _ x cs hx hcs)))
  rcases A with _ | ad
  · have hy : ys = [] := by
      rcases ys with _ | ⟨y, ys⟩
      · rfl
      · obtain ⟨A', c', e', _, _, h3⟩ := hsrc
        obtain ⟨_, _, _, hA, _⟩ := h3 0 y rfl
        injection e' with e1
        rw [← e1] at hA
        cases hA
    subst hy
    obtain rfl : dss = [] := List.eq_nil_of_length_eq_zero (by simpa using dl)
    exact ⟨v, w, run_append_nilsrc base t ty e i hE.und hi v _ _ hrow c, by simpa using hown, World.grownBy.refl w _, .inl rfl⟩
  · have hb : (xs.length + ys.length) * bytes ≤ 140737488355328 := by
      have := Nat.mul_le_mul hn hby
      omega
    obtain ⟨v', w', hrun, h2, h3, _, h5⟩ := run_append_own_at (P := P) w base t ty e i z k bytes hE.und hi hz hsz hbyt hzs hE.pos v xs.length css.flatten hrow ad ys.length c dss.flatten (flatten_len hR dl dr) (dc ad rfl) (flatten_one hR dl dr) (by unfold maxLen; omega) hb hbase
    exact ⟨v', w', hrun, fin v' w' h2 h3 h5, h3, h5⟩

theorem wp_append_rep {P : Program} {o : Oper} {a : Act} {K : Act → World → Prop} {Q : Exit → Act → World → Prop} (hR : Shape k R) {t e : TypeId} {bytes : Nat} (hE : Elem P t e k bytes) (base : Nat) (s x : Operand)
    (ho : o.op = .call { callee := .builtin .append, args := #[s, x], argTypes := #[t, t] }) {ys : List α}
    (hs : a.eval s = v) (hown : OwnRep k R e base w xs v) {A : Option Addr} {m c : Nat} (hx : a.eval x = .slice A m c) (hsrc : SlRep k R w F ys (.slice A m c)) (hF : ∀ b, F b → b < w.heap.size ∧ v.ownBlock ≠ some b)
    (hn : xs.length + ys.length ≤ 4294967296) (hby : bytes ≤ 4096) (hbase : base ≤ w.heap.size)
    (h : ∀ v' w', OwnRep k R e base w' (xs ++ ys) v' → w.grownBy w' v.ownBlock → (v'.ownBlock = v.ownBlock ∨ v'.ownBlock = some w.heap.size) → K (a.put o.dst v') w') : o.wp P a w K Q := by
  obtain ⟨v', w', hrun, h2, h3, h4⟩ := run_append_rep (P := P) hR hE base o.type hown hsrc hF hn hby hbase
  unfold Oper.wp execOp
  simp only [ho, resolve, invoke, builtin, Sem.run_bind, Sem.run_pure, Result.andThen_ok, List.map_toArray, List.map_cons, List.map_nil, hs, hx, hrun]
  exact h v' w' h2 h3 h4
theorem wpList_append_rep {P : Program} {ops : Array Oper} {rest : List Oper} {o : Oper} {a : Act} {Q : Exit → Act → World → Prop} (hgd : o.guard = none) (hR : Shape k R) {t e : TypeId} {bytes : Nat} (hE : Elem P t e k bytes) (base : Nat) (s x : Operand)
    (ho : o.op = .call { callee := .builtin .append, args := #[s, x], argTypes := #[t, t] }) {ys : List α}
    (hs : a.eval s = v) (hown : OwnRep k R e base w xs v) {A : Option Addr} {m c : Nat} (hx : a.eval x = .slice A m c) (hsrc : SlRep k R w F ys (.slice A m c)) (hF : ∀ b, F b → b < w.heap.size ∧ v.ownBlock ≠ some b)
    (hn : xs.length + ys.length ≤ 4294967296) (hby : bytes ≤ 4096) (hbase : base ≤ w.heap.size)
    (h : ∀ v' w', OwnRep k R e base w' (xs ++ ys) v' → w.grownBy w' v.ownBlock → (v'.ownBlock = v.ownBlock ∨ v'.ownBlock = some w.heap.size) → wpList P ops Q rest (a.put o.dst v') w') : wpList P ops Q (o :: rest) a w :=
  wpList_plain hgd fun _ hK => wp_append_rep hR hE base s x ho hs hown hx hsrc hF hn hby hbase fun v' w' h2 h3 h4 => hK _ _ (h v' w' h2 h3 h4)
/-- what 'append(s, x)' lays first: the one element in a block of its own -/
theorem SlRep.one_new (hR : Shape k R) {x : α} {cs : List Value} {t : TypeId} {g : Nat} (hg : w.heap.size = g) (h : R w F x cs) (hF : ∀ b, F b → b < w.heap.size) :
    SlRep k R (w.alloc (.cells cs.toArray t)) (fun b => F b ∨ b = g) [x] (.slice (some ⟨g, 0, none⟩) 1 1) := by
  subst hg
  refine ⟨_, 1, rfl, by simp, by omega, fun i y hy => ?_⟩
  obtain rfl : i = 0 := by
    have := (List.getElem?_eq_some_iff.1 hy).1
    simp at this; omega
  simp at hy
  subst hy
  refine ⟨w.heap.size, 0, cs, rfl, .inr rfl, hR.mono (fun b hb => .inl hb) (hR.frame (fun b hb => Below.heap_alloc _ _ _ (hF b hb)) h), fun j u hu => ?_⟩
  simp [hu]
theorem OwnRep.alloc (hR : Shape k R) {e : TypeId} {base : Nat} (h : OwnRep k R e base w xs v) (o : Obj) : OwnRep k R e base (w.alloc o) xs v := h.below hR ((Below.refl _ _).alloc (Nat.le_refl _) _)
end

/-- the datum stands in its cells alone -/
def flat {α : Type} (enc : α → List Value) : CRep α := fun _ _ x cs => cs = enc x
theorem flat_shape {α : Type} (k : Nat) (enc : α → List Value) (hl : ∀ x, (enc x).length = k) (h1 : ∀ x, ∀ u ∈ enc x, u.oneCell' = true) : Shape k (flat enc) :=
  ⟨fun _ h => h, fun _ h => h, fun h => by rw [h, hl], fun h => by rw [h]; exact h1 _⟩

/-- a row of the call's own whose elements stand in their cells alone lies in its own block -/
theorem OwnRep.toFlat {α : Type} {k : Nat} {enc : α → List Value} (hR : Shape k (flat enc)) {e : TypeId} {base : Nat} {w : World} {xs : List α} {v : Value} (h : OwnRep k (flat enc) e base w xs v) : SlRep k (flat enc) w (fun b => v.ownBlock = some b) xs v := by
  have hlt := h.own_lt
  obtain ⟨A, c, rfl, h1, h2, h3⟩ := h.toSl hR
  refine ⟨A, c, rfl, h1, h2, fun i x hx => ?_⟩
  obtain ⟨b, off, cs, rfl, _, hr, hc⟩ := h3 i x hx
  exact ⟨b, off, cs, rfl, rfl, hr, hc⟩

/-- a list read one element further -/
theorem drop_at {α : Type} {xs : List α} {i : Nat} {x : α} (h : xs[i]? = some x) : xs.drop i = x :: xs.drop (i + 1) := by
  obtain ⟨h1, h2⟩ := List.getElem?_eq_some_iff.1 h
  rw [List.drop_eq_getElem_cons h1, h2]
theorem get_at {α : Type} (xs : List α) {i : Nat} (h : i < xs.length) : ∃ x, xs[i]? = some x := ⟨xs[i], List.getElem?_eq_getElem h⟩
theorem lt_of_at {α : Type} {xs : List α} {i : Nat} {x : α} (h : xs[i]? = some x) : i < xs.length := (List.getElem?_eq_some_iff.1 h).1
theorem take_at {α : Type} {xs : List α} {i : Nat} {x : α} (h : xs[i]? = some x) : xs.take (i + 1) = xs.take i ++ [x] := by
  obtain ⟨h1, h2⟩ := List.getElem?_eq_some_iff.1 h
  rw [List.take_succ_eq_append_getElem h1, h2]
theorem str_eq (s t : ByteArray) : (s.toList == t.toList) = decide (s = t) := by
  rw [ByteArray.toList_eq, ByteArray.toList_eq, Bool.eq_iff_iff, beq_iff_eq, decide_eq_true_iff]
  exact ⟨fun h => WideShapes.bytes_inj h, fun h => by rw [h]⟩
theorem str_iff (s t : ByteArray) : s.toList = t.toList ↔ s = t := by
  rw [ByteArray.toList_eq, ByteArray.toList_eq]
  exact ⟨fun h => WideShapes.bytes_inj h, fun h => by rw [h]⟩
theorem str_empty (s : ByteArray) : s.toList.isEmpty = decide (s.size = 0) := by
  rw [ByteArray.toList_eq, Bool.eq_iff_iff, decide_eq_true_iff, List.isEmpty_iff]
  constructor
  · intro h
    have := congrArg List.length h
    simpa using this
  · intro h
    exact List.eq_nil_of_length_eq_zero (by simpa using h)

end
section
open Go.RowKit
section
variable {α : Type} {k : Nat} {enc : α → List Value} {e : TypeId} {base : Nat} {w : World} {xs : List α} {v : Value}

theorem OwnRep.rows (h : OwnRep k (flat enc) e base w xs v) : w.ownsRow base e k v xs.length (xs.map enc).flatten := by
  obtain ⟨css, hl, hr, hown⟩ := h
  have : css = xs.map enc := by
    apply List.ext_getElem?
    intro i
    by_cases hi : i < xs.length
    · obtain ⟨x, hx⟩ := get_at xs hi
      obtain ⟨cs, hcs⟩ := get_at css (show i < css.length by omega)
      rw [List.getElem?_map, hx, hcs]
      exact congrArg some (hr i x cs hx hcs)
    · rw [List.getElem?_eq_none (by omega), List.getElem?_eq_none (by simp; omega)]
  rw [← this]
  exact hown
theorem OwnRep.of_rows (h : w.ownsRow base e k v xs.length (xs.map enc).flatten) : OwnRep k (flat enc) e base w xs v := by
  refine ⟨xs.map enc, by simp, fun i x cs hx hcs => ?_, h⟩
  rw [List.getElem?_map, hx] at hcs
  injection hcs with hcs
  exact hcs.symm
theorem OwnRep.open_ (hR : Shape k (flat enc)) (h : OwnRep k (flat enc) e base w xs v) (hne : 0 < xs.length) :
    ∃ g cap, v = .slice (some ⟨g, 0, none⟩) xs.length cap ∧ base ≤ g ∧ g < w.heap.size ∧ xs.length ≤ cap ∧ cap ≤ 9223372036854775807 ∧ (∃ cur, w.heap[g]? = some (.cells cur e (0, 0))) ∧
      ∀ (i : Nat) x (j : Nat) u, xs[i]? = some x → (enc x)[j]? = some u → w.cell? ⟨g, i * k + j, none⟩ = some u ∧ w.frozen? ⟨g, i * k + j, none⟩ = false := by
  have hrow := h.rows
  have hlt := h.own_lt
  rcases hrow.2 with ⟨_, h0⟩ | ⟨g, cap, cur, rfl, hbg, hg, hcap, hm, hs, ht⟩
  · omega
  · obtain ⟨h1, h2⟩ := hlt g rfl
    refine ⟨g, cap, rfl, h1, h2, hcap, hm, ⟨cur, hg⟩, fun i x j u hx hu => ⟨?_, by simp [World.frozen?, hg]⟩⟩
    obtain ⟨A, c, e1, _, _, h3⟩ := h.toSl hR
    obtain ⟨b, off, cs, hA, _, hr, hc⟩ := h3 i x hx
    injection e1 with e1
    rw [← e1] at hA
    injection hA with hA
    injection hA with hA1 hA2
    subst hA1 hA2
    have := hc j u (by rw [hr]; exact hu)
    rwa [Nat.zero_add] at this
theorem flatten_set : ∀ (css : List (List Value)) (i j : Nat) (cs : List Value) (u : Value), (∀ c ∈ css, c.length = k) → css[i]? = some cs → j < k → (css.set i (cs.set j u)).flatten = css.flatten.set (i * k + j) u
  | [], i, j, cs, u, _, hi, _ => by simp at hi
  | c :: css, 0, j, cs, u, hl, hi, hj => by
    simp at hi
    subst hi
    have : j < c.length := by rw [hl c (by simp)]; exact hj
    simp [List.set_append_left _ _ this]
  | c :: css, i + 1, j, cs, u, hl, hi, hj => by
    have ih := flatten_set css i j cs u (fun x hx => hl x (by simp [hx])) (by simpa using hi) hj
    have hc : c.length = k := hl c (by simp)
    rw [List.set_cons_succ, List.flatten_cons, List.flatten_cons, ih, List.set_append_right _ _ (by rw [hc, Nat.add_mul]; omega)]
    congr 2
    rw [hc, Nat.add_mul]; omega
theorem OwnRep.set_ (hR : Shape k (flat enc)) {g n cap : Nat} (h : OwnRep k (flat enc) e base w xs (.slice (some ⟨g, 0, none⟩) n cap)) {i j : Nat} {x x' : α} {u : Value} (hx : xs[i]? = some x) (hj : j < k) (he : enc x' = (enc x).set j u) :
    OwnRep k (flat enc) e base (w.setCell ⟨g, i * k + j, none⟩ u) (xs.set i x') (.slice (some ⟨g, 0, none⟩) n cap) := by
  have hrow := h.rows
  refine OwnRep.of_rows ?_
  have hl : ∀ c ∈ xs.map enc, c.length = k := fun c hc => by
    obtain ⟨y, _, rfl⟩ := List.mem_map.1 hc
    exact hR.len (w := w) (F := fun _ => True) (x := y) rfl
  have hf : ((xs.set i x').map enc).flatten = ((xs.map enc).flatten).set (i * k + j) u := by
    rw [List.map_set, he]
    exact flatten_set (xs.map enc) i j (enc x) u hl (by rw [List.getElem?_map, hx]; rfl) hj
  rcases hrow.2 with ⟨h0, _⟩ | ⟨g', cap', cur, hv, hbg, hg, hcap, hm, hs, ht⟩
  · cases h0
  · injection hv with hv1 hv2 hv3
    injection hv1 with hv1
    injection hv1 with hv1
    subst hv1 hv2 hv3
    refine ⟨by rw [hf, List.length_set, List.length_set]; exact hrow.1, .inr ⟨g, cap, cur.setIfInBounds (i * k + j) u, by rw [List.length_set], hbg, ?_, by rw [List.length_set]; exact hcap, hm, by simpa using hs, ?_⟩⟩
    · simp [World.setCell, Array.getElem?_modify, hg]
    · rw [hf, List.length_set, Array.toList_setIfInBounds, List.take_set, ht]
theorem OwnRep.keep {w' : World} (h : OwnRep k (flat enc) e base w xs v) (hf : ∀ b, v.ownBlock = some b → w'.heap[b]? = w.heap[b]?) : OwnRep k (flat enc) e base w' xs v := OwnRep.of_rows (ownsRow_frame h.rows hf)
theorem OwnRep.base_le {base' : Nat} (h : OwnRep k (flat enc) e base w xs v) (hb : base' ≤ base) : OwnRep k (flat enc) e base' w xs v := by
  have h1 := h.rows
  refine OwnRep.of_rows ⟨h1.1, ?_⟩
  rcases h1.2 with h0 | ⟨g, cap, cur, rfl, hbg, h2⟩
  · exact .inl h0
  · exact .inr ⟨g, cap, cur, rfl, by omega, h2⟩
theorem below_turn {B : Nat} {w0 w1 w2 : World} (h1 : Below B w0 w1) (h2 : Below B w0 w2) (hs : w1.heap.size ≤ w2.heap.size) : Below B w1 w2 :=
  ⟨h2.os.trans h1.os.symm, h2.tape.trans h1.tape.symm, h2.output.trans h1.output.symm, hs, fun k hk => (h2.block k hk).trans (h1.block k hk).symm⟩
theorem OwnRep.len_pos {A : Option Addr} {n c : Nat} (hR : Shape k (flat enc)) (h : OwnRep k (flat enc) e base w xs (.slice A n c)) : n = xs.length := (h.toSl hR).len_.1
end
end
section
open Go.RowKit
section
variable {α : Type} {k : Nat} {R : CRep α} {w : World} {F : Nat → Prop} {xs : List α} {v : Value}
theorem step_append_rep {P : Program} {ops : Array Oper} {o : Oper} {a : Act} {K : Act → World → Prop} {Q : Exit → Act → World → Prop} {E : Prop} (hgd : o.guard = none) (hR : Shape k R) {t e : TypeId} {bytes : Nat} (hE : Elem P t e k bytes) (base : Nat) (s x : Operand)
    (ho : o.op = .call { callee := .builtin .append, args := #[s, x], argTypes := #[t, t] }) {ys : List α}
    (hs : a.eval s = v) (hown : OwnRep k R e base w xs v) {A : Option Addr} {m c : Nat} (hx : a.eval x = .slice A m c) (hsrc : SlRep k R w F ys (.slice A m c)) (hF : ∀ b, F b → b < w.heap.size ∧ v.ownBlock ≠ some b)
    (hn : xs.length + ys.length ≤ 4294967296) (hby : bytes ≤ 4096) (hbase : base ≤ w.heap.size)
    (h : ∀ v' w', OwnRep k R e base w' (xs ++ ys) v' → w.grownBy w' v.ownBlock → (v'.ownBlock = v.ownBlock ∨ v'.ownBlock = some w.heap.size) → K (a.put o.dst v') w') :
    if Region.wanted o (yielded ops a.tmps) = true then Oper.wp P o a w K Q else E := by
  have hw : Region.wanted o (yielded ops a.tmps) = true := by simp [Region.wanted, hgd]
  rw [if_pos hw]
  exact wp_append_rep hR hE base s x ho hs hown hx hsrc hF hn hby hbase h
end
end
section
open Go.RowKit
section
variable {α : Type} {k : Nat} {R : CRep α} {w w' : World} {F : Nat → Prop} {xs ys : List α} {v v' : Value}
theorem append_new {P : Program} (hR : Shape k R) {t e ty : TypeId} {bytes : Nat} (hE : Elem P t e k bytes) {base : Nat}
    (hown : OwnRep k R e base w xs v) {A : Option Addr} {m c : Nat} (hsrc : SlRep k R w F ys (.slice A m c)) (hn : xs.length + ys.length ≤ 4294967296) (hby : bytes ≤ 4096)
    (hrun : (Builtin.append_ #[t, t] ty #[v, .slice A m c]).run P w = .ok v' w') (hg : w.grownBy w' v.ownBlock) (hv : v'.ownBlock = some w.heap.size) : ∀ b, b < w.heap.size → w'.heap[b]? = w.heap[b]? := by
  obtain ⟨i, z, hi, hz, hsz, hbyt, hzs⟩ := hE.info
  obtain ⟨rfl, hmc, hc⟩ := hsrc.len_
  obtain ⟨dss, dl, dr, dc⟩ := hsrc.cells hR
  have hlt := hown.own_lt
  obtain ⟨css, hl, hr, hrow⟩ := id hown
  rcases hrow.2 with ⟨rfl, h0⟩ | ⟨g, cap, cur, rfl, hbg, hgg, hcap, hm, hs, ht⟩
  · exact fun b hb => hg.block b hb (fun e => by cases e)
  · rcases A with _ | ad
    · have hy : ys.length = 0 := by
        rcases ys with _ | ⟨y, ys⟩
        · rfl
        · obtain ⟨A', c', e', _, _, h3⟩ := hsrc
          obtain ⟨_, _, _, hA, _⟩ := h3 0 y rfl
          injection e' with e1
          rw [← e1] at hA
          cases hA
      rw [hy, run_append_nilsrc base t ty e i hE.und hi _ _ _ hrow c] at hrun
      injection hrun with e1 e2
      subst e1 e2
      exact fun _ _ => rfl
    · by_cases hroom : xs.length + ys.length ≤ cap
      · have hfl := flatten_len hR dl dr
        have hk : xs.length * i.size + dss.flatten.length ≤ cur.size := by
          rw [hfl, hs, ← hsz, ← Nat.add_mul]
          exact Nat.mul_le_mul_right _ hroom
        rw [run_append_room (P := P) w t ty e i hE.und hi g xs.length cap cur hgg ad ys.length c dss.flatten (by rw [hfl, hsz]) (dc ad rfl) (flatten_one hR dl dr) hroom hk] at hrun
        injection hrun with e1 e2
        subst e1
        have e3 : some g = some w.heap.size := hv
        injection e3 with e3
        have := (hlt g rfl).2
        omega
      · have hb : (xs.length + ys.length) * i.bytes ≤ 140737488355328 := by
          rw [hbyt]
          have := Nat.mul_le_mul hn hby
          omega
        rw [run_append_grow (P := P) w t ty e i z hE.und hi hz ⟨g, 0, none⟩ xs.length cap css.flatten (by rw [hsz]; exact hrow.1) (hrow.cells (g := g) rfl) ad ys.length c dss.flatten (by rw [hsz]; exact flatten_len hR dl dr) (dc ad rfl) (by omega) (by omega) (growslice_fits (by omega) hb)] at hrun
        injection hrun with e1 e2
        subst e2
        exact fun b hb => Below.heap_alloc w.drew _ b hb
theorem step_append_keep {P : Program} {ops : Array Oper} {o : Oper} {a : Act} {K : Act → World → Prop} {Q : Exit → Act → World → Prop} {E : Prop} (hgd : o.guard = none) (hR : Shape k R) {t e : TypeId} {bytes : Nat} (hE : Elem P t e k bytes) (base : Nat) (s x : Operand)
    (ho : o.op = .call { callee := .builtin .append, args := #[s, x], argTypes := #[t, t] })
    (hs : a.eval s = v) (hown : OwnRep k R e base w xs v) {A : Option Addr} {m c : Nat} (hx : a.eval x = .slice A m c) (hsrc : SlRep k R w F ys (.slice A m c)) (hF : ∀ b, F b → b < w.heap.size ∧ v.ownBlock ≠ some b)
    (hn : xs.length + ys.length ≤ 4294967296) (hby : bytes ≤ 4096) (hbase : base ≤ w.heap.size)
    (h : ∀ v' w', OwnRep k R e base w' (xs ++ ys) v' → w.grownBy w' v.ownBlock → (v'.ownBlock = v.ownBlock ∨ v'.ownBlock = some w.heap.size) → (v'.ownBlock = some w.heap.size → ∀ b, b < w.heap.size → w'.heap[b]? = w.heap[b]?) → K (a.put o.dst v') w') :
    if Region.wanted o (yielded ops a.tmps) = true then Oper.wp P o a w K Q else E := by
  have hw : Region.wanted o (yielded ops a.tmps) = true := by simp [Region.wanted, hgd]
  rw [if_pos hw]
  obtain ⟨v', w', hrun, h2, h3, h4⟩ := run_append_rep (P := P) hR hE base o.type hown hsrc hF hn hby hbase
  unfold Oper.wp execOp
  simp only [ho, resolve, invoke, builtin, Sem.run_bind, Sem.run_pure, Result.andThen_ok, List.map_toArray, List.map_cons, List.map_nil, hs, hx, hrun]
  exact h v' w' h2 h3 h4 (append_new hR hE hown hsrc hn hby hrun h3)
end
open Go.RowKit

/-- a slice value that reads as a list, in blocks from lo on and ahead of hi, all of them there -/
def Bnd {α : Type} (k : Nat) (R : CRep α) (w : World) (lo hi : Nat) (xs : List α) (v : Value) : Prop := SlRep k R w (fun b => lo ≤ b ∧ b < hi) xs v ∧ hi ≤ w.heap.size
section
variable {α : Type} {k : Nat} {R : CRep α} {W W' : World} {lo hi n : Nat} {xs : List α} {v : Value}
theorem Bnd.of (h : SlRep k R W (fun b => b < W.heap.size) xs v) (hR : Shape k R) : Bnd k R W 0 W.heap.size xs v := ⟨h.monoF hR (fun _ hb => ⟨Nat.zero_le _, hb⟩), Nat.le_refl _⟩
theorem Bnd.ofB (h : SlRep k R W (fun b => b < n) xs v) (hR : Shape k R) (hn : n ≤ W.heap.size) : Bnd k R W 0 n xs v := ⟨h.monoF hR (fun _ hb => ⟨Nat.zero_le _, hb⟩), hn⟩
theorem Bnd.own {enc : α → List Value} {e : TypeId} (h : OwnRep k (flat enc) e n W xs v) (hR : Shape k (flat enc)) : Bnd k (flat enc) W n W.heap.size xs v := ⟨(h.toFlat hR).monoF hR (fun b hb => h.own_lt b hb), Nat.le_refl _⟩
theorem Bnd.call (h : Bnd k R W lo hi xs v) (hR : Shape k R) (hb : Below W.heap.size W W') : Bnd k R W' lo hi xs v :=
  ⟨h.1.frame hR (fun b hl => hb.block b (Nat.lt_of_lt_of_le hl.2 h.2)), Nat.le_trans h.2 hb.size⟩
theorem Bnd.alloc (h : Bnd k R W lo hi xs v) (hR : Shape k R) (o : Obj) : Bnd k R (W.alloc o) lo hi xs v := h.call hR ((Below.refl _ _).alloc (Nat.le_refl _) _)
theorem Bnd.drew (h : Bnd k R W lo hi xs v) (hR : Shape k R) : Bnd k R W.drew lo hi xs v := h.call hR (Below.refl _ _).drew
theorem Bnd.callA {o : Obj} (h : Bnd k R W lo hi xs v) (hR : Shape k R) (hb : Below (W.alloc o).heap.size (W.alloc o) W') : Bnd k R W' lo hi xs v := (h.alloc hR o).call hR hb
theorem Bnd.sl (h : Bnd k R W lo hi xs v) (hR : Shape k R) : SlRep k R W (fun b => b < W.heap.size) xs v := h.1.monoF hR (fun _ hb => Nat.lt_of_lt_of_le hb.2 h.2)
theorem Bnd.two (h : Bnd k R W lo hi xs v) (hR : Shape k R) {g : Nat} (hg : hi ≤ g ∨ g < lo) (a b : Value) : Bnd k R ((W.setCell ⟨g, 0, none⟩ a).setCell ⟨g, 1, none⟩ b) lo hi xs v := by
  refine ⟨h.1.frame hR (fun c hc => ?_), by simpa [World.setCell] using h.2⟩
  have : c ≠ g := by rcases hg with hg | hg <;> omega
  rw [Below.heap_setCell _ _ _ _ this, Below.heap_setCell _ _ _ _ this]
theorem Bnd.one (h : Bnd k R W lo hi xs v) (hR : Shape k R) {g o : Nat} (hg : hi ≤ g ∨ g < lo) (a : Value) : Bnd k R (W.setCell ⟨g, o, none⟩ a) lo hi xs v := by
  refine ⟨h.1.frame hR (fun c hc => ?_), by simpa [World.setCell] using h.2⟩
  have : c ≠ g := by rcases hg with hg | hg <;> omega
  rw [Below.heap_setCell _ _ _ _ this]
end
/-- two cells laid by an alloc, kept by a call -/
theorem bnd_two {W W' : World} {a b : Value} {t : TypeId} (hb : Below (W.alloc (.cells #[a, b] t)).heap.size (W.alloc (.cells #[a, b] t)) W') :
    W'.cell? ⟨W.heap.size, 0, none⟩ = some a ∧ W'.cell? ⟨W.heap.size, 1, none⟩ = some b ∧ W'.frozen? ⟨W.heap.size, 0, none⟩ = false ∧ W'.frozen? ⟨W.heap.size, 1, none⟩ = false ∧ W.heap.size < W'.heap.size :=
  ⟨(hb.cell (p := ⟨W.heap.size, 0, none⟩) (by simp)).trans (by simp), (hb.cell (p := ⟨W.heap.size, 1, none⟩) (by simp)).trans (by simp), (hb.frozen (p := ⟨W.heap.size, 0, none⟩) (by simp)).trans (by simp), (hb.frozen (p := ⟨W.heap.size, 1, none⟩) (by simp)).trans (by simp), by have := hb.size; simp at this; omega⟩
theorem bnd_twoD {W W' : World} {a b : Value} {t : TypeId} (hb : Below (W.alloc (.cells #[a, b] t)).drew.heap.size (W.alloc (.cells #[a, b] t)).drew W') :
    W'.cell? ⟨W.heap.size, 0, none⟩ = some a ∧ W'.cell? ⟨W.heap.size, 1, none⟩ = some b ∧ W'.frozen? ⟨W.heap.size, 0, none⟩ = false ∧ W'.frozen? ⟨W.heap.size, 1, none⟩ = false ∧ W.heap.size < W'.heap.size :=
  bnd_two ((Below.refl _ _).drew.trans hb)
theorem bnd_keep {W W' : World} {g : Nat} {a b : Value} (h : W.cell? ⟨g, 0, none⟩ = some a ∧ W.cell? ⟨g, 1, none⟩ = some b ∧ W.frozen? ⟨g, 0, none⟩ = false ∧ W.frozen? ⟨g, 1, none⟩ = false ∧ g < W.heap.size) (hb : Below W.heap.size W W') :
    W'.cell? ⟨g, 0, none⟩ = some a ∧ W'.cell? ⟨g, 1, none⟩ = some b ∧ W'.frozen? ⟨g, 0, none⟩ = false ∧ W'.frozen? ⟨g, 1, none⟩ = false ∧ g < W'.heap.size :=
  ⟨(hb.cell (p := ⟨g, 0, none⟩) h.2.2.2.2).trans h.1, (hb.cell (p := ⟨g, 1, none⟩) h.2.2.2.2).trans h.2.1, (hb.frozen (p := ⟨g, 0, none⟩) h.2.2.2.2).trans h.2.2.1, (hb.frozen (p := ⟨g, 1, none⟩) h.2.2.2.2).trans h.2.2.2.1, Nat.lt_of_lt_of_le h.2.2.2.2 hb.size⟩
theorem bnd_alloc {B : Nat} {a w : World} (h : Below B a w) (hB : B ≤ a.heap.size) (o : Obj) : Below B a (w.alloc o) := h.alloc (Nat.le_trans hB h.size) o
theorem bnd_call {B : Nat} {a w w' : World} (h : Below B a w) (hB : B ≤ a.heap.size) (hb : Below w.heap.size w w') : Below B a w' := h.trans (hb.mono (Nat.le_trans hB h.size))
theorem bnd_set2 {B g : Nat} {a w : World} {x y : Value} (h : Below B a w) (hg : B ≤ g) : Below B a ((w.setCell ⟨g, 0, none⟩ x).setCell ⟨g, 1, none⟩ y) := (h.setCell hg _).setCell hg _
open Go.RowKit

/-- a datum whose memory lies apart from a row -/
def offR {α : Type} (R : CRep α) (u : Value) : CRep α := fun w F x cs => R w (fun b => F b ∧ u.ownBlock ≠ some b) x cs
/-- blocks that are neither row -/
def Off (w : World) (v u : Value) (b : Nat) : Prop := b < w.heap.size ∧ v.ownBlock ≠ some b ∧ u.ownBlock ≠ some b
structure Two {α β : Type} (k l : Nat) (R : CRep α) (enc : β → List Value) (e f : TypeId) (base : Nat) (w : World) (xs : List α) (v : Value) (ys : List β) (u : Value) : Prop where
  fst : OwnRep k (offR R u) e base w xs v
  snd : OwnRep l (flat enc) f base w ys u
  ne : ∀ b, v.ownBlock = some b → u.ownBlock ≠ some b
  base : base ≤ w.heap.size
/-- what has become of the rows, and that nothing else has turned -/
structure Gro (base : Nat) (w : World) (v u : Value) (w' : World) (v' u' : Value) : Prop where
  off : ∀ b, Off w v u b → Off w' v' u' b
  same : ∀ b, Off w v u b → w'.heap[b]? = w.heap[b]?
  below : Below base w w'
section
variable {α β : Type} {k l : Nat} {R : CRep α} {enc : β → List Value} {e f : TypeId} {base : Nat} {w w' w'' : World} {xs zs : List α} {v v' v'' u u' u'' s : Value} {ys zs' : List β}
theorem offS (hR : Shape k R) (u : Value) : Shape k (offR R u) :=
  ⟨fun hf h => hR.frame (fun b hb => hf b hb.1) h, fun hm h => hR.mono (fun b hb => ⟨hm b hb.1, hb.2⟩) h, fun h => hR.len h, fun h => hR.one h⟩
theorem Gro.refl (base : Nat) (w : World) (v u : Value) : Gro base w v u w v u := ⟨fun _ h => h, fun _ _ => rfl, Below.refl _ _⟩
theorem Gro.trans (h1 : Gro base w v u w' v' u') (h2 : Gro base w' v' u' w'' v'' u'') : Gro base w v u w'' v'' u'' :=
  ⟨fun b h => h2.off b (h1.off b h), fun b h => (h2.same b (h1.off b h)).trans (h1.same b h), h1.below.trans h2.below⟩
theorem Gro.call (hb : Below w.heap.size w w') (hB : base ≤ w.heap.size) (v u : Value) : Gro base w v u w' v u :=
  ⟨fun _ h => ⟨Nat.lt_of_lt_of_le h.1 hb.size, h.2⟩, fun b h => hb.block b h.1, hb.mono hB⟩
theorem Gro.app1 (hg : w.grownBy w' v.ownBlock) (hat : v'.ownBlock = v.ownBlock ∨ v'.ownBlock = some w.heap.size) (hv : ∀ b, v.ownBlock = some b → base ≤ b) (hB : base ≤ w.heap.size) (u : Value) : Gro base w v u w' v' u := by
  refine ⟨fun b h => ⟨Nat.lt_of_lt_of_le h.1 hg.size, ?_, h.2.2⟩, fun b h => hg.block b h.1 (fun e => h.2.1 e.symm), (Below.refl _ _).grown hg hB hv⟩
  rcases hat with e | e
  · rw [e]; exact h.2.1
  · rw [e]; intro e2; injection e2 with e2; have := h.1; omega
theorem Gro.app2 (hg : w.grownBy w' u.ownBlock) (hat : u'.ownBlock = u.ownBlock ∨ u'.ownBlock = some w.heap.size) (hv : ∀ b, u.ownBlock = some b → base ≤ b) (hB : base ≤ w.heap.size) (v : Value) : Gro base w v u w' v u' := by
  refine ⟨fun b h => ⟨Nat.lt_of_lt_of_le h.1 hg.size, h.2.1, ?_⟩, fun b h => hg.block b h.1 (fun e => h.2.2 e.symm), (Below.refl _ _).grown hg hB hv⟩
  rcases hat with e | e
  · rw [e]; exact h.2.2
  · rw [e]; intro e2; injection e2 with e2; have := h.1; omega
theorem SlRep.gro {γ : Type} {m : Nat} {S : CRep γ} {cs : List γ} (h : SlRep m S w (Off w v u) cs s) (hS : Shape m S) (hm : Gro base w v u w' v' u') : SlRep m S w' (Off w' v' u') cs s := (h.frame hS hm.same).monoF hS hm.off
theorem Two.call (h : Two k l R enc e f base w xs v ys u) (hR : Shape k R) (hE : Shape l (flat enc)) (hb : Below w.heap.size w w') : Two k l R enc e f base w' xs v ys u :=
  ⟨h.fst.below (offS hR u) hb, h.snd.below hE hb, h.ne, Nat.le_trans h.base hb.size⟩
theorem Two.app1 (h : Two k l R enc e f base w xs v ys u) (hown : OwnRep k (offR R u) e base w' (xs ++ zs) v') (hg : w.grownBy w' v.ownBlock) (hat : v'.ownBlock = v.ownBlock ∨ v'.ownBlock = some w.heap.size) : Two k l R enc e f base w' (xs ++ zs) v' ys u := by
  refine ⟨hown, h.snd.keep (fun b hb => hg.block b (h.snd.own_lt b hb).2 (fun e => h.ne b e.symm hb)), fun b hb => ?_, Nat.le_trans h.base hg.size⟩
  rcases hat with e | e
  · exact h.ne b (by rw [← e]; exact hb)
  · intro e2
    rw [e] at hb
    injection hb with hb
    have := (h.snd.own_lt b e2).2
    omega
theorem Two.app2 (h : Two k l R enc e f base w xs v ys u) (hR : Shape k R) (hown : OwnRep l (flat enc) f base w' (ys ++ zs') u') (hg : w.grownBy w' u.ownBlock) (hat : u'.ownBlock = u.ownBlock ∨ u'.ownBlock = some w.heap.size) : Two k l R enc e f base w' xs v (ys ++ zs') u' := by
  have hne : ∀ b, b < w.heap.size → u.ownBlock ≠ some b → u'.ownBlock ≠ some b := fun b hb hu => by
    rcases hat with e | e
    · rw [e]; exact hu
    · rw [e]; intro e2; injection e2 with e2; omega
  refine ⟨?_, hown, fun b hb => hne b (h.fst.own_lt b hb).2 (h.ne b hb), Nat.le_trans h.base hg.size⟩
  obtain ⟨css, hl, hr, hrow⟩ := h.fst
  refine ⟨css, hl, fun i x cs hx hcs => ?_, ownsRow_frame hrow (fun b hv => hg.block b (hrow.lt b hv).2 (fun e => h.ne b hv e.symm))⟩
  exact hR.mono (fun b hb => ⟨⟨Nat.lt_of_lt_of_le hb.1.1 hg.size, hb.1.2⟩, hne b hb.1.1 hb.2⟩) (hR.frame (fun b hb => hg.block b hb.1.1 (fun e => hb.2 e.symm)) (hr i x cs hx hcs))
/-- what is handed to the first append -/
theorem SlRep.offS_ (h : SlRep k R w (Off w v u) zs s) (hR : Shape k R) : SlRep k (offR R u) w (Off w v u) zs s := by
  obtain ⟨A, c, e1, h1, h2, h3⟩ := h
  refine ⟨A, c, e1, h1, h2, fun i x hx => ?_⟩
  obtain ⟨b, off, cs, hA, hF, hr, hc⟩ := h3 i x hx
  exact ⟨b, off, cs, hA, hF, hR.mono (fun b hb => ⟨hb, hb.2.2⟩) hr, hc⟩
theorem off_src1 (w : World) (v u : Value) : ∀ b, Off w v u b → b < w.heap.size ∧ v.ownBlock ≠ some b := fun _ h => ⟨h.1, h.2.1⟩
theorem off_src2 (w : World) (v u : Value) : ∀ b, Off w v u b → b < w.heap.size ∧ u.ownBlock ≠ some b := fun _ h => ⟨h.1, h.2.2⟩
/-- one element laid in a new block, for an append -/
theorem Two.lay {γ : Type} {m : Nat} {S : CRep γ} (h : Two k l R enc e f base w xs v ys u) (hS : Shape m S) {x : γ} {cs : List Value} (hx : S w (Off w v u) x cs) (t : TypeId) {g : Nat} (hg : w.heap.size = g) :
    SlRep m S (w.alloc (.cells cs.toArray t)) (Off (w.alloc (.cells cs.toArray t)) v u) [x] (.slice (some ⟨g, 0, none⟩) 1 1) := by
  refine (SlRep.one_new hS hg hx (fun b hb => hb.1)).monoF hS (fun b hb => ?_)
  rcases hb with hb | hb
  · exact ⟨by have := hb.1; simp; omega, hb.2⟩
  · subst hb
    subst hg
    exact ⟨by simp, fun e => by have := (h.fst.own_lt _ e).2; omega, fun e => by have := (h.snd.own_lt _ e).2; omega⟩
end
/-- '[]T{x}': a row of the call's own with one element -/
theorem OwnRep.lay1 {α : Type} {R : CRep α} {e : TypeId} {base g : Nat} {w : World} {x : α} {c : Value} (hR : Shape 1 R) (h : R w (fun b => b < w.heap.size) x [c]) (hg : w.heap.size = g) (hb : base ≤ w.heap.size) :
    OwnRep 1 R e base (w.alloc (.cells #[c] e)) [x] (.slice (some ⟨g, 0, none⟩) 1 1) := by
  subst hg
  refine ⟨[[c]], rfl, fun i y cs hy hcs => ?_, ⟨by simp, .inr ⟨w.heap.size, 1, #[c], rfl, hb, by show (w.heap.push _)[w.heap.size]? = _; simp, Nat.le_refl _, by unfold maxLen; omega, by simp, by simp⟩⟩⟩
  obtain rfl : i = 0 := by
    have := (List.getElem?_eq_some_iff.1 hy).1
    simp at this; omega
  simp at hy hcs
  subst hy hcs
  refine hR.mono (fun b hb => ⟨by simp; omega, by simp [Value.ownBlock]; omega⟩) (hR.frame (fun b hb => Below.heap_alloc _ _ _ hb) h)
end
section
open Go.RowKit

theorem own_ptr {e : TypeId} {α : Type} {k n : Nat} {R : CRep α} {base : Nat} {w : World} {xs : List α} {v : Value} (h : OwnRep k R e base w xs v) (hn : xs.length = n) (hne : 0 < n) : ∃ g cap, v = .slice (some ⟨g, 0, none⟩) n cap ∧ base ≤ g ∧ g < w.heap.size ∧ n ≤ cap ∧ cap ≤ 9223372036854775807 := by
  subst hn
  have hlt := h.own_lt
  obtain ⟨css, hl, hr, hrow⟩ := h
  rcases hrow.2 with ⟨_, h0⟩ | ⟨g, cap, cur, rfl, hbg, hg, hcap, hm, hs, ht⟩
  · omega
  · exact ⟨g, cap, rfl, (hlt g rfl).1, (hlt g rfl).2, hcap, by unfold maxLen at hm; omega⟩
theorem cell_grown {w w' : World} {ob : Option Nat} (h : w.grownBy w' ob) {p : Addr} (hb : p.block < w.heap.size) (hne : some p.block ≠ ob) : w'.cell? p = w.cell? p := World.cell?_of_block (w := w) (h.block p.block hb hne)
/-- the first elements of a row of the call's own -/
theorem OwnRep.take_ {α : Type} {k : Nat} {enc : α → List Value} {e : TypeId} {base : Nat} {w : World} {xs : List α} {A : Option Addr} {n c : Nat} (hR : Shape k (flat enc)) (h : OwnRep k (flat enc) e base w xs (.slice A n c)) {i : Nat} (hi : i ≤ xs.length) :
    OwnRep k (flat enc) e base w (xs.take i) (.slice A i c) := by
  have hrow := h.rows
  refine OwnRep.of_rows ?_
  have hl : (xs.take i).length = i := by rw [List.length_take]; omega
  have hfl : ∀ ys : List α, (ys.map enc).flatten.length = ys.length * k := fun ys => flatten_len (w := w) (F := fun _ => True) hR (xs := ys) (by simp) (fun j x cs hx hcs => by rw [List.getElem?_map, hx] at hcs; injection hcs with hcs; exact hcs.symm)
  rcases hrow.2 with ⟨h1, h0⟩ | ⟨g, cap, cur, hv, hbg, hg, hcap, hm, hs, ht⟩
  · injection h1 with e1 e2 e3
    subst e1 e3
    have : xs = [] := List.eq_nil_of_length_eq_zero h0
    subst this
    have : i = 0 := by simpa using hi
    subst this
    exact ⟨by simp, .inl ⟨rfl, by simp⟩⟩
  · injection hv with e1 e2 e3
    subst e1 e3
    refine ⟨by rw [hfl], .inr ⟨g, c, cur, by rw [hl], hbg, hg, by rw [hl]; omega, hm, hs, ?_⟩⟩
    rw [hl]
    have e4 : ((xs.take i).map enc).flatten = ((xs.map enc).flatten).take (i * k) := by
      have e5 : (xs.map enc).flatten = ((xs.take i).map enc).flatten ++ ((xs.drop i).map enc).flatten := by
        rw [← List.flatten_append, ← List.map_append, List.take_append_drop]
      rw [e5, List.take_append_of_le_length (Nat.le_of_eq (by rw [hfl, hl]))]
      exact (List.take_of_length_le (Nat.le_of_eq (by rw [hfl, hl]))).symm
    rw [e4, ← ht, List.take_take]
    congr 1
    have := Nat.mul_le_mul_right k hi
    omega
theorem OwnRep.cases_ {α : Type} {k : Nat} {R : CRep α} {e : TypeId} {base : Nat} {w : World} {xs : List α} {v : Value} (h : OwnRep k R e base w xs v) :
    (v = .slice none 0 0 ∧ xs = []) ∨ ∃ g cap, v = .slice (some ⟨g, 0, none⟩) xs.length cap ∧ base ≤ g ∧ g < w.heap.size ∧ xs.length ≤ cap ∧ cap ≤ 9223372036854775807 := by
  have hlt := h.own_lt
  obtain ⟨css, hl, hr, hrow⟩ := h
  rcases hrow.2 with ⟨h1, h0⟩ | ⟨g, cap, cur, rfl, hbg, hg, hcap, hm, hs, ht⟩
  · exact .inl ⟨h1, List.eq_nil_of_length_eq_zero h0⟩
  · exact .inr ⟨g, cap, rfl, (hlt g rfl).1, (hlt g rfl).2, hcap, by unfold maxLen at hm; omega⟩
theorem SlRep.take_ {α : Type} {k : Nat} {R : CRep α} {w : World} {F : Nat → Prop} {xs : List α} {A : Option Addr} {n c : Nat} (h : SlRep k R w F xs (.slice A n c)) {i : Nat} (hi : i ≤ xs.length) : SlRep k R w F (xs.take i) (.slice A i c) := by
  obtain ⟨A', c', e, h1, h2, h3⟩ := h
  injection e with e1 e2 e3
  subst e1 e2 e3
  have hl : (xs.take i).length = i := by rw [List.length_take]; omega
  refine ⟨A, c, by rw [hl], by omega, h2, fun j x hx => ?_⟩
  have hj := lt_of_at hx
  rw [List.getElem?_take, if_pos (by omega)] at hx
  exact h3 j x hx
end
section
open Go.RowKit

/-- a row without room: its block known whole -/
theorem OwnRep.full {α : Type} {k : Nat} {enc : α → List Value} {e : TypeId} {base g n : Nat} {w : World} {xs : List α} (hR : Shape k (flat enc)) (h : OwnRep k (flat enc) e base w xs (.slice (some ⟨g, 0, none⟩) n n)) : n = xs.length ∧ w.heap[g]? = some (.cells (xs.map enc).flatten.toArray e (0, 0)) := by
  have hn : n = xs.length := h.len_pos hR
  have hrow := h.rows
  refine ⟨hn, ?_⟩
  have hfl : (xs.map enc).flatten.length = xs.length * k := flatten_len (w := w) (F := fun _ => True) hR (xs := xs) (by simp) (fun j x cs hx hcs => by rw [List.getElem?_map, hx] at hcs; injection hcs with hcs; exact hcs.symm)
  rcases hrow.2 with ⟨h1, h0⟩ | ⟨g', cap', cur, hv, hbg, hg, hcap, hm, hs, ht⟩
  · cases h1
  · injection hv with e1 e2 e3
    injection e1 with e1
    injection e1 with e1
    subst e1 e3
    rw [hg]
    congr 2
    apply Array.ext'
    rw [List.toList_toArray, ← ht]
    symm
    apply List.take_of_length_le
    rw [Array.length_toList, hs, hn]
    exact Nat.le_refl _
theorem OwnRep.of_full {α : Type} {k : Nat} {enc : α → List Value} {e : TypeId} {base g n : Nat} {w : World} {xs : List α} (hR : Shape k (flat enc)) (hn : n = xs.length) (hm : n ≤ maxLen) (hb : base ≤ g) (h : w.heap[g]? = some (.cells (xs.map enc).flatten.toArray e (0, 0))) : OwnRep k (flat enc) e base w xs (.slice (some ⟨g, 0, none⟩) n n) := by
  subst hn
  have hfl : (xs.map enc).flatten.length = xs.length * k := flatten_len (w := w) (F := fun _ => True) hR (xs := xs) (by simp) (fun j x cs hx hcs => by rw [List.getElem?_map, hx] at hcs; injection hcs with hcs; exact hcs.symm)
  exact OwnRep.of_rows ⟨hfl, .inr ⟨g, xs.length, _, rfl, hb, h, Nat.le_refl _, hm, by simpa using hfl, by rw [List.toList_toArray]; exact List.take_of_length_le (by rw [hfl]; exact Nat.le_refl _)⟩⟩
end
section
open Go.RowKit

/-- a key type whose keys are compared at once -/
structure KeyKind (P : Program) (kt : TypeId) {κ : Type} [DecidableEq κ] (kenc : κ → Value) : Prop where
  desc : ∃ d, P.underlying kt = some d ∧ ∀ a b, Instr.sameNow d (kenc a) (kenc b) = some (decide (a = b))
  check : ∀ (w : World) (e : Bool) (k : κ), (Instr.checkKey e 10000 kt (kenc k)).run P w = .ok () w
  bits : ∀ k, Instr.sameBits 10000 (kenc k) (kenc k) = true

section
variable {κ ν : Type} [DecidableEq κ] {P : Program} {w w' : World} {b : Nat} {kenc : κ → Value} {venc : ν → Value}

def entOf (kenc : κ → Value) (venc : ν → Value) (e : κ × ν × Nat) : MapEntry := ⟨kenc e.1, venc e.2.1, e.2.2⟩
structure MapAt (w : World) (b : Nat) (kenc : κ → Value) (venc : ν → Value) (es : List (κ × ν × Nat)) (clock : Nat) : Prop where
  blk : w.heap[b]? = some (.map (es.map (entOf kenc venc)).toArray clock)
  keys : (es.map (·.1)).Nodup
  born : (es.map (·.2.2)).Nodup
  old : ∀ e ∈ es, e.2.2 < clock
def mget (es : List (κ × ν × Nat)) (k : κ) : Option ν := (es.find? fun e => decide (e.1 = k)).map (·.2.1)
def MapF (w : World) (b : Nat) (kenc : κ → Value) (venc : ν → Value) (f : κ → Option ν) : Prop := ∃ es clock, MapAt w b kenc venc es clock ∧ ∀ k, mget es k = f k
def upd (f : κ → Option ν) (k : κ) (v : ν) : κ → Option ν := fun k' => if k' = k then some v else f k'
def del (f : κ → Option ν) (k : κ) : κ → Option ν := fun k' => if k' = k then none else f k'

theorem mget_cases {d : TypeDesc} (hd : ∀ a b, Instr.sameNow d (kenc a) (kenc b) = some (decide (a = b))) (k : κ) : ∀ (es : List (κ × ν × Nat)) (i : Nat),
    (mget es k = none ∧ (∀ e ∈ es, e.1 ≠ k) ∧ Instr.findNow d (kenc k) (es.map (entOf kenc venc)) i = some none) ∨
    ∃ j e, es[j]? = some e ∧ e.1 = k ∧ mget es k = some e.2.1 ∧ Instr.findNow d (kenc k) (es.map (entOf kenc venc)) i = some (some (i + j, venc e.2.1))
  | [], i => .inl ⟨rfl, by simp, rfl⟩
  | e :: es, i => by
    by_cases he : e.1 = k
    · refine .inr ⟨0, e, rfl, he, by simp [mget, he], ?_⟩
      simp [Instr.findNow, entOf, hd, he]
    · have he' : ¬ k = e.1 := fun h => he h.symm
      rcases mget_cases hd k es (i + 1) with ⟨h1, h2, h3⟩ | ⟨j, e', h1, h2, h3, h4⟩
      · refine .inl ⟨by simpa [mget, he] using h1, by simpa [he] using h2, ?_⟩
        simp only [List.map_cons, Instr.findNow, entOf, hd, decide_eq_false he']
        exact h3
      · refine .inr ⟨j + 1, e', by simpa using h1, h2, by simpa [mget, he] using h3, ?_⟩
        simp only [List.map_cons, Instr.findNow, entOf, hd, decide_eq_false he']
        rw [show i + (j + 1) = i + 1 + j by omega]
        exact h4

omit [DecidableEq κ] in
theorem MapAt.frame {es : List (κ × ν × Nat)} {clock : Nat} (h : MapAt w b kenc venc es clock) (hb : w'.heap[b]? = w.heap[b]?) : MapAt w' b kenc venc es clock := ⟨hb.trans h.blk, h.keys, h.born, h.old⟩
theorem MapF.frame {f : κ → Option ν} (h : MapF w b kenc venc f) (hb : w'.heap[b]? = w.heap[b]?) : MapF w' b kenc venc f := by
  obtain ⟨es, clock, h1, h2⟩ := h
  exact ⟨es, clock, h1.frame hb, h2⟩
theorem MapF.lt {f : κ → Option ν} (h : MapF w b kenc venc f) : b < w.heap.size := by
  obtain ⟨es, clock, h1, _⟩ := h
  rcases Nat.lt_or_ge b w.heap.size with hlt | hge
  · exact hlt
  · have := h1.blk
    rw [Array.getElem?_eq_none hge] at this
    cases this
theorem MapF.below {f : κ → Option ν} {B : Nat} (h : MapF w b kenc venc f) (hb : Below B w w') (hlt : b < B) : MapF w' b kenc venc f := h.frame (hb.block b hlt)
theorem MapF.new (w : World) (kenc : κ → Value) (venc : ν → Value) {g : Nat} (hg : w.heap.size = g) : MapF (w.alloc (.map #[] 0)) g kenc venc (fun _ => none) := by
  subst hg
  exact ⟨[], 0, ⟨by show (w.heap.push _)[w.heap.size]? = _; simp, by simp, by simp, by simp⟩, fun _ => rfl⟩

theorem run_lookup_at {t kt et : TypeId} (hK : KeyKind P kt kenc) (ht : P.underlying t = some (.map kt et)) {z : Value} (hz : (zeroValue et).run P w = .ok z w) {f : κ → Option ν} (h : MapF w b kenc venc f) (k : κ) (c : Bool) :
    (Instr.lookup t (.map (some b)) (kenc k) c).run P w = .ok (match f k with | none => if c then .tuple #[z, .bool false] else z | some v => if c then .tuple #[venc v, .bool true] else venc v) w := by
  obtain ⟨es, clock, h1, h2⟩ := h
  obtain ⟨d, hd, hs⟩ := hK.desc
  rw [← h2 k]
  rcases mget_cases (venc := venc) hs k es 0 with ⟨g1, g2, g3⟩ | ⟨j, e, g1, g2, g3, g4⟩
  · rw [g1]
    simp [Instr.lookup, run_underlying ht, MapKept.run_getObj_map h1.blk, hK.check, Instr.findKey, run_underlying hd, g3, hz, Result.andThen]
  · rw [g3]
    simp [Instr.lookup, run_underlying ht, MapKept.run_getObj_map h1.blk, hK.check, Instr.findKey, run_underlying hd, g4, Result.andThen]

theorem mget_append (es : List (κ × ν × Nat)) (e : κ × ν × Nat) (hn : ∀ x ∈ es, x.1 ≠ e.1) (k : κ) : mget (es ++ [e]) k = upd (mget es) e.1 e.2.1 k := by
  unfold mget upd
  rw [List.find?_append]
  by_cases hk : k = e.1
  · subst hk
    have : es.find? (fun x => decide (x.1 = e.1)) = none := by
      rw [List.find?_eq_none]
      intro x hx
      simpa using hn x hx
    simp [this]
  · have hk' : ¬ e.1 = k := fun h => hk h.symm
    simp [hk, hk']
theorem mget_set : ∀ (es : List (κ × ν × Nat)) (j : Nat) (e e' : κ × ν × Nat), es[j]? = some e → e'.1 = e.1 → (es.map (·.1)).Nodup → ∀ k, mget (es.set j e') k = upd (mget es) e.1 e'.2.1 k
  | [], j, e, e', hj, _, _, k => by simp at hj
  | x :: es, 0, e, e', hj, h1, hn, k => by
    simp at hj
    subst hj
    by_cases hk : x.1 = k
    · have hk' : k = x.1 := hk.symm
      simp [mget, upd, h1, hk]
    · have hk' : ¬ k = x.1 := fun h => hk h.symm
      simp [mget, upd, h1, hk, hk']
  | x :: es, j + 1, e, e', hj, h1, hn, k => by
    have hj' : es[j]? = some e := by simpa using hj
    simp only [List.map_cons, List.nodup_cons] at hn
    have ih := mget_set es j e e' hj' h1 hn.2 k
    have hx : x.1 ≠ e.1 := fun he => hn.1 (by rw [he]; exact List.mem_map.2 ⟨e, List.mem_of_getElem? hj', rfl⟩)
    by_cases hk : x.1 = k
    · have : ¬ k = e.1 := fun h => hx (hk.trans h)
      simp [mget, upd, hk, this]
    · simp only [List.set_cons_succ, mget, List.find?_cons, hk, decide_false, upd] at ih ⊢
      exact ih

def setBlk (w : World) (b : Nat) (o : Obj) : World := { w with heap := w.heap.setIfInBounds b o }
theorem grownBy_setBlk (w : World) (b : Nat) (o : Obj) : w.grownBy (setBlk w b o) (some b) := by
  refine ⟨rfl, rfl, rfl, by simp [setBlk], fun i hi hne => ?_⟩
  simp only [setBlk]
  rw [Array.getElem?_setIfInBounds_ne (by intro h; subst h; exact hne rfl)]
theorem setBlk_at {w : World} {b : Nat} (o : Obj) (h : b < w.heap.size) : (setBlk w b o).heap[b]? = some o := by simp [setBlk, h]

theorem map_set_same {α β : Type} (g : α → β) (l : List α) (j : Nat) (x e : α) (h : l[j]? = some e) (hg : g x = g e) : (l.set j x).map g = l.map g := by
  apply List.ext_getElem?
  intro i
  rw [List.getElem?_map, List.getElem?_map, List.getElem?_set]
  by_cases hi : j = i
  · subst hi
    rw [if_pos rfl, if_pos (lt_of_at h), h]
    simp [hg]
  · rw [if_neg hi]

theorem run_mapUpdate_at {t kt et : TypeId} (hK : KeyKind P kt kenc) (ht : P.underlying t = some (.map kt et)) {f : κ → Option ν} (h : MapF w b kenc venc f) (k : κ) (v : ν) :
    ∃ w', (Instr.mapUpdate t (.map (some b)) (kenc k) (venc v)).run P w = .ok () w' ∧ MapF w' b kenc venc (upd f k v) ∧ w.grownBy w' (some b) := by
  have hlt := h.lt
  obtain ⟨es, clock, h1, h2⟩ := h
  obtain ⟨d, hd, hs⟩ := hK.desc
  have hf : f = mget es := funext fun k => (h2 k).symm
  subst hf
  rcases mget_cases (venc := venc) hs k es 0 with ⟨g1, g2, g3⟩ | ⟨j, e, g1, g2, g3, g4⟩
  · refine ⟨setBlk w b (.map ((es ++ [(k, v, clock)]).map (entOf kenc venc)).toArray (clock + 1)), ?_, ⟨_, _, ⟨setBlk_at _ hlt, ?_, ?_, ?_⟩, mget_append es (k, v, clock) g2⟩, grownBy_setBlk _ _ _⟩
    · simp [Instr.mapUpdate, run_underlying ht, MapKept.run_getObj_map h1.blk, hK.check, Instr.findKey, run_underlying hd, g3, MapKept.run_setObj_map _ h1.blk, Result.andThen, setBlk, entOf]
    · rw [List.map_append, List.nodup_append]
      exact ⟨h1.keys, by simp, fun a ha c hc => by
        obtain ⟨x, hx, rfl⟩ := List.mem_map.1 ha
        simp at hc
        subst hc
        exact g2 x hx⟩
    · rw [List.map_append, List.nodup_append]
      exact ⟨h1.born, by simp, fun a ha c hc => by
        obtain ⟨x, hx, rfl⟩ := List.mem_map.1 ha
        simp at hc
        subst hc
        have := h1.old x hx
        omega⟩
    · intro x hx
      rw [List.mem_append] at hx
      rcases hx with hx | hx
      · have := h1.old x hx; omega
      · simp at hx; subst hx; simp
  · have hj : j < es.length := lt_of_at g1
    have hset : ((es.set j (k, v, e.2.2)).map (entOf kenc venc)) = (es.map (entOf kenc venc)).set j ⟨kenc k, venc v, e.2.2⟩ := by rw [List.map_set]; rfl
    refine ⟨setBlk w b (.map ((es.set j (k, v, e.2.2)).map (entOf kenc venc)).toArray clock), ?_, ⟨_, _, ⟨setBlk_at _ hlt, ?_, ?_, ?_⟩, fun k' => by rw [mget_set es j e (k, v, e.2.2) g1 g2.symm h1.keys, g2]⟩, grownBy_setBlk _ _ _⟩
    · have hm : (es.map (entOf kenc venc)).modify j (fun e => { key := kenc k, val := venc v, born := e.born }) = (es.map (entOf kenc venc)).set j { key := kenc k, val := venc v, born := e.2.2 } := by
        apply List.ext_getElem?
        intro i
        rw [List.getElem?_modify, List.getElem?_set]
        by_cases hi : j = i
        · subst hi
          have : (es.map (entOf kenc venc))[j]? = some (entOf kenc venc e) := by rw [List.getElem?_map, g1]; rfl
          rw [if_pos rfl, if_pos (by simpa using hj), this]
          simp [entOf]
        · simp [hi]
      simp only [Nat.zero_add] at g4
      simp [Instr.mapUpdate, run_underlying ht, MapKept.run_getObj_map h1.blk, hK.check, Instr.findKey, run_underlying hd, g4, g1, entOf, g2, Instr.keyThatStays, hK.bits, MapKept.run_setObj_map _ h1.blk, Result.andThen, setBlk]
      rw [hm]
    · rw [map_set_same (fun x : κ × ν × Nat => x.1) es j (k, v, e.2.2) e g1 g2.symm]; exact h1.keys
    · rw [map_set_same (fun x : κ × ν × Nat => x.2.2) es j (k, v, e.2.2) e g1 rfl]; exact h1.born
    · intro x hx
      have hx' : x.2.2 ∈ (es.set j (k, v, e.2.2)).map (fun x : κ × ν × Nat => x.2.2) := List.mem_map.2 ⟨x, hx, rfl⟩
      rw [map_set_same (fun x : κ × ν × Nat => x.2.2) es j (k, v, e.2.2) e g1 rfl] at hx'
      obtain ⟨y, hy, hxy⟩ := List.mem_map.1 hx'
      rw [← hxy]
      exact h1.old y hy

section
variable {ops : Array Oper} {rest : List Oper} {o : Oper} {a : Act} {Q : Exit → Act → World → Prop}
theorem wpList_look (hg : o.guard = none) (m x : Operand) (t : TypeId) (c : Bool) (hop : o.op = Op.lookup t m x c) {kt et : TypeId} (hK : KeyKind P kt kenc) (ht : P.underlying t = some (.map kt et)) {z : Value} (hz : (zeroValue et).run P w = .ok z w)
    {f : κ → Option ν} (h : MapF w b kenc venc f) (hm : a.eval m = .map (some b)) (k : κ) (hx : a.eval x = kenc k) (val : Value)
    (hval : (match f k with | none => if c then Value.tuple #[z, .bool false] else z | some v => if c then Value.tuple #[venc v, .bool true] else venc v) = val)
    (hN : wpList P ops Q rest (a.put o.dst val) w) : wpList P ops Q (o :: rest) a w := by
  refine wpList_plain hg fun K' hK' => ?_
  have hrun := run_lookup_at hK ht hz h k c
  rw [hval] at hrun
  unfold Oper.wp
  simp [execOp, hop, hm, hx, hrun, Result.andThen]
  exact hK' _ _ hN
theorem wpList_mapPut (hg : o.guard = none) (m x y : Operand) (t : TypeId) (hop : o.op = Op.mapUpdate t m x y ∨ o.op = Op.insert t m x y) {kt et : TypeId} (hK : KeyKind P kt kenc) (ht : P.underlying t = some (.map kt et))
    {f : κ → Option ν} (h : MapF w b kenc venc f) (hm : a.eval m = .map (some b)) (k : κ) (hx : a.eval x = kenc k) (v : ν) (hy : a.eval y = venc v)
    (hN : ∀ w', MapF w' b kenc venc (upd f k v) → w.grownBy w' (some b) → wpList P ops Q rest (a.put o.dst undef) w') : wpList P ops Q (o :: rest) a w := by
  refine wpList_plain hg fun K' hK' => ?_
  obtain ⟨w', hrun, h2, h3⟩ := run_mapUpdate_at hK ht h k v
  unfold Oper.wp
  rcases hop with hop | hop
  all_goals
    simp [execOp, hop, hm, hx, hy, hrun, Result.andThen]
    exact hK' _ _ (hN w' h2 h3)
end
end
theorem stop_insert {P : Program} {ops : Array Oper} {Q : Exit → Act → World → Prop} {d : Option Tmp} {t : TypeId} {m k v : Operand} {ty : TypeId} {pos : String} {aft : Array Edge} {g : Option (Nat × Bool)} {rest : List Oper} {a : Act} {w : World}
    (h : Stop (wpList P ops Q (⟨d, .insert t m k v, ty, pos, aft, g⟩ :: rest) a w)) : wpList P ops Q (⟨d, .insert t m k v, ty, pos, aft, g⟩ :: rest) a w := h
theorem int_kind {P : Program} {kt : TypeId} (h : P.underlying kt = some (.int .i64)) : KeyKind P kt (fun n : Int => Value.int .i64 n) where
  desc := ⟨_, h, fun a b => by simp [Instr.sameNow]; rfl⟩
  check := fun w e k => MapKept.run_checkKey h (by constructor) e 9999
  bits := fun k => by simp [Instr.sameBits]
theorem string_kind {P : Program} {kt : TypeId} (h : P.underlying kt = some .string) : KeyKind P kt Value.string where
  desc := ⟨_, h, fun a b => by simp only [Instr.sameNow]; congr 1; rw [Bool.eq_iff_iff, MapKept.bytes_beq, decide_eq_true_iff]⟩
  check := fun w e k => MapKept.run_checkKey h (by constructor) e 9999
  bits := fun k => by simp [Instr.sameBits, MapKept.bytes_beq]
end
section
open Go.RowKit

section
variable {κ ν : Type} [DecidableEq κ] {P : Program} {w : World} {b : Nat} {kenc : κ → Value} {venc : ν → Value}
theorem mget_mem : ∀ (es : List (κ × ν × Nat)) (k : κ), mget es k ≠ none ↔ k ∈ es.map (·.1)
  | [], k => by simp [mget]
  | e :: es, k => by
    have ih := mget_mem es k
    unfold mget at ih ⊢
    rw [List.find?_cons]
    by_cases h : e.1 = k
    · simp [h]
    · have h' : ¬ k = e.1 := fun e => h e.symm
      simp only [h, decide_false, List.map_cons, List.mem_cons, h', false_or]
      exact ih
theorem map_len {es : List (κ × ν × Nat)} {f : κ → Option ν} (h2 : ∀ k, mget es k = f k) (hn : (es.map (·.1)).Nodup) {L : List κ} (hL : L.Nodup) (hf : ∀ k, f k ≠ none ↔ k ∈ L) : es.length = L.length := by
  have hp : (es.map (·.1)).Perm L := (List.perm_ext_iff_of_nodup hn hL).2 fun k => by rw [← mget_mem, h2, hf]
  have := hp.length_eq
  simpa using this
theorem run_maplen {t kt et ty : TypeId} (ht : P.underlying t = some (.map kt et)) {f : κ → Option ν} (h : MapF w b kenc venc f) {L : List κ} (hL : L.Nodup) (hf : ∀ k, f k ≠ none ↔ k ∈ L) : (Builtin.len_ #[t] ty #[.map (some b)]).run P w = .ok (.int .i64 L.length) w := by
  obtain ⟨es, clock, h1, h2⟩ := h
  rw [← map_len h2 h1.keys hL hf]
  simp [Builtin.len_, run_underlying ht, MapKept.run_getObj_map h1.blk, goInt, Result.andThen]
theorem wp_maplen {o : Oper} {a : Act} {K : Act → World → Prop} {Q : Exit → Act → World → Prop} (x : Operand) (t : TypeId) (ho : o.op = .call { callee := .builtin .len, args := #[x], argTypes := #[t] }) {kt et : TypeId} (ht : P.underlying t = some (.map kt et))
    {f : κ → Option ν} (h : MapF w b kenc venc f) (hm : a.eval x = .map (some b)) {L : List κ} (hL : L.Nodup) (hf : ∀ k, f k ≠ none ↔ k ∈ L) (hN : K (a.put o.dst (.int .i64 L.length)) w) : o.wp P a w K Q := by
  have hrun := run_maplen (ty := o.type) ht h hL hf
  unfold Oper.wp execOp
  simp only [ho, resolve, invoke, builtin, Sem.run_bind, Sem.run_pure, Result.andThen_ok, List.map_toArray, List.map_cons, List.map_nil, hm, hrun]
  exact hN
theorem wpList_maplen {ops : Array Oper} {rest : List Oper} {o : Oper} {a : Act} {Q : Exit → Act → World → Prop} (hg : o.guard = none) (x : Operand) (t : TypeId) (ho : o.op = .call { callee := .builtin .len, args := #[x], argTypes := #[t] }) {kt et : TypeId} (ht : P.underlying t = some (.map kt et))
    {f : κ → Option ν} (h : MapF w b kenc venc f) (hm : a.eval x = .map (some b)) {L : List κ} (hL : L.Nodup) (hf : ∀ k, f k ≠ none ↔ k ∈ L) (hN : wpList P ops Q rest (a.put o.dst (.int .i64 L.length)) w) : wpList P ops Q (o :: rest) a w :=
  wpList_plain hg fun _ hK => wp_maplen x t ho ht h hm hL hf (hK _ _ hN)
theorem step_maplen {ops : Array Oper} {o : Oper} {a : Act} {K : Act → World → Prop} {Q : Exit → Act → World → Prop} {E : Prop} (hgd : o.guard = none) (x : Operand) (t : TypeId) (ho : o.op = .call { callee := .builtin .len, args := #[x], argTypes := #[t] }) {kt et : TypeId} (ht : P.underlying t = some (.map kt et))
    {f : κ → Option ν} (h : MapF w b kenc venc f) (hm : a.eval x = .map (some b)) {L : List κ} (hL : L.Nodup) (hf : ∀ k, f k ≠ none ↔ k ∈ L) (hN : K (a.put o.dst (.int .i64 L.length)) w) : if Region.wanted o (yielded ops a.tmps) = true then Oper.wp P o a w K Q else E := by
  have hw : Region.wanted o (yielded ops a.tmps) = true := by simp [Region.wanted, hgd]
  rw [if_pos hw]
  exact wp_maplen x t ho ht h hm hL hf hN
end
end
section
open Go.RowKit

theorem stop_entry {P : Program} {ops : Array Oper} {Q : Exit → Act → World → Prop} {d : Option Tmp} {m : Operand} {ty : TypeId} {pos : String} {aft : Array Edge} {g : Option (Nat × Bool)} {rest : List Oper} {a : Act} {w : World}
    (h : Stop (wpList P ops Q (⟨d, .entry m, ty, pos, aft, g⟩ :: rest) a w)) : wpList P ops Q (⟨d, .entry m, ty, pos, aft, g⟩ :: rest) a w := h
theorem stop_range {P : Program} {ops : Array Oper} {Q : Exit → Act → World → Prop} {d : Option Tmp} {t : TypeId} {m : Operand} {ty : TypeId} {pos : String} {aft : Array Edge} {g : Option (Nat × Bool)} {rest : List Oper} {a : Act} {w : World}
    (h : Stop (wpList P ops Q (⟨d, .range t m, ty, pos, aft, g⟩ :: rest) a w)) : wpList P ops Q (⟨d, .range t m, ty, pos, aft, g⟩ :: rest) a w := h
theorem stop_next {P : Program} {ops : Array Oper} {Q : Exit → Act → World → Prop} {d : Option Tmp} {m : Operand} {s : Bool} {ty : TypeId} {pos : String} {aft : Array Edge} {g : Option (Nat × Bool)} {rest : List Oper} {a : Act} {w : World}
    (h : Stop (wpList P ops Q (⟨d, .next m s, ty, pos, aft, g⟩ :: rest) a w)) : wpList P ops Q (⟨d, .next m s, ty, pos, aft, g⟩ :: rest) a w := h
theorem unseen_less {κ ν : Type} {es : List (κ × ν × Nat)} {seen : List Nat} {e : κ × ν × Nat} (he : e ∈ es) (hs : e.2.2 ∉ seen) :
    (es.filter fun x => !decide (x.2.2 ∈ seen ++ [e.2.2])).length < (es.filter fun x => !decide (x.2.2 ∈ seen)).length := by
  have : (es.filter fun x => !decide (x.2.2 ∈ seen ++ [e.2.2])) = (es.filter fun x => !decide (x.2.2 ∈ seen)).filter fun x => !decide (x.2.2 = e.2.2) := by
    rw [List.filter_filter]
    apply List.filter_congr
    intro x _
    simp [Bool.and_comm]
  rw [this]
  refine Nat.lt_of_le_of_ne (List.length_filter_le _ _) fun heq => ?_
  have hall := List.length_filter_eq_length_iff.1 heq e (List.mem_filter.2 ⟨he, by simpa using hs⟩)
  simp at hall

section
variable {κ ν : Type} [DecidableEq κ] {P : Program} {w w' : World} {b r : Nat} {kenc : κ → Value} {venc : ν → Value} {es : List (κ × ν × Nat)} {clock : Nat}

def IterAt (w : World) (r b clock : Nat) (seen : List Nat) : Prop := w.heap[r]? = some (.mapIter (some b) clock seen.toArray clock)
theorem IterAt.frame {seen : List Nat} (h : IterAt w r b clock seen) (hb : w'.heap[r]? = w.heap[r]?) : IterAt w' r b clock seen := hb.trans h
theorem IterAt.lt {seen : List Nat} (h : IterAt w r b clock seen) : r < w.heap.size := by
  rcases Nat.lt_or_ge r w.heap.size with hlt | hge
  · exact hlt
  · unfold IterAt at h; rw [Array.getElem?_eq_none hge] at h; cases h
theorem MapAt.lt (h : MapAt w b kenc venc es clock) : b < w.heap.size := MapF.lt ⟨es, clock, h, fun _ => rfl⟩
omit [DecidableEq κ] in
theorem MapAt.ne_iter {seen : List Nat} (h : MapAt w b kenc venc es clock) (hi : IterAt w r b clock seen) : b ≠ r := by
  rintro rfl
  have h1 := h.blk
  unfold IterAt at hi
  rw [hi] at h1
  cases h1

theorem eraseIdx_filter : ∀ (es : List (κ × ν × Nat)) (j : Nat) (e : κ × ν × Nat), es[j]? = some e → (es.map (·.1)).Nodup → es.eraseIdx j = es.filter fun x => !decide (x.1 = e.1)
  | [], j, e, hj, _ => by simp at hj
  | x :: es, 0, e, hj, hn => by
    simp at hj
    subst hj
    simp only [List.map_cons, List.nodup_cons] at hn
    have : es.filter (fun y => !decide (y.1 = x.1)) = es := by
      rw [List.filter_eq_self]
      intro y hy
      have : y.1 ≠ x.1 := fun he => hn.1 (he ▸ List.mem_map.2 ⟨y, hy, rfl⟩)
      simp [this]
    simp [this]
  | x :: es, j + 1, e, hj, hn => by
    have hj' : es[j]? = some e := by simpa using hj
    simp only [List.map_cons, List.nodup_cons] at hn
    have hx : x.1 ≠ e.1 := fun he => hn.1 (by rw [he]; exact List.mem_map.2 ⟨e, List.mem_of_getElem? hj', rfl⟩)
    rw [List.eraseIdx_cons_succ, eraseIdx_filter es j e hj' hn.2]
    simp [hx]

omit [DecidableEq κ] in
theorem MapAt.sub (h : MapAt w b kenc venc es clock) (p : κ × ν × Nat → Bool) (hb : w'.heap[b]? = some (.map ((es.filter p).map (entOf kenc venc)).toArray clock)) : MapAt w' b kenc venc (es.filter p) clock :=
  ⟨hb, (List.filter_sublist.map _).nodup h.keys, (List.filter_sublist.map _).nodup h.born, fun e he => h.old e ((List.mem_filter.1 he).1)⟩

theorem run_delete_at {t kt et : TypeId} (hK : KeyKind P kt kenc) (ht : P.underlying t = some (.map kt et)) (h : MapAt w b kenc venc es clock) (k : κ) (ty : TypeId) :
    ∃ w', (Builtin.delete_ #[t, kt] ty #[.map (some b), kenc k]).run P w = .ok (.tuple #[]) w' ∧ MapAt w' b kenc venc (es.filter fun x => !decide (x.1 = k)) clock ∧ w.grownBy w' (some b) := by
  have hlt := h.lt
  obtain ⟨d, hd, hs⟩ := hK.desc
  rcases mget_cases (venc := venc) hs k es 0 with ⟨g1, g2, g3⟩ | ⟨j, e, g1, g2, g3, g4⟩
  · have hf : es.filter (fun x => !decide (x.1 = k)) = es := by
      rw [List.filter_eq_self]
      intro x hx
      simp [g2 x hx]
    refine ⟨setBlk w b (.map (es.map (entOf kenc venc)).toArray clock), ?_, h.sub _ (by rw [hf]; exact setBlk_at _ hlt), grownBy_setBlk _ _ _⟩
    simp [Builtin.delete_, run_underlying ht, MapKept.run_getObj_map h.blk, hK.check, Instr.findKey, run_underlying hd, g3, MapKept.run_setObj_map _ h.blk, Result.andThen, setBlk]
  · subst g2
    have hf := eraseIdx_filter es j e g1 h.keys
    refine ⟨setBlk w b (.map ((es.filter fun x => !decide (x.1 = e.1)).map (entOf kenc venc)).toArray clock), ?_, h.sub _ (setBlk_at _ hlt), grownBy_setBlk _ _ _⟩
    have hm : (es.map (entOf kenc venc)).eraseIdx j = (es.filter fun x => !decide (x.1 = e.1)).map (entOf kenc venc) := by rw [← hf]; exact (ChangeMaps.map_eraseIdx _ _ _).symm
    simp only [Nat.zero_add] at g4
    simp [Builtin.delete_, run_underlying ht, MapKept.run_getObj_map h.blk, hK.check, Instr.findKey, run_underlying hd, g4, MapKept.run_setObj_map _ h.blk, Result.andThen, setBlk, hm]

section
variable {ops : Array Oper} {rest : List Oper} {o : Oper} {a : Act} {Q : Exit → Act → World → Prop}
theorem wpList_del (hg : o.guard = none) (m x : Operand) {t kt et : TypeId} (hop : o.op = Op.call { callee := Callee.builtin Builtin.delete, args := #[m, x], argTypes := #[t, kt] }) (hK : KeyKind P kt kenc) (ht : P.underlying t = some (.map kt et))
    (h : MapAt w b kenc venc es clock) (hm : a.eval m = .map (some b)) (k : κ) (hx : a.eval x = kenc k)
    (hN : ∀ w', MapAt w' b kenc venc (es.filter fun x => !decide (x.1 = k)) clock → w.grownBy w' (some b) → wpList P ops Q rest (a.put o.dst (.tuple #[])) w') : wpList P ops Q (o :: rest) a w := by
  refine wpList_plain hg fun K' hK' => ?_
  obtain ⟨w', hrun, r1, r2⟩ := run_delete_at hK ht h k o.type
  unfold Oper.wp
  simp [execOp, hop, resolve, invoke, builtin, hm, hx, hrun, Result.andThen]
  exact hK' _ _ (hN w' r1 r2)
theorem wpList_rng (hg : o.guard = none) (m : Operand) {t kt et : TypeId} (hop : o.op = Op.range t m) (ht : P.underlying t = some (.map kt et)) (h : MapAt w b kenc venc es clock) (hm : a.eval m = .map (some b)) (hr : w.heap.size = r)
    (hN : ∀ w', MapAt w' b kenc venc es clock → IterAt w' r b clock [] → w' = w.alloc (.mapIter (some b) clock #[] clock) → wpList P ops Q rest (a.put o.dst (.pointer (some ⟨r, 0, none⟩))) w') : wpList P ops Q (o :: rest) a w := by
  subst hr
  refine wpList_plain hg fun K' hK' => ?_
  have hrun : (Instr.range t (.map (some b))).run P w = .ok (.pointer (some ⟨w.heap.size, 0, none⟩)) (w.alloc (.mapIter (some b) clock #[] clock)) := by
    simp [Instr.range, run_underlying ht, MapKept.run_getObj_map h.blk, Result.andThen]
  unfold Oper.wp
  simp [execOp, hop, hm, hrun, Result.andThen]
  exact hK' _ _ (hN _ (h.frame (Below.heap_alloc _ _ _ h.lt)) (by show (w.heap.push _)[w.heap.size]? = _; simp) rfl)
theorem wpList_nxt (hg : o.guard = none) (it : Operand) (hop : o.op = Op.next it false) (h : MapAt w b kenc venc es clock) {seen : List Nat} (hi : IterAt w r b clock seen) (hit : a.eval it = .pointer (some ⟨r, 0, none⟩))
    (h1 : (∀ e ∈ es, e.2.2 ∈ seen) → wpList P ops Q rest (a.put o.dst (.tuple #[.bool false])) w)
    (h2 : ∀ e ∈ es, e.2.2 ∉ seen → ∀ w', MapAt w' b kenc venc es clock → IterAt w' r b clock (seen ++ [e.2.2]) → w.grownBy w' (some r) → wpList P ops Q rest (a.put o.dst (.tuple #[.bool true, kenc e.1, venc e.2.1])) w') : wpList P ops Q (o :: rest) a w := by
  refine wpList_plain hg fun K' hK' => ?_
  have hne := h.ne_iter hi
  have hlt := hi.lt
  have hmem : ∀ x, x ∈ (leftOf (es.map (entOf kenc venc)).toArray seen.toArray).toList ↔ ∃ e ∈ es, e.2.2 ∉ seen ∧ x = entOf kenc venc e := by
    intro x
    unfold leftOf
    simp only [Array.toList_filter, List.mem_filter, List.mem_map]
    constructor
    · rintro ⟨⟨e, he, rfl⟩, hs⟩
      exact ⟨e, he, by simpa [entOf] using hs, rfl⟩
    · rintro ⟨e, he, hs, rfl⟩
      exact ⟨⟨e, he, rfl⟩, by simpa [entOf] using hs⟩
  rcases run_next_at (P := P) w o.type r b clock clock seen.toArray (es.map (entOf kenc venc)).toArray clock hi h.blk (fun x hx => by
      simp only [List.mem_map] at hx
      obtain ⟨e, he, rfl⟩ := hx
      exact h.old e he) (Nat.le_refl _) with ⟨h0, hrun⟩ | ⟨x, hx, w1, hw1, hrun⟩
  · unfold Oper.wp
    simp [execOp, hop, hit, hrun, Result.andThen]
    refine hK' _ _ (h1 fun e he => ?_)
    by_cases hs : e.2.2 ∈ seen
    · exact hs
    · have hin := (hmem (entOf kenc venc e)).2 ⟨e, he, hs, rfl⟩
      have hnil : (leftOf (es.map (entOf kenc venc)).toArray seen.toArray).toList = [] := List.eq_nil_of_length_eq_zero (by simpa using h0)
      rw [hnil] at hin
      cases hin
  · obtain ⟨e, he, hs, rfl⟩ := (hmem x).1 hx
    unfold Oper.wp
    simp [execOp, hop, hit, hrun, Result.andThen]
    have hgw : w.grownBy w1 (some r) := by rcases hw1 with rfl | rfl <;> exact ⟨rfl, rfl, rfl, Nat.le_refl _, fun _ _ _ => rfl⟩
    have hlt1 : r < w1.heap.size := by rcases hw1 with rfl | rfl <;> exact hlt
    have hgb : w.grownBy (ChangeMaps.setBlock w1 r (.mapIter (some b) clock (seen ++ [(entOf kenc venc e).born]).toArray clock)) (some r) := World.grownBy.trans hgw (grownBy_setBlk w1 r _)
    refine hK' _ _ (h2 e he hs _ (h.frame (hgb.block b h.lt (fun e => hne (by injection e)))) ?_ hgb)
    show (setBlk w1 r _).heap[r]? = _
    rw [setBlk_at _ hlt1]
    rfl
omit [DecidableEq κ] in
theorem wpList_ent (hg : o.guard = none) (it : Operand) (hop : o.op = Op.entry it) (h : MapAt w b kenc venc es clock) {seen : List Nat} {e : κ × ν × Nat} (he : e ∈ es) (hi : IterAt w r b clock (seen ++ [e.2.2])) (hit : a.eval it = .pointer (some ⟨r, 0, none⟩))
    (hN : wpList P ops Q rest (a.put o.dst (.tuple #[kenc e.1, venc e.2.1])) w) : wpList P ops Q (o :: rest) a w := by
  refine wpList_plain hg fun K' hK' => ?_
  have hrun := run_entry_at (P := P) w r b clock seen.toArray (es.map (entOf kenc venc)).toArray clock (entOf kenc venc e) (by unfold IterAt at hi; rw [hi]; simp [entOf]) h.blk (by rw [List.toList_toArray]; exact List.mem_map.2 ⟨e, he, rfl⟩) (by simpa [List.map_map, Function.comp_def, entOf] using h.born)
  unfold Oper.wp
  simp [execOp, hop, hit, hrun, Result.andThen]
  exact hK' _ _ hN
end
end
end
section
open Go.RowKit

structure KeyRun (P : Program) (kt : TypeId) {κ : Type} [DecidableEq κ] (kenc : κ → Value) : Prop where
  now : ∃ d, P.underlying kt = some d ∧ ∀ a b, Instr.sameNow d (kenc a) (kenc b) = none
  same : ∀ (w : World) (a b : κ), (Op.equal kt (kenc a) (kenc b)).run P w = .ok (decide (a = b)) w
  check : ∀ (w : World) (e : Bool) (k : κ), (Instr.checkKey e 10000 kt (kenc k)).run P w = .ok () w
  bits : ∀ k, Instr.sameBits 10000 (kenc k) (kenc k) = true

section
variable {κ ν : Type} [DecidableEq κ] {P : Program} {w w' : World} {b : Nat} {kenc : κ → Value} {venc : ν → Value} {kt : TypeId}
theorem ask_cases (hK : KeyRun P kt kenc) (k : κ) : ∀ (es : List (κ × ν × Nat)) (i : Nat),
    (mget es k = none ∧ (∀ e ∈ es, e.1 ≠ k) ∧ (Instr.findAsking kt (kenc k) (es.map (entOf kenc venc)) i).run P w = .ok none w) ∨
    ∃ j e, es[j]? = some e ∧ e.1 = k ∧ mget es k = some e.2.1 ∧ (Instr.findAsking kt (kenc k) (es.map (entOf kenc venc)) i).run P w = .ok (some (i + j, venc e.2.1)) w
  | [], i => .inl ⟨rfl, by simp, by simp [Instr.findAsking]⟩
  | e :: es, i => by
    by_cases he : e.1 = k
    · refine .inr ⟨0, e, rfl, he, by simp [mget, he], ?_⟩
      simp [Instr.findAsking, entOf, hK.same, he, Result.andThen]
    · have he' : ¬ k = e.1 := fun h => he h.symm
      have hstep : (Instr.findAsking kt (kenc k) ((e :: es).map (entOf kenc venc)) i).run P w = (Instr.findAsking kt (kenc k) (es.map (entOf kenc venc)) (i + 1)).run P w := by
        simp [Instr.findAsking, entOf, hK.same, he', Result.andThen]
      rcases ask_cases hK k es (i + 1) with ⟨h1, h2, h3⟩ | ⟨j, e', h1, h2, h3, h4⟩
      · exact .inl ⟨by simpa [mget, he] using h1, by simpa [he] using h2, hstep.trans h3⟩
      · refine .inr ⟨j + 1, e', by simpa using h1, h2, by simpa [mget, he] using h3, hstep.trans ?_⟩
        rw [show i + (j + 1) = i + 1 + j by omega]
        exact h4
theorem findKey_cases (hK : KeyRun P kt kenc) (k : κ) (es : List (κ × ν × Nat)) :
    (mget es k = none ∧ (∀ e ∈ es, e.1 ≠ k) ∧ (Instr.findKey kt (kenc k) (es.map (entOf kenc venc))).run P w = .ok none w) ∨
    ∃ j e, es[j]? = some e ∧ e.1 = k ∧ mget es k = some e.2.1 ∧ (Instr.findKey kt (kenc k) (es.map (entOf kenc venc))).run P w = .ok (some (j, venc e.2.1)) w := by
  have h := ask_cases (w := w) (venc := venc) hK k es 0
  have e : (Instr.findKey kt (kenc k) (es.map (entOf kenc venc))).run P w = (Instr.findAsking kt (kenc k) (es.map (entOf kenc venc)) 0).run P w := by
    obtain ⟨d, hd, hn⟩ := hK.now
    cases es with
    | nil => simp [Instr.findKey, run_underlying hd, Instr.findNow, Instr.findAsking, Result.andThen]
    | cons x es => simp [Instr.findKey, run_underlying hd, Instr.findNow, entOf, hn, Result.andThen]
  rw [e]
  simpa using h
theorem run_lookup_atS {t et : TypeId} (hK : KeyRun P kt kenc) (ht : P.underlying t = some (.map kt et)) {z : Value} (hz : (zeroValue et).run P w = .ok z w) {f : κ → Option ν} (h : MapF w b kenc venc f) (k : κ) (c : Bool) :
    (Instr.lookup t (.map (some b)) (kenc k) c).run P w = .ok (match f k with | none => if c then .tuple #[z, .bool false] else z | some v => if c then .tuple #[venc v, .bool true] else venc v) w := by
  obtain ⟨es, clock, h1, h2⟩ := h
  rw [← h2 k]
  rcases findKey_cases (w := w) (venc := venc) hK k es with ⟨g1, g2, g3⟩ | ⟨j, e, g1, g2, g3, g4⟩
  · rw [g1]
    simp [Instr.lookup, run_underlying ht, MapKept.run_getObj_map h1.blk, hK.check, g3, hz, Result.andThen]
  · rw [g3]
    simp [Instr.lookup, run_underlying ht, MapKept.run_getObj_map h1.blk, hK.check, g4, Result.andThen]

theorem run_mapUpdate_atS {t et : TypeId} (hK : KeyRun P kt kenc) (ht : P.underlying t = some (.map kt et)) {f : κ → Option ν} (h : MapF w b kenc venc f) (k : κ) (v : ν) :
    ∃ w', (Instr.mapUpdate t (.map (some b)) (kenc k) (venc v)).run P w = .ok () w' ∧ MapF w' b kenc venc (upd f k v) ∧ w.grownBy w' (some b) := by
  have hlt := h.lt
  obtain ⟨es, clock, h1, h2⟩ := h
  have hf : f = mget es := funext fun k => (h2 k).symm
  subst hf
  rcases findKey_cases (w := w) (venc := venc) hK k es with ⟨g1, g2, g3⟩ | ⟨j, e, g1, g2, g3, g4⟩
  · refine ⟨setBlk w b (.map ((es ++ [(k, v, clock)]).map (entOf kenc venc)).toArray (clock + 1)), ?_, ⟨_, _, ⟨setBlk_at _ hlt, ?_, ?_, ?_⟩, mget_append es (k, v, clock) g2⟩, grownBy_setBlk _ _ _⟩
    · simp [Instr.mapUpdate, run_underlying ht, MapKept.run_getObj_map h1.blk, hK.check, g3, MapKept.run_setObj_map _ h1.blk, Result.andThen, setBlk, entOf]
    · rw [List.map_append, List.nodup_append]
      exact ⟨h1.keys, by simp, fun a ha c hc => by
        obtain ⟨x, hx, rfl⟩ := List.mem_map.1 ha
        simp at hc
        subst hc
        exact g2 x hx⟩
    · rw [List.map_append, List.nodup_append]
      exact ⟨h1.born, by simp, fun a ha c hc => by
        obtain ⟨x, hx, rfl⟩ := List.mem_map.1 ha
        simp at hc
        subst hc
        have := h1.old x hx
        omega⟩
    · intro x hx
      rw [List.mem_append] at hx
      rcases hx with hx | hx
      · have := h1.old x hx; omega
      · simp at hx; subst hx; simp
  · have hj : j < es.length := lt_of_at g1
    have hset : ((es.set j (k, v, e.2.2)).map (entOf kenc venc)) = (es.map (entOf kenc venc)).set j ⟨kenc k, venc v, e.2.2⟩ := by rw [List.map_set]; rfl
    refine ⟨setBlk w b (.map ((es.set j (k, v, e.2.2)).map (entOf kenc venc)).toArray clock), ?_, ⟨_, _, ⟨setBlk_at _ hlt, ?_, ?_, ?_⟩, fun k' => by rw [mget_set es j e (k, v, e.2.2) g1 g2.symm h1.keys, g2]⟩, grownBy_setBlk _ _ _⟩
    · have hm : (es.map (entOf kenc venc)).modify j (fun e => { key := kenc k, val := venc v, born := e.born }) = (es.map (entOf kenc venc)).set j { key := kenc k, val := venc v, born := e.2.2 } := by
        apply List.ext_getElem?
        intro i
        rw [List.getElem?_modify, List.getElem?_set]
        by_cases hi : j = i
        · subst hi
          have : (es.map (entOf kenc venc))[j]? = some (entOf kenc venc e) := by rw [List.getElem?_map, g1]; rfl
          rw [if_pos rfl, if_pos (by simpa using hj), this]
          simp [entOf]
        · simp [hi]
      simp [Instr.mapUpdate, run_underlying ht, MapKept.run_getObj_map h1.blk, hK.check, g4, g1, entOf, g2, Instr.keyThatStays, hK.bits, MapKept.run_setObj_map _ h1.blk, Result.andThen, setBlk]
      rw [hm]
    · rw [map_set_same (fun x : κ × ν × Nat => x.1) es j (k, v, e.2.2) e g1 g2.symm]; exact h1.keys
    · rw [map_set_same (fun x : κ × ν × Nat => x.2.2) es j (k, v, e.2.2) e g1 rfl]; exact h1.born
    · intro x hx
      have hx' : x.2.2 ∈ (es.set j (k, v, e.2.2)).map (fun x : κ × ν × Nat => x.2.2) := List.mem_map.2 ⟨x, hx, rfl⟩
      rw [map_set_same (fun x : κ × ν × Nat => x.2.2) es j (k, v, e.2.2) e g1 rfl] at hx'
      obtain ⟨y, hy, hxy⟩ := List.mem_map.1 hx'
      rw [← hxy]
      exact h1.old y hy

section
variable {ops : Array Oper} {rest : List Oper} {o : Oper} {a : Act} {Q : Exit → Act → World → Prop}
theorem wpList_lookS (hg : o.guard = none) (m x : Operand) (t : TypeId) (c : Bool) (hop : o.op = Op.lookup t m x c) {et : TypeId} (hK : KeyRun P kt kenc) (ht : P.underlying t = some (.map kt et)) {z : Value} (hz : (zeroValue et).run P w = .ok z w)
    {f : κ → Option ν} (h : MapF w b kenc venc f) (hm : a.eval m = .map (some b)) (k : κ) (hx : a.eval x = kenc k) (val : Value)
    (hval : (match f k with | none => if c then Value.tuple #[z, .bool false] else z | some v => if c then Value.tuple #[venc v, .bool true] else venc v) = val)
    (hN : wpList P ops Q rest (a.put o.dst val) w) : wpList P ops Q (o :: rest) a w := by
  refine wpList_plain hg fun K' hK' => ?_
  have hrun := run_lookup_atS hK ht hz h k c
  rw [hval] at hrun
  unfold Oper.wp
  simp [execOp, hop, hm, hx, hrun, Result.andThen]
  exact hK' _ _ hN
theorem wpList_mapPutS (hg : o.guard = none) (m x y : Operand) (t : TypeId) (hop : o.op = Op.mapUpdate t m x y ∨ o.op = Op.insert t m x y) {et : TypeId} (hK : KeyRun P kt kenc) (ht : P.underlying t = some (.map kt et))
    {f : κ → Option ν} (h : MapF w b kenc venc f) (hm : a.eval m = .map (some b)) (k : κ) (hx : a.eval x = kenc k) (v : ν) (hy : a.eval y = venc v)
    (hN : ∀ w', MapF w' b kenc venc (upd f k v) → w.grownBy w' (some b) → wpList P ops Q rest (a.put o.dst undef) w') : wpList P ops Q (o :: rest) a w := by
  refine wpList_plain hg fun K' hK' => ?_
  obtain ⟨w', hrun, h2, h3⟩ := run_mapUpdate_atS hK ht h k v
  unfold Oper.wp
  rcases hop with hop | hop
  all_goals
    simp [execOp, hop, hm, hx, hy, hrun, Result.andThen]
    exact hK' _ _ (hN w' h2 h3)
end
end
end
end Go.Proofs.YtngodakkdhdmjaaGreatDoor
