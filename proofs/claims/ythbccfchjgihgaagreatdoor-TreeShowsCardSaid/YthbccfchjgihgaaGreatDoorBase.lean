/- Words for memory of my own: how a slice, a struct and what a call made read as Lean data. No function of the program is in it. -/
import Derived.Test.YthbccfchjgihgaaGreatDoorProg
import Derived.WalkKit
import Derived.WalkSpells
import Derived.WalkLawsBesides
import Derived.Lib.Hide
import Derived.LoopTactic
import Derived.Handy
import Derived.BigGuardPart
import Derived.Deep.QuietTactic
import Derived.BigQuiet
import Derived.Deep.RegionHeld3
import Derived.Deep.DeepFit
import Derived.Deep.DeepCutAuto
import Derived.Deep.LoopGhost
import Derived.Maps.AppendAt
namespace Go.Proofs.YthbccfchjgihgaaGreatDoor
open Go.RowKit

/-- old cells and old marks read as before, in the form that the walk takes for rules -/
theorem bcell {B : Nat} {W w1 : World} (hb : Below B W w1) : (∀ b o, b < B → w1.cell? ⟨b, o, none⟩ = W.cell? ⟨b, o, none⟩) ∧ (∀ b o, b < B → w1.frozen? ⟨b, o, none⟩ = W.frozen? ⟨b, o, none⟩) :=
  ⟨fun b o h => hb.cell (p := ⟨b, o, none⟩) h, fun b o h => hb.frozen (p := ⟨b, o, none⟩) h⟩
theorem below_drewN {B : Nat} {a w : World} (h : Below B a w) (n : Nat) : Below B a (w.drewN n) := ⟨h.os, h.tape, h.output, h.size, h.block⟩

theorem ret_int {k : IntKind} {a b : Int} (h : a = b) : Ending.returned (.int k a) = .returned (.int k b) := by rw [h]
theorem ret_bool {a b : Bool} (h : a = b) : Ending.returned (.bool a) = .returned (.bool b) := by rw [h]
theorem ret_val {a b : Value} (h : a = b) : Ending.returned a = .returned b := by rw [h]

/-- the walk stands still here: an arm 'refine stop_intro ?_' ends it, 'refine stop_elim ?_' goes on by hand -/
def Stop (p : Prop) : Prop := p
theorem stop_intro {p : Prop} (h : Stop p) : p := h
theorem stop_elim {p : Prop} (h : p) : Stop p := h

/-- How the cells of one datum read, in a world, with all that it reaches in the blocks of F. -/
abbrev CRep (α : Type) := World → (Nat → Prop) → α → List Value → Prop

/-- A datum of k cells, each one value; it is kept where the blocks of F are kept. -/
structure Shape {α : Type} (k : Nat) (R : CRep α) : Prop where
  frame : ∀ {w w' : World} {F : Nat → Prop} {x : α} {cs : List Value}, (∀ b, F b → w'.heap[b]? = w.heap[b]?) → R w F x cs → R w' F x cs
  mono : ∀ {w : World} {F F' : Nat → Prop} {x : α} {cs : List Value}, (∀ b, F b → F' b) → R w F x cs → R w F' x cs
  len : ∀ {w : World} {F : Nat → Prop} {x : α} {cs : List Value}, R w F x cs → cs.length = k
  one : ∀ {w : World} {F : Nat → Prop} {x : α} {cs : List Value}, R w F x cs → ∀ u ∈ cs, u.oneCell' = true

/-- a slice value that reads as a list -/
def SlRep {α : Type} (k : Nat) (R : CRep α) (w : World) (F : Nat → Prop) (xs : List α) (v : Value) : Prop :=
  ∃ A c, v = .slice A xs.length c ∧ xs.length ≤ c ∧ c ≤ 9223372036854775807 ∧
    ∀ (i : Nat) x, xs[i]? = some x → ∃ b off cs, A = some ⟨b, off, none⟩ ∧ F b ∧ R w F x cs ∧
      ∀ j u, cs[j]? = some u → w.cell? ⟨b, off + i * k + j, none⟩ = some u

section
variable {α : Type} {k : Nat} {R : CRep α} {w w' : World} {B B' : Nat} {F F' : Nat → Prop} {xs : List α} {v : Value}

theorem SlRep.frame (hR : Shape k R) (hf : ∀ b, F b → w'.heap[b]? = w.heap[b]?) (h : SlRep k R w F xs v) : SlRep k R w' F xs v := by
  obtain ⟨A, c, e, h1, h2, h3⟩ := h
  refine ⟨A, c, e, h1, h2, fun i x hx => ?_⟩
  obtain ⟨b, off, cs, hA, hlt, hr, hc⟩ := h3 i x hx
  exact ⟨b, off, cs, hA, hlt, hR.frame hf hr, fun j u hu => (World.cell?_of_block (a := ⟨b, _, none⟩) (hf b hlt)).trans (hc j u hu)⟩
theorem SlRep.monoF (hR : Shape k R) (hf : ∀ b, F b → F' b) (h : SlRep k R w F xs v) : SlRep k R w F' xs v := by
  obtain ⟨A, c, e, h1, h2, h3⟩ := h
  refine ⟨A, c, e, h1, h2, fun i x hx => ?_⟩
  obtain ⟨b, off, cs, hA, hlt, hr, hc⟩ := h3 i x hx
  exact ⟨b, off, cs, hA, hf b hlt, hR.mono hf hr, hc⟩
theorem SlRep.below (hR : Shape k R) (hb : Below B w w') (h : SlRep k R w (fun b => b < B) xs v) : SlRep k R w' (fun b => b < B) xs v := h.frame hR fun b hlt => hb.block b hlt
theorem SlRep.mono (hR : Shape k R) (hB : B ≤ B') (h : SlRep k R w (fun b => b < B) xs v) : SlRep k R w (fun b => b < B') xs v := h.monoF hR fun b (hlt : b < B) => (Nat.lt_of_lt_of_le hlt hB : b < B')
theorem SlRep.nil_ : SlRep k R w F [] (.slice none 0 0) := ⟨none, 0, rfl, by simp, by omega, fun i x hx => by simp at hx⟩
theorem SlRep.len_ {A : Option Addr} {n c : Nat} (h : SlRep k R w F xs (.slice A n c)) : n = xs.length ∧ n ≤ c ∧ c ≤ 9223372036854775807 := by
  obtain ⟨A', c', e, h1, h2, _⟩ := h
  injection e with _ e2 e3
  subst e2 e3
  exact ⟨rfl, h1, h2⟩
/-- the cells of all elements, one behind the other -/
theorem SlRep.cells (hR : Shape k R) {A : Option Addr} {n c : Nat} (h : SlRep k R w F xs (.slice A n c)) :
    ∃ css : List (List Value), css.length = xs.length ∧ (∀ (i : Nat) x cs, xs[i]? = some x → css[i]? = some cs → R w F x cs) ∧
      ∀ ad, A = some ad → ∀ j u, css.flatten[j]? = some u → w.cell? (ad.add j) = some u := by
  obtain ⟨A', c', e, h1, h2, h3⟩ := h
  injection e with e1 e2 e3
  subst e1 e2 e3
  clear h1 h2
  have hsome : ∀ (i : Nat) x, xs[i]? = some x → ∃ cs, R w F x cs ∧ ∀ ad, A = some ad → ∀ j u, cs[j]? = some u → w.cell? (ad.add (i * k + j)) = some u := by
    intro i x hx
    obtain ⟨b, off, cs, rfl, _, hr, hc⟩ := h3 i x hx
    refine ⟨cs, hr, fun ad had j u hu => ?_⟩
    injection had with had
    subst had
    have hadd : (⟨b, off, none⟩ : Addr).add (i * k + j) = ⟨b, off + i * k + j, none⟩ := by
      unfold Addr.add
      split
      · rename_i h0; rw [show off + i * k + j = off by omega]
      · rw [Nat.add_assoc]
    rw [hadd]
    exact hc j u hu
  clear h3
  have gen : ∀ (ys : List α) (s : Nat), (∀ (i : Nat) x, ys[i]? = some x → ∃ cs, R w F x cs ∧ ∀ ad, A = some ad → ∀ j u, cs[j]? = some u → w.cell? (ad.add ((s + i) * k + j)) = some u) →
      ∃ css : List (List Value), css.length = ys.length ∧ (∀ (i : Nat) x cs, ys[i]? = some x → css[i]? = some cs → R w F x cs) ∧ ∀ ad, A = some ad → ∀ j u, css.flatten[j]? = some u → w.cell? (ad.add (s * k + j)) = some u := by
    intro ys
    induction ys with
    | nil => exact fun s _ => ⟨[], rfl, fun i x cs hx => by simp at hx, fun ad _ j u hu => by simp at hu⟩
    | cons y ys ih =>
      intro s hy
      obtain ⟨cs0, hr0, hc0⟩ := hy 0 y rfl
      obtain ⟨css, hl, hr, hc⟩ := ih (s + 1) fun i x hx => by
        obtain ⟨cs, h1, h2⟩ := hy (i + 1) x (by simpa using hx)
        exact ⟨cs, h1, fun ad had j u hu => by rw [show (s + 1 + i) = s + (i + 1) by omega]; exact h2 ad had j u hu⟩
      refine ⟨cs0 :: css, by simp [hl], fun i x cs hx hcs => ?_, fun ad had j u hu => ?_⟩
      · rcases i with _ | i
        · simp at hx hcs; subst hx hcs; exact hr0
        · exact hr i x cs (by simpa using hx) (by simpa using hcs)
      · rw [List.flatten_cons] at hu
        have hk := hR.len hr0
        by_cases hj : j < cs0.length
        · rw [List.getElem?_append_left hj] at hu
          simpa using hc0 ad had j u hu
        · rw [List.getElem?_append_right (by omega)] at hu
          have := hc ad had (j - cs0.length) u hu
          rw [show (s + 1) * k + (j - cs0.length) = s * k + j by rw [hk, Nat.add_mul]; omega] at this
          exact this
  obtain ⟨css, h1, h2, h3⟩ := gen xs 0 (fun i x hx => by simpa using hsome i x hx)
  exact ⟨css, h1, h2, fun ad had j u hu => by simpa using h3 ad had j u hu⟩
theorem flatten_len (hR : Shape k R) : ∀ {xs : List α} {css : List (List Value)}, css.length = xs.length → (∀ (i : Nat) x cs, xs[i]? = some x → css[i]? = some cs → R w F x cs) → css.flatten.length = xs.length * k
  | [], [], _, _ => by simp
  | x :: xs, cs :: css, hl, h => by
    have h0 := hR.len (h 0 x cs rfl rfl)
    have h1 := flatten_len hR (xs := xs) (css := css) (by simpa using hl) fun i y ds hy hd => h (i + 1) y ds (by simpa using hy) (by simpa using hd)
    rw [List.flatten_cons, List.length_append, h0, h1, List.length_cons, Nat.add_mul]; omega
theorem flatten_one (hR : Shape k R) : ∀ {xs : List α} {css : List (List Value)}, css.length = xs.length → (∀ (i : Nat) x cs, xs[i]? = some x → css[i]? = some cs → R w F x cs) → ∀ u ∈ css.flatten, u.oneCell' = true
  | [], [], _, _ => by simp
  | x :: xs, cs :: css, hl, h => by
    have h1 := flatten_one hR (xs := xs) (css := css) (by simpa using hl) fun i y ds hy hd => h (i + 1) y ds (by simpa using hy) (by simpa using hd)
    intro u hu
    rw [List.flatten_cons, List.mem_append] at hu
    rcases hu with hu | hu
    · exact hR.one (h 0 x cs rfl rfl) u hu
    · exact h1 u hu
theorem flatten_at (hR : Shape k R) : ∀ {xs : List α} {css : List (List Value)}, css.length = xs.length → (∀ (i : Nat) x cs, xs[i]? = some x → css[i]? = some cs → R w F x cs) → ∀ (i : Nat) x cs (j : Nat) u, xs[i]? = some x → css[i]? = some cs → cs[j]? = some u → css.flatten[i * k + j]? = some u
  | [], [], _, _ => fun i x cs j u hx => by simp at hx
  | x :: xs, cs :: css, hl, h => by
    have h0 := hR.len (h 0 x cs rfl rfl)
    have h1 := flatten_at hR (xs := xs) (css := css) (by simpa using hl) fun i y ds hy hd => h (i + 1) y ds (by simpa using hy) (by simpa using hd)
    intro i y ds j u hy hd hu
    rcases i with _ | i
    · simp at hd; subst hd
      have : j < cs.length := (List.getElem?_eq_some_iff.1 hu).1
      rw [List.flatten_cons, Nat.zero_mul, Nat.zero_add, List.getElem?_append_left this]; exact hu
    · rw [List.flatten_cons, List.getElem?_append_right (by rw [h0, Nat.add_mul]; omega), show (i + 1) * k + j - cs.length = i * k + j by rw [h0, Nat.add_mul]; omega]
      exact h1 i y ds j u (by simpa using hy) (by simpa using hd) hu

/-- a slice of the call's own (or nil) that reads as a list, the memory of its elements elsewhere -/
def OwnRep {α : Type} (k : Nat) (R : CRep α) (e : TypeId) (base : Nat) (w : World) (xs : List α) (v : Value) : Prop :=
  ∃ css : List (List Value), css.length = xs.length ∧ (∀ (i : Nat) x cs, xs[i]? = some x → css[i]? = some cs → R w (fun b => b < w.heap.size ∧ v.ownBlock ≠ some b) x cs) ∧ w.ownsRow base e k v xs.length css.flatten

theorem OwnRep.nil_ {e : TypeId} {base : Nat} : OwnRep k R e base w ([] : List α) (.slice none 0 0) := ⟨[], rfl, fun i x cs hx => by simp at hx, ⟨by simp, .inl ⟨rfl, rfl⟩⟩⟩
theorem OwnRep.toSl (hR : Shape k R) {e : TypeId} {base : Nat} (h : OwnRep k R e base w xs v) : SlRep k R w (fun b => b < w.heap.size) xs v := by
  obtain ⟨css, hl, hr, hown⟩ := h
  rcases hown.2 with ⟨rfl, h0⟩ | ⟨g, cap, cur, rfl, hbg, hg, hcap, hm, hs, ht⟩
  · obtain rfl : xs = [] := List.eq_nil_of_length_eq_zero h0
    exact SlRep.nil_
  · have hlt : g < w.heap.size := (hown.lt g rfl).2
    refine ⟨_, cap, rfl, hcap, by unfold maxLen at hm; omega, fun i x hx => ?_⟩
    have hi : i < css.length := by rw [hl]; exact (List.getElem?_eq_some_iff.1 hx).1
    have hcs : css[i]? = some css[i] := List.getElem?_eq_getElem hi
    refine ⟨g, 0, css[i], rfl, hlt, hR.mono (fun b hb => hb.1) (hr i x _ hx hcs), fun j u hu => ?_⟩
    have h1 := hown.cells (g := g) rfl (i * k + j) u (flatten_at hR hl hr i x _ j u hx hcs hu)
    have hadd : (⟨g, 0, none⟩ : Addr).add (i * k + j) = ⟨g, 0 + i * k + j, none⟩ := by
      unfold Addr.add
      split
      · rename_i h0; rw [show 0 + i * k + j = 0 by omega]
      · rw [Nat.add_assoc]
    rwa [hadd] at h1
theorem ownsRow_frame {base : Nat} {e : TypeId} {n : Nat} {l : List Value} (h : w.ownsRow base e k v n l) (hf : ∀ b, v.ownBlock = some b → w'.heap[b]? = w.heap[b]?) : w'.ownsRow base e k v n l := by
  refine ⟨h.1, ?_⟩
  rcases h.2 with h0 | ⟨g, cap, cur, rfl, hbg, hg, hcap, hm, hs, ht⟩
  · exact .inl h0
  · exact .inr ⟨g, cap, cur, rfl, hbg, (hf g rfl).trans hg, hcap, hm, hs, ht⟩
theorem OwnRep.below (hR : Shape k R) {e : TypeId} {base : Nat} (hb : Below w.heap.size w w') (h : OwnRep k R e base w xs v) : OwnRep k R e base w' xs v := by
  obtain ⟨css, hl, hr, hown⟩ := h
  refine ⟨css, hl, fun i x cs hx hcs => ?_, ownsRow_frame hown fun b hv => hb.block b (hown.lt b hv).2⟩
  exact hR.mono (fun b hb' => ⟨Nat.lt_of_lt_of_le hb'.1 hb.size, hb'.2⟩) (hR.frame (fun b hb' => hb.block b hb'.1) (hr i x cs hx hcs))
theorem OwnRep.own_lt {e : TypeId} {base : Nat} (h : OwnRep k R e base w xs v) : ∀ b, v.ownBlock = some b → base ≤ b ∧ b < w.heap.size := h.choose_spec.2.2.lt

/-- '[]T{}': a new row without a cell -/
theorem OwnRep.empty_new {e : TypeId} {base g : Nat} (hg : w.heap.size = g) (hb : base ≤ w.heap.size) : OwnRep k R e base (w.alloc (.cells #[] e)) ([] : List α) (.slice (some ⟨g, 0, none⟩) 0 0) := by
  subst hg
  exact ⟨[], rfl, fun i x cs hx => by simp at hx, ⟨by simp, .inr ⟨w.heap.size, 0, #[], rfl, hb, by show (w.heap.push _)[w.heap.size]? = _; simp, Nat.le_refl _, by unfold maxLen; omega, by simp, by simp⟩⟩⟩

/-- the facts on a slice type and its element's type -/
structure Elem (P : Program) (t e : TypeId) (k bytes : Nat) : Prop where
  und : P.underlying t = some (.slice e)
  info : ∃ i z, P.info? e = some i ∧ i.zero = some z ∧ i.size = k ∧ i.bytes = bytes ∧ z.cells.size = k
  pos : 0 < k

theorem run_append_nilsrc {P : Program} (base : Nat) (t ty e : TypeId) (i : TypeInfo) (ht : P.underlying t = some (.slice e)) (hi : P.info? e = some i)
    (v : Value) (n : Nat) (l : List Value) (hown : w.ownsRow base e k v n l) (c : Nat) : (Builtin.append_ #[t, t] ty #[v, .slice none 0 c]).run P w = .ok v w := by
  rcases hown.2 with ⟨rfl, rfl⟩ | ⟨g, cap, cur, rfl, _, _, hnc, _⟩
  · simp [Builtin.append_, run_underlying ht, sizeOf, typeInfo, hi, Builtin.lenOf, Builtin.firstCells]
  · simp [Builtin.append_, run_underlying ht, sizeOf, typeInfo, hi, Builtin.lenOf, Builtin.firstCells, hnc, storeCells]

/-- append(dst, src...): dst the call's own, src whatever reads as a list, nil or not -/
theorem run_append_rep {P : Program} (hR : Shape k R) {t e : TypeId} {bytes : Nat} (hE : Elem P t e k bytes) (base : Nat) (ty : TypeId) {ys : List α}
    (hown : OwnRep k R e base w xs v) {A : Option Addr} {m c : Nat} (hsrc : SlRep k R w F ys (.slice A m c)) (hF : ∀ b, F b → b < w.heap.size ∧ v.ownBlock ≠ some b)
    (hn : xs.length + ys.length ≤ 4294967296) (hby : bytes ≤ 4096) (hbase : base ≤ w.heap.size) :
    ∃ v' w', (Builtin.append_ #[t, t] ty #[v, .slice A m c]).run P w = .ok v' w' ∧ OwnRep k R e base w' (xs ++ ys) v' ∧ w.grownBy w' v.ownBlock ∧ (v'.ownBlock = v.ownBlock ∨ v'.ownBlock = some w.heap.size) := by
  obtain ⟨i, z, hi, hz, hsz, hbyt, hzs⟩ := hE.info
  obtain ⟨rfl, hmc, hc⟩ := hsrc.len_
  obtain ⟨dss, dl, dr, dc⟩ := hsrc.cells hR
  obtain ⟨css, hl, hr, hrow⟩ := id hown
  have fin : ∀ v' w', w'.ownsRow base e k v' (xs.length + ys.length) (css.flatten ++ dss.flatten) → w.grownBy w' v.ownBlock → (v'.ownBlock = v.ownBlock ∨ v'.ownBlock = some w.heap.size) → OwnRep k R e base w' (xs ++ ys) v' := by
    intro v' w' h1 h2 h3
    have hstep : ∀ b, (b < w.heap.size ∧ v.ownBlock ≠ some b) → (b < w'.heap.size ∧ v'.ownBlock ≠ some b) := fun b hb => ⟨Nat.lt_of_lt_of_le hb.1 h2.size, by
      rcases h3 with h3 | h3 <;> rw [h3]
      · exact hb.2
      · intro he; injection he with he; omega⟩
    have hkeep : ∀ b, (b < w.heap.size ∧ v.ownBlock ≠ some b) → w'.heap[b]? = w.heap[b]? := fun b hb => h2.block b hb.1 fun he => hb.2 he.symm
    refine ⟨css ++ dss, by simp [hl, dl], fun j x cs hx hcs => ?_, by simpa using h1⟩
    by_cases hj : j < xs.length
    · rw [List.getElem?_append_left hj] at hx
      rw [List.getElem?_append_left (by omega)] at hcs
      exact hR.mono hstep (hR.frame hkeep (hr j x cs hx hcs))
    · rw [List.getElem?_append_right (by omega)] at hx
      rw [List.getElem?_append_right (by omega), hl] at hcs
      exact hR.mono hstep (hR.frame hkeep (hR.mono hF (dr _ x cs hx hcs)))
  rcases A with _ | ad
  · have hy : ys = [] := by
      rcases ys with _ | ⟨y, ys⟩
      · rfl
      · obtain ⟨A', c', e', _, _, h3⟩ := hsrc
        obtain ⟨_, _, _, hA, _⟩ := h3 0 y rfl
        injection e' with e1
        rw [← e1] at hA
        cases hA
    subst hy
    obtain rfl : dss = [] := List.eq_nil_of_length_eq_zero (by simpa using dl)
    exact ⟨v, w, run_append_nilsrc base t ty e i hE.und hi v _ _ hrow c, by simpa using hown, World.grownBy.refl w _, .inl rfl⟩
  · have hb : (xs.length + ys.length) * bytes ≤ 140737488355328 := by
      have := Nat.mul_le_mul hn hby
      omega
    obtain ⟨v', w', hrun, h2, h3, _, h5⟩ := run_append_own_at (P := P) w base t ty e i z k bytes hE.und hi hz hsz hbyt hzs hE.pos v xs.length css.flatten hrow ad ys.length c dss.flatten (flatten_len hR dl dr) (dc ad rfl) (flatten_one hR dl dr) (by unfold maxLen; omega) hb hbase
    exact ⟨v', w', hrun, fin v' w' h2 h3 h5, h3, h5⟩

theorem wp_append_rep {P : Program} {o : Oper} {a : Act} {K : Act → World → Prop} {Q : Exit → Act → World → Prop} (hR : Shape k R) {t e : TypeId} {bytes : Nat} (hE : Elem P t e k bytes) (base : Nat) (s x : Operand)
    (ho : o.op = .call { callee := .builtin .append, args := #[s, x], argTypes := #[t, t] }) {ys : List α}
    (hs : a.eval s = v) (hown : OwnRep k R e base w xs v) {A : Option Addr} {m c : Nat} (hx : a.eval x = .slice A m c) (hsrc : SlRep k R w F ys (.slice A m c)) (hF : ∀ b, F b → b < w.heap.size ∧ v.ownBlock ≠ some b)
    (hn : xs.length + ys.length ≤ 4294967296) (hby : bytes ≤ 4096) (hbase : base ≤ w.heap.size)
    (h : ∀ v' w', OwnRep k R e base w' (xs ++ ys) v' → w.grownBy w' v.ownBlock → (v'.ownBlock = v.ownBlock ∨ v'.ownBlock = some w.heap.size) → K (a.put o.dst v') w') : o.wp P a w K Q := by
  obtain ⟨v', w', hrun, h2, h3, h4⟩ := run_append_rep (P := P) hR hE base o.type hown hsrc hF hn hby hbase
  unfold Oper.wp execOp
  simp only [ho, resolve, invoke, builtin, Sem.run_bind, Sem.run_pure, Result.andThen_ok, List.map_toArray, List.map_cons, List.map_nil, hs, hx, hrun]
  exact h v' w' h2 h3 h4
theorem wpList_append_rep {P : Program} {ops : Array Oper} {rest : List Oper} {o : Oper} {a : Act} {Q : Exit → Act → World → Prop} (hgd : o.guard = none) (hR : Shape k R) {t e : TypeId} {bytes : Nat} (hE : Elem P t e k bytes) (base : Nat) (s x : Operand)
    (ho : o.op = .call { callee := .builtin .append, args := #[s, x], argTypes := #[t, t] }) {ys : List α}
    (hs : a.eval s = v) (hown : OwnRep k R e base w xs v) {A : Option Addr} {m c : Nat} (hx : a.eval x = .slice A m c) (hsrc : SlRep k R w F ys (.slice A m c)) (hF : ∀ b, F b → b < w.heap.size ∧ v.ownBlock ≠ some b)
    (hn : xs.length + ys.length ≤ 4294967296) (hby : bytes ≤ 4096) (hbase : base ≤ w.heap.size)
    (h : ∀ v' w', OwnRep k R e base w' (xs ++ ys) v' → w.grownBy w' v.ownBlock → (v'.ownBlock = v.ownBlock ∨ v'.ownBlock = some w.heap.size) → wpList P ops Q rest (a.put o.dst v') w') : wpList P ops Q (o :: rest) a w :=
  wpList_plain hgd fun _ hK => wp_append_rep hR hE base s x ho hs hown hx hsrc hF hn hby hbase fun v' w' h2 h3 h4 => hK _ _ (h v' w' h2 h3 h4)
/-- what 'append(s, x)' lays first: the one element in a block of its own -/
theorem SlRep.one_new (hR : Shape k R) {x : α} {cs : List Value} {t : TypeId} {g : Nat} (hg : w.heap.size = g) (h : R w F x cs) (hF : ∀ b, F b → b < w.heap.size) :
    SlRep k R (w.alloc (.cells cs.toArray t)) (fun b => F b ∨ b = g) [x] (.slice (some ⟨g, 0, none⟩) 1 1) := by
  subst hg
  refine ⟨_, 1, rfl, by simp, by omega, fun i y hy => ?_⟩
  obtain rfl : i = 0 := by
    have := (List.getElem?_eq_some_iff.1 hy).1
    simp at this; omega
  simp at hy
  subst hy
  refine ⟨w.heap.size, 0, cs, rfl, .inr rfl, hR.mono (fun b hb => .inl hb) (hR.frame (fun b hb => Below.heap_alloc _ _ _ (hF b hb)) h), fun j u hu => ?_⟩
  simp [hu]
theorem OwnRep.alloc (hR : Shape k R) {e : TypeId} {base : Nat} (h : OwnRep k R e base w xs v) (o : Obj) : OwnRep k R e base (w.alloc o) xs v := h.below hR ((Below.refl _ _).alloc (Nat.le_refl _) _)
end

/-- the datum stands in its cells alone -/
def flat {α : Type} (enc : α → List Value) : CRep α := fun _ _ x cs => cs = enc x
theorem flat_shape {α : Type} (k : Nat) (enc : α → List Value) (hl : ∀ x, (enc x).length = k) (h1 : ∀ x, ∀ u ∈ enc x, u.oneCell' = true) : Shape k (flat enc) :=
  ⟨fun _ h => h, fun _ h => h, fun h => by rw [h, hl], fun h => by rw [h]; exact h1 _⟩

/-- a row of the call's own whose elements stand in their cells alone lies in its own block -/
theorem OwnRep.toFlat {α : Type} {k : Nat} {enc : α → List Value} (hR : Shape k (flat enc)) {e : TypeId} {base : Nat} {w : World} {xs : List α} {v : Value} (h : OwnRep k (flat enc) e base w xs v) : SlRep k (flat enc) w (fun b => v.ownBlock = some b) xs v := by
  have hlt := h.own_lt
  obtain ⟨A, c, rfl, h1, h2, h3⟩ := h.toSl hR
  refine ⟨A, c, rfl, h1, h2, fun i x hx => ?_⟩
  obtain ⟨b, off, cs, rfl, _, hr, hc⟩ := h3 i x hx
  exact ⟨b, off, cs, rfl, rfl, hr, hc⟩

/-- a list read one element further -/
theorem drop_at {α : Type} {xs : List α} {i : Nat} {x : α} (h : xs[i]? = some x) : xs.drop i = x :: xs.drop (i + 1) := by
  obtain ⟨h1, h2⟩ := List.getElem?_eq_some_iff.1 h
  rw [List.drop_eq_getElem_cons h1, h2]
theorem get_at {α : Type} (xs : List α) {i : Nat} (h : i < xs.length) : ∃ x, xs[i]? = some x := ⟨xs[i], List.getElem?_eq_getElem h⟩
theorem lt_of_at {α : Type} {xs : List α} {i : Nat} {x : α} (h : xs[i]? = some x) : i < xs.length := (List.getElem?_eq_some_iff.1 h).1
theorem take_at {α : Type} {xs : List α} {i : Nat} {x : α} (h : xs[i]? = some x) : xs.take (i + 1) = xs.take i ++ [x] := by
  obtain ⟨h1, h2⟩ := List.getElem?_eq_some_iff.1 h
  rw [List.take_succ_eq_append_getElem h1, h2]
theorem str_eq (s t : ByteArray) : (s.toList == t.toList) = decide (s = t) := by
  rw [ByteArray.toList_eq, ByteArray.toList_eq, Bool.eq_iff_iff, beq_iff_eq, decide_eq_true_iff]
  exact ⟨fun h => WideShapes.bytes_inj h, fun h => by rw [h]⟩
theorem str_iff (s t : ByteArray) : s.toList = t.toList ↔ s = t := by
  rw [ByteArray.toList_eq, ByteArray.toList_eq]
  exact ⟨fun h => WideShapes.bytes_inj h, fun h => by rw [h]⟩
theorem str_empty (s : ByteArray) : s.toList.isEmpty = decide (s.size = 0) := by
  rw [ByteArray.toList_eq, Bool.eq_iff_iff, decide_eq_true_iff, List.isEmpty_iff]
  constructor
  · intro h
    have := congrArg List.length h
    simpa using this
  · intro h
    exact List.eq_nil_of_length_eq_zero (by simpa using h)

end Go.Proofs.YthbccfchjgihgaaGreatDoor
