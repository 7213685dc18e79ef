/- Two rows of the call's own that grow side by side: the elements of the first one may have memory, those of the second one stand in their cells alone. -/
import Derived.Test.YthbccfchjgihgaaGreatDoorStep
import Derived.Test.YthbccfchjgihgaaGreatDoorBase
import Derived.Test.YthbccfchjgihgaaGreatDoorOwn
namespace Go.Proofs.YthbccfchjgihgaaGreatDoor
open Go.RowKit
section
variable {α : Type} {k : Nat} {R : CRep α} {w w' : World} {F : Nat → Prop} {xs ys : List α} {v v' : Value}
theorem append_new {P : Program} (hR : Shape k R) {t e ty : TypeId} {bytes : Nat} (hE : Elem P t e k bytes) {base : Nat}
    (hown : OwnRep k R e base w xs v) {A : Option Addr} {m c : Nat} (hsrc : SlRep k R w F ys (.slice A m c)) (hn : xs.length + ys.length ≤ 4294967296) (hby : bytes ≤ 4096)
    (hrun : (Builtin.append_ #[t, t] ty #[v, .slice A m c]).run P w = .ok v' w') (hg : w.grownBy w' v.ownBlock) (hv : v'.ownBlock = some w.heap.size) : ∀ b, b < w.heap.size → w'.heap[b]? = w.heap[b]? := by
  obtain ⟨i, z, hi, hz, hsz, hbyt, hzs⟩ := hE.info
  obtain ⟨rfl, hmc, hc⟩ := hsrc.len_
  obtain ⟨dss, dl, dr, dc⟩ := hsrc.cells hR
  have hlt := hown.own_lt
  obtain ⟨css, hl, hr, hrow⟩ := id hown
  rcases hrow.2 with ⟨rfl, h0⟩ | ⟨g, cap, cur, rfl, hbg, hgg, hcap, hm, hs, ht⟩
  · exact fun b hb => hg.block b hb (fun e => by cases e)
  · rcases A with _ | ad
    · have hy : ys.length = 0 := by
        rcases ys with _ | ⟨y, ys⟩
        · rfl
        · obtain ⟨A', c', e', _, _, h3⟩ := hsrc
          obtain ⟨_, _, _, hA, _⟩ := h3 0 y rfl
          injection e' with e1
          rw [← e1] at hA
          cases hA
      rw [hy, run_append_nilsrc base t ty e i hE.und hi _ _ _ hrow c] at hrun
      injection hrun with e1 e2
      subst e1 e2
      exact fun _ _ => rfl
    · by_cases hroom : xs.length + ys.length ≤ cap
      · have hfl := flatten_len hR dl dr
        have hk : xs.length * i.size + dss.flatten.length ≤ cur.size := by
          rw [hfl, hs, ← hsz, ← Nat.add_mul]
          exact Nat.mul_le_mul_right _ hroom
        rw [run_append_room (P := P) w t ty e i hE.und hi g xs.length cap cur hgg ad ys.length c dss.flatten (by rw [hfl, hsz]) (dc ad rfl) (flatten_one hR dl dr) hroom hk] at hrun
        injection hrun with e1 e2
        subst e1
        have e3 : some g = some w.heap.size := hv
        injection e3 with e3
        have := (hlt g rfl).2
        omega
      · have hb : (xs.length + ys.length) * i.bytes ≤ 140737488355328 := by
          rw [hbyt]
          have := Nat.mul_le_mul hn hby
          omega
        rw [run_append_grow (P := P) w t ty e i z hE.und hi hz ⟨g, 0, none⟩ xs.length cap css.flatten (by rw [hsz]; exact hrow.1) (hrow.cells (g := g) rfl) ad ys.length c dss.flatten (by rw [hsz]; exact flatten_len hR dl dr) (dc ad rfl) (by omega) (by omega) (growslice_fits (by omega) hb)] at hrun
        injection hrun with e1 e2
        subst e2
        exact fun b hb => Below.heap_alloc w.drew _ b hb
theorem step_append_keep {P : Program} {ops : Array Oper} {o : Oper} {a : Act} {K : Act → World → Prop} {Q : Exit → Act → World → Prop} {E : Prop} (hgd : o.guard = none) (hR : Shape k R) {t e : TypeId} {bytes : Nat} (hE : Elem P t e k bytes) (base : Nat) (s x : Operand)
    (ho : o.op = .call { callee := .builtin .append, args := #[s, x], argTypes := #[t, t] })
    (hs : a.eval s = v) (hown : OwnRep k R e base w xs v) {A : Option Addr} {m c : Nat} (hx : a.eval x = .slice A m c) (hsrc : SlRep k R w F ys (.slice A m c)) (hF : ∀ b, F b → b < w.heap.size ∧ v.ownBlock ≠ some b)
    (hn : xs.length + ys.length ≤ 4294967296) (hby : bytes ≤ 4096) (hbase : base ≤ w.heap.size)
    (h : ∀ v' w', OwnRep k R e base w' (xs ++ ys) v' → w.grownBy w' v.ownBlock → (v'.ownBlock = v.ownBlock ∨ v'.ownBlock = some w.heap.size) → (v'.ownBlock = some w.heap.size → ∀ b, b < w.heap.size → w'.heap[b]? = w.heap[b]?) → K (a.put o.dst v') w') :
    if Region.wanted o (yielded ops a.tmps) = true then Oper.wp P o a w K Q else E := by
  have hw : Region.wanted o (yielded ops a.tmps) = true := by simp [Region.wanted, hgd]
  rw [if_pos hw]
  obtain ⟨v', w', hrun, h2, h3, h4⟩ := run_append_rep (P := P) hR hE base o.type hown hsrc hF hn hby hbase
  unfold Oper.wp execOp
  simp only [ho, resolve, invoke, builtin, Sem.run_bind, Sem.run_pure, Result.andThen_ok, List.map_toArray, List.map_cons, List.map_nil, hs, hx, hrun]
  exact h v' w' h2 h3 h4 (append_new hR hE hown hsrc hn hby hrun h3)
end
open Go.RowKit

/-- a slice value that reads as a list, in blocks from lo on and ahead of hi, all of them there -/
def Bnd {α : Type} (k : Nat) (R : CRep α) (w : World) (lo hi : Nat) (xs : List α) (v : Value) : Prop := SlRep k R w (fun b => lo ≤ b ∧ b < hi) xs v ∧ hi ≤ w.heap.size
section
variable {α : Type} {k : Nat} {R : CRep α} {W W' : World} {lo hi n : Nat} {xs : List α} {v : Value}
theorem Bnd.of (h : SlRep k R W (fun b => b < W.heap.size) xs v) (hR : Shape k R) : Bnd k R W 0 W.heap.size xs v := ⟨h.monoF hR (fun _ hb => ⟨Nat.zero_le _, hb⟩), Nat.le_refl _⟩
theorem Bnd.ofB (h : SlRep k R W (fun b => b < n) xs v) (hR : Shape k R) (hn : n ≤ W.heap.size) : Bnd k R W 0 n xs v := ⟨h.monoF hR (fun _ hb => ⟨Nat.zero_le _, hb⟩), hn⟩
theorem Bnd.own {enc : α → List Value} {e : TypeId} (h : OwnRep k (flat enc) e n W xs v) (hR : Shape k (flat enc)) : Bnd k (flat enc) W n W.heap.size xs v := ⟨(h.toFlat hR).monoF hR (fun b hb => h.own_lt b hb), Nat.le_refl _⟩
theorem Bnd.call (h : Bnd k R W lo hi xs v) (hR : Shape k R) (hb : Below W.heap.size W W') : Bnd k R W' lo hi xs v :=
  ⟨h.1.frame hR (fun b hl => hb.block b (Nat.lt_of_lt_of_le hl.2 h.2)), Nat.le_trans h.2 hb.size⟩
theorem Bnd.alloc (h : Bnd k R W lo hi xs v) (hR : Shape k R) (o : Obj) : Bnd k R (W.alloc o) lo hi xs v := h.call hR ((Below.refl _ _).alloc (Nat.le_refl _) _)
theorem Bnd.drew (h : Bnd k R W lo hi xs v) (hR : Shape k R) : Bnd k R W.drew lo hi xs v := h.call hR (Below.refl _ _).drew
theorem Bnd.callA {o : Obj} (h : Bnd k R W lo hi xs v) (hR : Shape k R) (hb : Below (W.alloc o).heap.size (W.alloc o) W') : Bnd k R W' lo hi xs v := (h.alloc hR o).call hR hb
theorem Bnd.sl (h : Bnd k R W lo hi xs v) (hR : Shape k R) : SlRep k R W (fun b => b < W.heap.size) xs v := h.1.monoF hR (fun _ hb => Nat.lt_of_lt_of_le hb.2 h.2)
theorem Bnd.two (h : Bnd k R W lo hi xs v) (hR : Shape k R) {g : Nat} (hg : hi ≤ g ∨ g < lo) (a b : Value) : Bnd k R ((W.setCell ⟨g, 0, none⟩ a).setCell ⟨g, 1, none⟩ b) lo hi xs v := by
  refine ⟨h.1.frame hR (fun c hc => ?_), by simpa [World.setCell] using h.2⟩
  have : c ≠ g := by rcases hg with hg | hg <;> omega
  rw [Below.heap_setCell _ _ _ _ this, Below.heap_setCell _ _ _ _ this]
theorem Bnd.one (h : Bnd k R W lo hi xs v) (hR : Shape k R) {g o : Nat} (hg : hi ≤ g ∨ g < lo) (a : Value) : Bnd k R (W.setCell ⟨g, o, none⟩ a) lo hi xs v := by
  refine ⟨h.1.frame hR (fun c hc => ?_), by simpa [World.setCell] using h.2⟩
  have : c ≠ g := by rcases hg with hg | hg <;> omega
  rw [Below.heap_setCell _ _ _ _ this]
end
/-- two cells laid by an alloc, kept by a call -/
theorem bnd_two {W W' : World} {a b : Value} {t : TypeId} (hb : Below (W.alloc (.cells #[a, b] t)).heap.size (W.alloc (.cells #[a, b] t)) W') :
    W'.cell? ⟨W.heap.size, 0, none⟩ = some a ∧ W'.cell? ⟨W.heap.size, 1, none⟩ = some b ∧ W'.frozen? ⟨W.heap.size, 0, none⟩ = false ∧ W'.frozen? ⟨W.heap.size, 1, none⟩ = false ∧ W.heap.size < W'.heap.size :=
  ⟨(hb.cell (p := ⟨W.heap.size, 0, none⟩) (by simp)).trans (by simp), (hb.cell (p := ⟨W.heap.size, 1, none⟩) (by simp)).trans (by simp), (hb.frozen (p := ⟨W.heap.size, 0, none⟩) (by simp)).trans (by simp), (hb.frozen (p := ⟨W.heap.size, 1, none⟩) (by simp)).trans (by simp), by have := hb.size; simp at this; omega⟩
theorem bnd_twoD {W W' : World} {a b : Value} {t : TypeId} (hb : Below (W.alloc (.cells #[a, b] t)).drew.heap.size (W.alloc (.cells #[a, b] t)).drew W') :
    W'.cell? ⟨W.heap.size, 0, none⟩ = some a ∧ W'.cell? ⟨W.heap.size, 1, none⟩ = some b ∧ W'.frozen? ⟨W.heap.size, 0, none⟩ = false ∧ W'.frozen? ⟨W.heap.size, 1, none⟩ = false ∧ W.heap.size < W'.heap.size :=
  bnd_two ((Below.refl _ _).drew.trans hb)
theorem bnd_keep {W W' : World} {g : Nat} {a b : Value} (h : W.cell? ⟨g, 0, none⟩ = some a ∧ W.cell? ⟨g, 1, none⟩ = some b ∧ W.frozen? ⟨g, 0, none⟩ = false ∧ W.frozen? ⟨g, 1, none⟩ = false ∧ g < W.heap.size) (hb : Below W.heap.size W W') :
    W'.cell? ⟨g, 0, none⟩ = some a ∧ W'.cell? ⟨g, 1, none⟩ = some b ∧ W'.frozen? ⟨g, 0, none⟩ = false ∧ W'.frozen? ⟨g, 1, none⟩ = false ∧ g < W'.heap.size :=
  ⟨(hb.cell (p := ⟨g, 0, none⟩) h.2.2.2.2).trans h.1, (hb.cell (p := ⟨g, 1, none⟩) h.2.2.2.2).trans h.2.1, (hb.frozen (p := ⟨g, 0, none⟩) h.2.2.2.2).trans h.2.2.1, (hb.frozen (p := ⟨g, 1, none⟩) h.2.2.2.2).trans h.2.2.2.1, Nat.lt_of_lt_of_le h.2.2.2.2 hb.size⟩
theorem bnd_alloc {B : Nat} {a w : World} (h : Below B a w) (hB : B ≤ a.heap.size) (o : Obj) : Below B a (w.alloc o) := h.alloc (Nat.le_trans hB h.size) o
theorem bnd_call {B : Nat} {a w w' : World} (h : Below B a w) (hB : B ≤ a.heap.size) (hb : Below w.heap.size w w') : Below B a w' := h.trans (hb.mono (Nat.le_trans hB h.size))
theorem bnd_set2 {B g : Nat} {a w : World} {x y : Value} (h : Below B a w) (hg : B ≤ g) : Below B a ((w.setCell ⟨g, 0, none⟩ x).setCell ⟨g, 1, none⟩ y) := (h.setCell hg _).setCell hg _
open Go.RowKit

/-- a datum whose memory lies apart from a row -/
def offR {α : Type} (R : CRep α) (u : Value) : CRep α := fun w F x cs => R w (fun b => F b ∧ u.ownBlock ≠ some b) x cs
/-- blocks that are neither row -/
def Off (w : World) (v u : Value) (b : Nat) : Prop := b < w.heap.size ∧ v.ownBlock ≠ some b ∧ u.ownBlock ≠ some b
structure Two {α β : Type} (k l : Nat) (R : CRep α) (enc : β → List Value) (e f : TypeId) (base : Nat) (w : World) (xs : List α) (v : Value) (ys : List β) (u : Value) : Prop where
  fst : OwnRep k (offR R u) e base w xs v
  snd : OwnRep l (flat enc) f base w ys u
  ne : ∀ b, v.ownBlock = some b → u.ownBlock ≠ some b
  base : base ≤ w.heap.size
/-- what has become of the rows, and that nothing else has turned -/
structure Gro (base : Nat) (w : World) (v u : Value) (w' : World) (v' u' : Value) : Prop where
  off : ∀ b, Off w v u b → Off w' v' u' b
  same : ∀ b, Off w v u b → w'.heap[b]? = w.heap[b]?
  below : Below base w w'
section
variable {α β : Type} {k l : Nat} {R : CRep α} {enc : β → List Value} {e f : TypeId} {base : Nat} {w w' w'' : World} {xs zs : List α} {v v' v'' u u' u'' s : Value} {ys zs' : List β}
theorem offS (hR : Shape k R) (u : Value) : Shape k (offR R u) :=
  ⟨fun hf h => hR.frame (fun b hb => hf b hb.1) h, fun hm h => hR.mono (fun b hb => ⟨hm b hb.1, hb.2⟩) h, fun h => hR.len h, fun h => hR.one h⟩
theorem Gro.refl (base : Nat) (w : World) (v u : Value) : Gro base w v u w v u := ⟨fun _ h => h, fun _ _ => rfl, Below.refl _ _⟩
theorem Gro.trans (h1 : Gro base w v u w' v' u') (h2 : Gro base w' v' u' w'' v'' u'') : Gro base w v u w'' v'' u'' :=
  ⟨fun b h => h2.off b (h1.off b h), fun b h => (h2.same b (h1.off b h)).trans (h1.same b h), h1.below.trans h2.below⟩
theorem Gro.call (hb : Below w.heap.size w w') (hB : base ≤ w.heap.size) (v u : Value) : Gro base w v u w' v u :=
  ⟨fun _ h => ⟨Nat.lt_of_lt_of_le h.1 hb.size, h.2⟩, fun b h => hb.block b h.1, hb.mono hB⟩
theorem Gro.app1 (hg : w.grownBy w' v.ownBlock) (hat : v'.ownBlock = v.ownBlock ∨ v'.ownBlock = some w.heap.size) (hv : ∀ b, v.ownBlock = some b → base ≤ b) (hB : base ≤ w.heap.size) (u : Value) : Gro base w v u w' v' u := by
  refine ⟨fun b h => ⟨Nat.lt_of_lt_of_le h.1 hg.size, ?_, h.2.2⟩, fun b h => hg.block b h.1 (fun e => h.2.1 e.symm), (Below.refl _ _).grown hg hB hv⟩
  rcases hat with e | e
  · rw [e]; exact h.2.1
  · rw [e]; intro e2; injection e2 with e2; have := h.1; omega
theorem Gro.app2 (hg : w.grownBy w' u.ownBlock) (hat : u'.ownBlock = u.ownBlock ∨ u'.ownBlock = some w.heap.size) (hv : ∀ b, u.ownBlock = some b → base ≤ b) (hB : base ≤ w.heap.size) (v : Value) : Gro base w v u w' v u' := by
  refine ⟨fun b h => ⟨Nat.lt_of_lt_of_le h.1 hg.size, h.2.1, ?_⟩, fun b h => hg.block b h.1 (fun e => h.2.2 e.symm), (Below.refl _ _).grown hg hB hv⟩
  rcases hat with e | e
  · rw [e]; exact h.2.2
  · rw [e]; intro e2; injection e2 with e2; have := h.1; omega
theorem SlRep.gro {γ : Type} {m : Nat} {S : CRep γ} {cs : List γ} (h : SlRep m S w (Off w v u) cs s) (hS : Shape m S) (hm : Gro base w v u w' v' u') : SlRep m S w' (Off w' v' u') cs s := (h.frame hS hm.same).monoF hS hm.off
theorem Two.call (h : Two k l R enc e f base w xs v ys u) (hR : Shape k R) (hE : Shape l (flat enc)) (hb : Below w.heap.size w w') : Two k l R enc e f base w' xs v ys u :=
  ⟨h.fst.below (offS hR u) hb, h.snd.below hE hb, h.ne, Nat.le_trans h.base hb.size⟩
theorem Two.app1 (h : Two k l R enc e f base w xs v ys u) (hown : OwnRep k (offR R u) e base w' (xs ++ zs) v') (hg : w.grownBy w' v.ownBlock) (hat : v'.ownBlock = v.ownBlock ∨ v'.ownBlock = some w.heap.size) : Two k l R enc e f base w' (xs ++ zs) v' ys u := by
  refine ⟨hown, h.snd.keep (fun b hb => hg.block b (h.snd.own_lt b hb).2 (fun e => h.ne b e.symm hb)), fun b hb => ?_, Nat.le_trans h.base hg.size⟩
  rcases hat with e | e
  · exact h.ne b (by rw [← e]; exact hb)
  · intro e2
    rw [e] at hb
    injection hb with hb
    have := (h.snd.own_lt b e2).2
    omega
theorem Two.app2 (h : Two k l R enc e f base w xs v ys u) (hR : Shape k R) (hown : OwnRep l (flat enc) f base w' (ys ++ zs') u') (hg : w.grownBy w' u.ownBlock) (hat : u'.ownBlock = u.ownBlock ∨ u'.ownBlock = some w.heap.size) : Two k l R enc e f base w' xs v (ys ++ zs') u' := by
  have hne : ∀ b, b < w.heap.size → u.ownBlock ≠ some b → u'.ownBlock ≠ some b := fun b hb hu => by
    rcases hat with e | e
    · rw [e]; exact hu
    · rw [e]; intro e2; injection e2 with e2; omega
  refine ⟨?_, hown, fun b hb => hne b (h.fst.own_lt b hb).2 (h.ne b hb), Nat.le_trans h.base hg.size⟩
  obtain ⟨css, hl, hr, hrow⟩ := h.fst
  refine ⟨css, hl, fun i x cs hx hcs => ?_, ownsRow_frame hrow (fun b hv => hg.block b (hrow.lt b hv).2 (fun e => h.ne b hv e.symm))⟩
  exact hR.mono (fun b hb => ⟨⟨Nat.lt_of_lt_of_le hb.1.1 hg.size, hb.1.2⟩, hne b hb.1.1 hb.2⟩) (hR.frame (fun b hb => hg.block b hb.1.1 (fun e => hb.2 e.symm)) (hr i x cs hx hcs))
/-- what is handed to the first append -/
theorem SlRep.offS_ (h : SlRep k R w (Off w v u) zs s) (hR : Shape k R) : SlRep k (offR R u) w (Off w v u) zs s := by
  obtain ⟨A, c, e1, h1, h2, h3⟩ := h
  refine ⟨A, c, e1, h1, h2, fun i x hx => ?_⟩
  obtain ⟨b, off, cs, hA, hF, hr, hc⟩ := h3 i x hx
  exact ⟨b, off, cs, hA, hF, hR.mono (fun b hb => ⟨hb, hb.2.2⟩) hr, hc⟩
theorem off_src1 (w : World) (v u : Value) : ∀ b, Off w v u b → b < w.heap.size ∧ v.ownBlock ≠ some b := fun _ h => ⟨h.1, h.2.1⟩
theorem off_src2 (w : World) (v u : Value) : ∀ b, Off w v u b → b < w.heap.size ∧ u.ownBlock ≠ some b := fun _ h => ⟨h.1, h.2.2⟩
/-- one element laid in a new block, for an append -/
theorem Two.lay {γ : Type} {m : Nat} {S : CRep γ} (h : Two k l R enc e f base w xs v ys u) (hS : Shape m S) {x : γ} {cs : List Value} (hx : S w (Off w v u) x cs) (t : TypeId) {g : Nat} (hg : w.heap.size = g) :
    SlRep m S (w.alloc (.cells cs.toArray t)) (Off (w.alloc (.cells cs.toArray t)) v u) [x] (.slice (some ⟨g, 0, none⟩) 1 1) := by
  refine (SlRep.one_new hS hg hx (fun b hb => hb.1)).monoF hS (fun b hb => ?_)
  rcases hb with hb | hb
  · exact ⟨by have := hb.1; simp; omega, hb.2⟩
  · subst hb
    subst hg
    exact ⟨by simp, fun e => by have := (h.fst.own_lt _ e).2; omega, fun e => by have := (h.snd.own_lt _ e).2; omega⟩
end
/-- '[]T{x}': a row of the call's own with one element -/
theorem OwnRep.lay1 {α : Type} {R : CRep α} {e : TypeId} {base g : Nat} {w : World} {x : α} {c : Value} (hR : Shape 1 R) (h : R w (fun b => b < w.heap.size) x [c]) (hg : w.heap.size = g) (hb : base ≤ w.heap.size) :
    OwnRep 1 R e base (w.alloc (.cells #[c] e)) [x] (.slice (some ⟨g, 0, none⟩) 1 1) := by
  subst hg
  refine ⟨[[c]], rfl, fun i y cs hy hcs => ?_, ⟨by simp, .inr ⟨w.heap.size, 1, #[c], rfl, hb, by show (w.heap.push _)[w.heap.size]? = _; simp, Nat.le_refl _, by unfold maxLen; omega, by simp, by simp⟩⟩⟩
  obtain rfl : i = 0 := by
    have := (List.getElem?_eq_some_iff.1 hy).1
    simp at this; omega
  simp at hy hcs
  subst hy hcs
  refine hR.mono (fun b hb => ⟨by simp; omega, by simp [Value.ownBlock]; omega⟩) (hR.frame (fun b hb => Below.heap_alloc _ _ _ hb) h)
end Go.Proofs.YthbccfchjgihgaaGreatDoor
