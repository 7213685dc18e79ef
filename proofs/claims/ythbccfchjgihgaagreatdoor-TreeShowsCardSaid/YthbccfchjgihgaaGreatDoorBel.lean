/- The program: Below. -/
import Derived.Test.YthbccfchjgihgaaGreatDoorSeq
import Derived.Test.YthbccfchjgihgaaGreatDoorCom
import Derived.Test.YthbccfchjgihgaaGreatDoorKid
import Derived.Laws.EntriesVeiled
namespace Go.Proofs.YthbccfchjgihgaaGreatDoor
open Go.RowKit Go.Shelf

attribute [local go_sem] Oper.semAt_some
theorem roomT {F : Fence} (hd : F.depth = none) (k : Nat) : F.room k := fun d h => by rw [hd] at h; cases h
theorem roundAny {F : Fence} (hd : F.depth = none) {m m' : Nat} {P : Program} {l : Nat} {f : FuncId} {tmps : Array Value} {assign body : Code} {w : World} {R : Ending → World → Prop}
    (h : RoundIn F m P l f tmps assign body w R) : RoundIn F m' P l f tmps assign body w R := ⟨h.1, fun c cs _ => h.2 c cs (roomT hd _)⟩
theorem yieldAny {F : Fence} (hd : F.depth = none) {m : Nat} (m' : Nat) {P : Program} {l : Nat} {args : Array Value} {W : World} {R : Ending → World → Prop} (h : YieldAt F m P l args W R) : YieldAt F m' P l args W R := by
  obtain ⟨fn, tmps, assign, body, hy, hR⟩ := h
  exact ⟨fn, tmps, assign, body, hy, roundAny hd hR⟩
theorem deepW (k : Nat) : Fence.wide.depth.isSome = true → 1 ≤ k := fun h => by cases h
theorem grown_of_below {w w' : World} (h : Below w.heap.size w w') (row : Option Nat) : w.grownBy w' row := ⟨h.os, h.tape, h.output, h.size, fun k hk _ => h.block k hk⟩
/-- block g holds a variable of the loop's body; f says which block is its own -/
def Sane (g : Nat) (f : Option Obj → Option Nat) (W : World) : Prop := g < W.heap.size ∧ ∀ k, f W.heap[g]? = some k → k < W.heap.size
def OffB (g : Nat) (f : Option Obj → Option Nat) (b : Nat) (W : World) : Prop := b < W.heap.size ∧ b ≠ g ∧ f W.heap[g]? ≠ some b
/-- what a round keeps: all that lay below n, and every block of cells of a type in q that is not the body's -/
structure Kp (q : TypeId → Bool) (g : Nat) (f : Option Obj → Option Nat) (n : Nat) (W W' : World) : Prop where
  below : Below n W W'
  sane : Sane g f W → Sane g f W'
  off : Sane g f W → ∀ b cs ty, q ty = true → OffB g f b W → W.heap[b]? = some (.cells cs ty) → W'.heap[b]? = some (.cells cs ty) ∧ OffB g f b W'
section
variable {q : TypeId → Bool} {g : Nat} {f : Option Obj → Option Nat} {n : Nat}
theorem Kp.refl (W : World) : Kp q g f n W W := ⟨Below.refl _ _, id, fun _ _ _ _ _ h1 h2 => ⟨h2, h1⟩⟩
theorem Kp.trans {A B C : World} (h : Kp q g f n A B) (k : Kp q g f n B C) : Kp q g f n A C :=
  ⟨h.below.trans k.below, fun s => k.sane (h.sane s), fun s b cs ty h0 h1 h2 => by
    obtain ⟨k1, k2⟩ := h.off s b cs ty h0 h1 h2
    exact k.off (h.sane s) b cs ty h0 k2 k1⟩
theorem Kp.of_below {W W' : World} (hn : n ≤ W.heap.size) (h : Below W.heap.size W W') : Kp q g f n W W' :=
  ⟨h.mono hn, fun s => ⟨Nat.lt_of_lt_of_le s.1 h.size, fun k hk => by rw [h.block g s.1] at hk; exact Nat.lt_of_lt_of_le (s.2 k hk) h.size⟩, fun s b cs ty _ h1 h2 =>
    ⟨(h.block b h1.1).trans h2, Nat.lt_of_lt_of_le h1.1 h.size, h1.2.1, by rw [h.block g s.1]; exact h1.2.2⟩⟩
theorem Kp.alloc {W : World} (hn : n ≤ W.heap.size) (o : Obj) : Kp q g f n W (W.alloc o) := Kp.of_below hn ((Below.refl _ _).alloc (Nat.le_refl _) _)
theorem Kp.put {w : World} (hn : n ≤ w.heap.size) (hg : g < w.heap.size) (W : World) (l : Nat) (o o' : Obj) (hl : w.heap.size ≤ l) (h : W.heap[l]? = some o) (hc : o.isCells = false) (hw : o.isWalk = false) : Kp q g f n W (W.putObj l o') := by
  have hne : g ≠ l := by omega
  have e1 : (W.putObj l o').heap[g]? = W.heap[g]? := World.putObj_heap_other hne
  have e2 : (W.putObj l o').heap.size = W.heap.size := by simp [World.putObj]
  refine ⟨belowK_b hn W l o o' hl h hc hw, fun s => ⟨by rw [e2]; exact s.1, fun k hk => by rw [e1] at hk; rw [e2]; exact s.2 k hk⟩, fun s b cs ty _ h1 h2 => ?_⟩
  have hb : b ≠ l := fun e => by subst e; rw [h] at h2; injection h2 with h2; rw [h2] at hc; cases hc
  exact ⟨(World.putObj_heap_other hb).trans h2, by rw [e2]; exact h1.1, h1.2.1, by rw [e1]; exact h1.2.2⟩
/-- a block of cells that the rounds keep -/
def Kept (q : TypeId → Bool) (g : Nat) (f : Option Obj → Option Nat) (b : Nat) (cs : Array Value) (ty : TypeId) (W : World) : Prop := W.heap[b]? = some (.cells cs ty) ∧ OffB g f b W ∧ q ty = true
theorem Kept.kp {W W' : World} {b : Nat} {cs : Array Value} {ty : TypeId} (h : Kept q g f b cs ty W) (s : Sane g f W) (k : Kp q g f n W W') : Kept q g f b cs ty W' := by
  obtain ⟨h1, h2⟩ := k.off s b _ _ h.2.2 h.2.1 h.1
  exact ⟨h1, h2, h.2.2⟩
theorem Kept.new {W : World} (s : Sane g f W) (cs : Array Value) (ty : TypeId) (hq : q ty = true) : Kept q g f W.heap.size cs ty (W.alloc (.cells cs ty)) := by
  refine ⟨heap_newT W _, ⟨by simp, fun e => by have := s.1; omega, fun e => ?_⟩, hq⟩
  rw [Below.heap_alloc _ _ _ s.1] at e
  have := s.2 _ e
  omega
theorem Kept.cell {W : World} {b : Nat} {v : Value} {cs : List Value} {ty : TypeId} (h : Kept q g f b (v :: cs).toArray ty W) : W.cell? ⟨b, 0, none⟩ = some v := by
  rw [Lib.cell_of_heap h.1]; rfl
theorem Kept.lt {W : World} {b : Nat} {cs : Array Value} {ty : TypeId} (h : Kept q g f b cs ty W) : b < W.heap.size := h.2.1.1
end
/-- what the walk has in memory: the tree, yield, the function that visits -/
structure VEnv (q : TypeId → Bool) (g : Nat) (f : Option Obj → Option Nat) (B l gy gt gv : Nat) (t : Tre) (vr vb : Value) (W : World) : Prop where
  sane : Sane g f W
  rep : TreRep W B t vr vb
  y : Kept q g f gy #[.func (.yield l) #[] #[]] 32 W
  t : Kept q g f gt #[vr, vb] 25 W
  v : Kept q g f gv #[.func (.func 100) #[] #[.pointer (some ⟨gy, 0, none⟩), .pointer (some ⟨gt, 0, none⟩), .pointer (some ⟨gv, 0, none⟩)]] 32 W
theorem VEnv.kp {q : TypeId → Bool} {g : Nat} {f : Option Obj → Option Nat} {n B l gy gt gv : Nat} {t : Tre} {vr vb : Value} {W W' : World} (hB : B ≤ n) (h : VEnv q g f B l gy gt gv t vr vb W) (k : Kp q g f n W W') : VEnv q g f B l gy gt gv t vr vb W' :=
  ⟨k.sane h.sane, h.rep.below (k.below.mono hB), h.y.kp h.sane k, h.t.kp h.sane k, h.v.kp h.sane k⟩
set_option maxRecDepth 100000 in
set_option maxHeartbeats 4000000 in
/-- slices.IndexFunc over the children: P holds while no closure has said yes, X when one has -/
theorem kidIdx_in (m : Nat) (ga gv : Nat) (xs : List Int) (v : Value) (B : Nat) (P : Nat → World → Prop) (X : World → Prop)
    (hP : ∀ (k : Nat) (x : Int) (W : World), xs[k]? = some x → P k W → CallsIn Fence.wide (m - 1) Tryz.prog 102 #[.int .i64 x, .pointer (some ⟨gv, 0, none⟩), .pointer (some ⟨ga, 0, none⟩)] W fun e W' => (e = .returned (.bool false) ∧ P (k + 1) W') ∨ (e = .returned (.bool true) ∧ X W'))
    (hB : ∀ (k : Nat) (W : World), P k W → SlRep 1 (flat intEnc) W (fun b => b < B) xs v ∧ B ≤ W.heap.size) (_hlen : xs.length ≤ 100000) (W : World) (h0 : P 0 W) :
    CallsIn Fence.wide m Tryz.prog 129 #[v, .func (.func 102) #[] #[.pointer (some ⟨gv, 0, none⟩), .pointer (some ⟨ga, 0, none⟩)]] W fun e W' => (e = .returned (.int .i64 (-1)) ∧ P xs.length W') ∨ (∃ k : Nat, e = .returned (.int .i64 k) ∧ X W') := by
  obtain ⟨A, c, rfl, hc1, hc2, _⟩ := (hB 0 W h0).1
  have HB := Lib.hid hB
  have HPX := Lib.hid hP
  clear hB hP
  refine callsIn_of_wp Tryz.func129 rfl trivial ?_ rfl
  simp only [Tryz.ntmps129, List.size_toArray, List.length_cons, List.length_nil, Nat.reduceAdd, Nat.reduceSub, Array.replicate_succ, Array.replicate_zero, List.push_toArray, List.append_toArray, List.nil_append, List.cons_append]
  gi_wp2
  gi_loopw [8] (fun i wr => ∃ k : Nat, k ≤ xs.length ∧ i = .int .i64 k ∧ P k wr) (fun i _ => xs.length - (intOf i).toNat)
  case atStart => exact ⟨0, Nat.zero_le _, rfl, h0⟩
  case round =>
    obtain ⟨k, hk, rfl, hPk⟩ := hrel
    by_cases hlt : k < xs.length
    · obtain ⟨x, hx⟩ := get_at xs hlt
      obtain ⟨hrep, hBs⟩ := HB.out k _ hPk
      obtain ⟨b, off, rfl, hbB, g0⟩ := Ints.at_ hrep hx
      have hbw : b < wr.heap.size := by have : b < B := hbB; omega
      have hki : (k : Int) < (xs.length : Int) := by omega
      have hwk : IntKind.i64.wrap ((k : Int) + 1) = (k : Int) + 1 := IntWalk.i64_in _ (by omega)
      have HC := Lib.hid (HPX.out k x wr hx hPk)
      clear hx hrep
      gi_wp2_with fail
      refine ⟨trivial, deepW _, ?_⟩
      refine HC.out.mono ?_
      rintro e W3 (⟨rfl, hP3⟩ | ⟨rfl, hX3⟩)
      · gi_wp2
        go_roundw
        case rel => exact ⟨k + 1, by omega, by go_num, hP3⟩
        case measure => simp [intOf]; omega
      · gi_wp2
        go_ret
        exact .inr ⟨k, rfl, hX3⟩
    · have hki : ¬ (k : Int) < (xs.length : Int) := by omega
      have hkl : k = xs.length := by omega
      subst hkl
      gi_wp2
      go_ret
      exact .inl ⟨rfl, hPk⟩
set_option maxRecDepth 100000 in
set_option maxHeartbeats 4000000 in
theorem kidAny_in (m : Nat) (ga gv : Nat) (xs : List Int) (v : Value) (B : Nat) (P : Nat → World → Prop) (X : World → Prop)
    (hP : ∀ (k : Nat) (x : Int) (W : World), xs[k]? = some x → P k W → CallsIn Fence.wide (m - 1 - 1) Tryz.prog 102 #[.int .i64 x, .pointer (some ⟨gv, 0, none⟩), .pointer (some ⟨ga, 0, none⟩)] W fun e W' => (e = .returned (.bool false) ∧ P (k + 1) W') ∨ (e = .returned (.bool true) ∧ X W'))
    (hB : ∀ (k : Nat) (W : World), P k W → SlRep 1 (flat intEnc) W (fun b => b < B) xs v ∧ B ≤ W.heap.size) (hlen : xs.length ≤ 100000) (W : World) (h0 : P 0 W) :
    CallsIn Fence.wide m Tryz.prog 101 #[v, .func (.func 102) #[] #[.pointer (some ⟨gv, 0, none⟩), .pointer (some ⟨ga, 0, none⟩)]] W fun e W' => (e = .returned (.bool false) ∧ P xs.length W') ∨ (e = .returned (.bool true) ∧ X W') := by
  have HI := Lib.hid (kidIdx_in (m - 1) ga gv xs v B P X hP hB hlen W h0)
  obtain ⟨A, c, rfl, hc1, hc2, _⟩ := (hB 0 W h0).1
  clear hP hB
  refine callsIn_of_wp Tryz.func101 rfl trivial ?_ rfl
  simp only [Tryz.ntmps101, List.size_toArray, List.length_cons, List.length_nil, Nat.reduceAdd, Nat.reduceSub, Array.replicate_succ, Array.replicate_zero, List.push_toArray, List.append_toArray, List.nil_append, List.cons_append]
  gi_wp2_with fail
  refine ⟨trivial, deepW _, ?_⟩
  refine HI.out.mono ?_
  rintro e W3 (⟨rfl, hP3⟩ | ⟨k, rfl, hX3⟩)
  · gi_wp2
    go_ret
    exact .inl ⟨rfl, hP3⟩
  · have hk : (0 : Int) ≤ (k : Int) := by omega
    gi_wp2
    go_ret
    exact .inr ⟨rfl, hX3⟩
set_option maxRecDepth 100000 in
set_option maxHeartbeats 4000000 in
/-- the closure that visits a child -/
theorem kid1_in (m : Nat) (ga gv gy gt : Nat) (a : Nat) (x : Int) (W : World) (A : World → Prop) (X : World → Prop) (ha : a ≤ 100000)
    (hv : W.cell? ⟨gv, 0, none⟩ = some (.func (.func 100) #[] #[.pointer (some ⟨gy, 0, none⟩), .pointer (some ⟨gt, 0, none⟩), .pointer (some ⟨gv, 0, none⟩)]))
    (hga : W.cell? ⟨ga, 0, none⟩ = some (.int .i64 a))
    (hV : CallsIn Fence.wide (m - 1) Tryz.prog 100 #[.int .i64 x, .int .i64 ((a + 1 : Nat) : Int), .pointer (some ⟨gy, 0, none⟩), .pointer (some ⟨gt, 0, none⟩), .pointer (some ⟨gv, 0, none⟩)] W fun e W' => (e = .returned (.bool true) ∧ A W') ∨ (e = .returned (.bool false) ∧ X W')) :
    CallsIn Fence.wide m Tryz.prog 102 #[.int .i64 x, .pointer (some ⟨gv, 0, none⟩), .pointer (some ⟨ga, 0, none⟩)] W fun e W' => (e = .returned (.bool false) ∧ A W') ∨ (e = .returned (.bool true) ∧ X W') := by
  have hw : IntKind.i64.wrap ((a : Int) + 1) = ((a + 1 : Nat) : Int) := by rw [IntWalk.i64_in _ (by omega)]; omega
  generalize ((a + 1 : Nat) : Int) = a1 at *
  have HV := Lib.hid hV
  clear hV
  refine callsIn_of_wp Tryz.func102 rfl trivial ?_ rfl
  simp only [Tryz.ntmps102, List.size_toArray, List.length_cons, List.length_nil, Nat.reduceAdd, Nat.reduceSub, Array.replicate_succ, Array.replicate_zero, List.push_toArray, List.append_toArray, List.nil_append, List.cons_append]
  gi_wp2_with fail
  refine ⟨trivial, deepW _, ?_⟩
  refine HV.out.mono ?_
  rintro e W3 (⟨rfl, hP3⟩ | ⟨rfl, hX3⟩)
  · gi_wp2
    go_ret
    exact .inl ⟨rfl, hP3⟩
  · gi_wp2
    go_ret
    exact .inr ⟨rfl, hX3⟩
open Go.RowKit Go.Shelf

attribute [local go_sem] Oper.semAt_some
/-- a unit of the tree with the number of units above it -/
abbrev PX (t : Tre) (d : Nat) := { x : Int × Nat // ∃ c ∈ t.brs, c.id = x.1 ∧ x.2 + 1 + d = depN t.brs x.1 }
section
variable {t : Tre} {d : Nat} {q : TypeId → Bool} {g : Nat} {f : Option Obj → Option Nat} {n B l gy gt gv N : Nat} {vr vb : Value} {J Jx : List (PX t d) → World → Prop}
/-- how a visit ends -/
def VPost (q : TypeId → Bool) (g : Nat) (f : Option Obj → Option Nat) (n : Nat) (J Jx : List (PX t d) → World → Prop) (pre : List (PX t d)) (zs : List (Int × Nat)) (W : World) (e : Ending) (W' : World) : Prop :=
  (e = .returned (.bool true) ∧ ∃ ys : List (PX t d), ys.map Subtype.val = zs ∧ J (pre ++ ys) W' ∧ Kp q g f n W W') ∨ (e = .returned (.bool false) ∧ ∃ q, Jx q W')
/-- between two children -/
def VMid (q : TypeId → Bool) (g : Nat) (f : Option Obj → Option Nat) (n B l gy gt gv ga a : Nat) (vr vb : Value) (J : List (PX t d) → World → Prop) (pre : List (PX t d)) (fu : Nat) (ks : List Int) (W0 : World) (k : Nat) (W : World) : Prop :=
  ∃ ys : List (PX t d), ys.map Subtype.val = (ks.take k).flatMap (preG t.brs fu (a + 1)) ∧ J (pre ++ ys) W ∧ Kp q g f n W0 W ∧ VEnv q g f B l gy gt gv t vr vb W ∧ Kept q g f ga #[.int .i64 a] 3 W
set_option maxRecDepth 100000 in
set_option maxHeartbeats 4000000 in
theorem visit_in (hqi : q 3 = true) (hz : SizT t) (T : RightT t) (hBn : B ≤ n) (hng : n ≤ g) (D : Nat) (hA : AbidesFrom D J)
    (hY : ∀ (m : Nat) (pre : List (PX t d)) (x : PX t d) (W : World), J pre W → pre.length < N → YieldAt Fence.wide m Tryz.prog l #[.int .i64 x.1.1, .int .i64 x.1.2] W fun e W' => (e = .returned (.bool true) ∧ J (pre ++ [x]) W' ∧ Kp q g f n W W') ∨ (e = .returned (.bool false) ∧ Jx (pre ++ [x]) W')) :
    ∀ (fu a : Nat) (b : Brn), b ∈ t.brs → 12 < fu + depN t.brs b.id → a + 1 + d = depN t.brs b.id → ∀ (m : Nat) (pre : List (PX t d)) (W : World), VEnv q g f B l gy gt gv t vr vb W → J pre W → pre.length + (preG t.brs fu a b.id).length ≤ N →
      CallsIn Fence.wide m Tryz.prog 100 #[.int .i64 b.id, .int .i64 a, .pointer (some ⟨gy, 0, none⟩), .pointer (some ⟨gt, 0, none⟩), .pointer (some ⟨gv, 0, none⟩)] W fun e W' => VPost q g f n J Jx pre (preG t.brs fu a b.id) W e W' := by
  intro fu
  induction fu with
  | zero =>
    intro a b hb hf ha
    have := (T.upIs hb).2
    omega
  | succ fu ih =>
    intro a b hb hf ha m pre W hE hJ hN
    have hnW : n ≤ W.heap.size := by have := hE.sane.1; omega
    have hd12 := (T.upIs hb).2
    have k1 : Kp q g f n W (W.alloc (.cells #[.int .i64 a] 3)) := Kp.alloc hnW _
    have hE1 := hE.kp hBn k1
    have hG1 : Kept q g f W.heap.size #[.int .i64 a] 3 (W.alloc (.cells #[.int .i64 a] 3)) := Kept.new hE.sane _ _ hqi
    have hJ1 : J pre (W.alloc (.cells #[.int .i64 a] 3)) := hA pre W _ none hJ (World.grownBy_alloc W _ none) (fun r e => by cases e)
    obtain ⟨x, hx1, hx2⟩ : ∃ x : PX t d, x.1.1 = b.id ∧ x.1.2 = a := ⟨⟨(b.id, a), b, hb, rfl, ha⟩, rfl, rfl⟩
    have hps : preG t.brs (fu + 1) a b.id = (b.id, a) :: b.kids.flatMap (preG t.brs fu (a + 1)) := by unfold preG; rw [T.kidsO_of hb]
    rw [hps] at hN
    simp only [List.length_cons] at hN
    have hY1 := hY (m - 1) pre x _ hJ1 (by omega)
    rw [hx1, hx2] at hY1
    obtain ⟨fn, tmps, assign, body, hy, hR⟩ := hY1
    have hkT : kidsT t b.id = b.kids := by unfold kidsT; rw [if_neg (T.id_ne hb), T.kidsO_of hb]
    have hkl : b.kids.length ≤ 100000 := hz.kids b hb
    -- the children
    have HK := Lib.hid (fun (W3 : World) (hE3 : VEnv q g f B l gy gt gv t vr vb W3) => kids_c t hz T b.id (Or.inr ⟨b, hb, rfl⟩) vr vb W3 B (by have := hE3.sane.1; omega) hE3.rep)
    have HM := Lib.hid (fun (W3 : World) (hE3 : VEnv q g f B l gy gt gv t vr vb W3) (hG3 : Kept q g f W.heap.size #[.int .i64 a] 3 W3) (hJ3 : J (pre ++ [x]) W3) (v : Value) (hv : Ints W3 B b.kids v) =>
      kidAny_in (m - 1) W.heap.size gv b.kids v B (VMid q g f n B l gy gt gv W.heap.size a vr vb J (pre ++ [x]) fu b.kids W3) (fun W' => ∃ q, Jx q W')
        (fun k y W4 hky hM => by
          obtain ⟨ys, hys, hJ4, hk4, hE4, hG4⟩ := hM
          obtain ⟨c, hc, hcp, hci⟩ := (T.kid_iff hb).1 (List.mem_of_getElem? hky)
          have hdc := T.kid_dep hb hc hcp
          subst hci
          have hlen : ((b.kids.take k).flatMap (preG t.brs fu (a + 1))).length + (preG t.brs fu (a + 1) c.id).length ≤ (b.kids.flatMap (preG t.brs fu (a + 1))).length := by
            have e := take_at hky
            have e2 : (b.kids.take (k + 1)).flatMap (preG t.brs fu (a + 1)) = (b.kids.take k).flatMap (preG t.brs fu (a + 1)) ++ preG t.brs fu (a + 1) c.id := by rw [e, List.flatMap_append]; simp
            have e3 : b.kids.flatMap (preG t.brs fu (a + 1)) = (b.kids.take (k + 1)).flatMap (preG t.brs fu (a + 1)) ++ (b.kids.drop (k + 1)).flatMap (preG t.brs fu (a + 1)) := by rw [← List.flatMap_append, List.take_append_drop]
            rw [e3, e2]
            simp only [List.length_append]
            omega
          have hyl := congrArg List.length hys
          rw [List.length_map] at hyl
          refine kid1_in _ W.heap.size gv gy gt a c.id W4 _ _ (by omega) hE4.v.cell hG4.cell ((ih (a + 1) c hc (by omega) (by omega) _ (pre ++ [x] ++ ys) W4 hE4 hJ4 (by simp only [List.length_append, List.length_cons, List.length_nil]; omega)).mono ?_)
          rintro e W5 (⟨he, zs, hzs, hJ5, hk5⟩ | h5)
          · refine .inl ⟨he, ys ++ zs, ?_, by rw [← List.append_assoc]; exact hJ5, hk4.trans hk5, hE4.kp hBn hk5, hG4.kp hE4.sane hk5⟩
            rw [List.map_append, hys, hzs, take_at hky, List.flatMap_append]
            simp
          · exact .inr h5)
        (fun k W4 hM => by
          obtain ⟨ys, hys, hJ4, hk4, hE4, hG4⟩ := hM
          exact ⟨hv.below intS (hk4.below.mono hBn), by have := hE4.sane.1; omega⟩)
        hkl W3 ⟨[], by simp, by simpa using hJ3, Kp.refl _, hE3, hG3⟩)
    have zy := hE.y.cell
    have zl := hE.y.lt
    clear ih hY
    refine callsIn_of_wp Tryz.func100 rfl trivial ?_ rfl
    simp only [Tryz.ntmps100, List.size_toArray, List.length_cons, List.length_nil, Nat.reduceAdd, Nat.reduceSub, Array.replicate_succ, Array.replicate_zero, List.push_toArray, List.append_toArray, List.nil_append, List.cons_append]
    gi_wp2
    refine ⟨deepW _, ?_⟩
    refine hR.mono ?_
    clear hR hy
    rintro e W2 (⟨rfl, hJ2, hk2⟩ | ⟨rfl, hX2⟩)
    · have hE2 := hE1.kp hBn hk2
      have hG2 := hG1.kp hE1.sane hk2
      have HK2 := Lib.hid (HK.out W2 hE2)
      have HM2 := Lib.hid (fun (W3 : World) (hb3 : Below W2.heap.size W2 W3) => HM.out W3 (hE2.kp hBn (Kp.of_below (by have := hE2.sane.1; omega) hb3)) (hG2.kp hE2.sane (n := n) (Kp.of_below (by have := hE2.sane.1; omega) hb3)) (hA _ W2 W3 none hJ2 (grown_of_below hb3 none) (fun r e => by cases e)))
      have HP := Lib.hid (fun (W3 W4 : World) (hb3 : Below W2.heap.size W2 W3) (h4 : Kp q g f n W3 W4) => (k1.trans hk2).trans ((Kp.of_below (by have := hE2.sane.1; omega) hb3).trans h4))
      have zt1 : W2.cell? ⟨gt, 0, none⟩ = some vr := hE2.t.cell
      have zt2 : W2.cell? ⟨gt, 1, none⟩ = some vb := by rw [Lib.cell_of_heap hE2.t.1]; rfl
      have ztl := hE2.t.lt
      rw [hkT] at HK2
      clear HK HM hE hJ hJ1 hJ2 hk2 hE1 hG1 hG2 k1 zy zl
      gi_wp2_with fail
      refine ⟨trivial, deepW _, ?_⟩
      refine (callsIn_wide.2 HK2.out).mono ?_
      rintro e W3 ⟨v, rfl, hv, hb3⟩
      have HM3 := Lib.hid (HM2.out W3 hb3 v hv)
      obtain ⟨Ak, ck, rfl, -⟩ := id hv
      clear hv
      gi_wp2_with fail
      refine ⟨trivial, deepW _, ?_⟩
      refine HM3.out.mono ?_
      rintro e W4 (⟨rfl, hM4⟩ | ⟨rfl, hX4⟩)
      · obtain ⟨ys, hys, hJ4, hk4, -, -⟩ := hM4
        have HYS := Lib.hid hys
        clear hys
        gi_wp2
        go_ret
        refine .inl ⟨rfl, x :: ys, ?_, by simpa using hJ4, HP.out W3 W4 hb3 hk4⟩
        rw [hps, List.map_cons, HYS.out, List.take_length]
        congr 1
        exact Prod.ext hx1 hx2
      · gi_wp2
        go_ret
        exact .inr ⟨rfl, hX4⟩
    · gi_wp2
      go_ret
      exact .inr ⟨rfl, _, hX2⟩
end
open Go.RowKit Go.Shelf

attribute [local go_sem] Oper.semAt_some
theorem walk_c (u : Int) (vr vb : Value) (w : World) : Calls Tryz.prog 66 #[treV vr vb, .int .i64 u] w fun e w' => e = .returned (.func (.func 99) #[] #[.pointer (some ⟨w.heap.size, 0, none⟩), .pointer (some ⟨w.heap.size + 1, 0, none⟩)]) ∧ (w.alloc (treC vr vb)).alloc (.cells #[.int .i64 u] 3) = w' := by
  go_enter Tryz.func66, Tryz.ntmps66
  go_wp2
  go_ret
  exact ⟨rfl, rfl⟩
abbrev wkW (W : World) (l gt : Nat) : World := (W.alloc (.cells #[.func (.yield l) #[] #[]] 32)).alloc (.cells #[.func (.func 100) #[] #[.pointer (some ⟨W.heap.size, 0, none⟩), .pointer (some ⟨gt, 0, none⟩), .pointer (some ⟨W.heap.size + 1, 0, none⟩)]] 32)
section
variable {t : Tre} {q : TypeId → Bool} {g : Nat} {f : Option Obj → Option Nat} {n B l gt : Nat} {vr vb : Value}
theorem wkW_env {W : World} (hqf : q 32 = true) (hBn : B ≤ n) (hng : n ≤ g) (hs : Sane g f W) (ht : Kept q g f gt #[vr, vb] 25 W) (hr : TreRep W B t vr vb) :
    VEnv q g f B l W.heap.size gt (W.heap.size + 1) t vr vb (wkW W l gt) ∧ Below W.heap.size W (wkW W l gt) := by
  obtain ⟨V, hV⟩ : ∃ V, V = Value.func (.func 100) #[] #[.pointer (some ⟨W.heap.size, 0, none⟩), .pointer (some ⟨gt, 0, none⟩), .pointer (some ⟨W.heap.size + 1, 0, none⟩)] := ⟨_, rfl⟩
  have hb : Below W.heap.size W (wkW W l gt) := ((Below.refl _ _).alloc (Nat.le_refl _) _).alloc (by simp) _
  have hb0 : Below (W.heap.size + 1) (W.alloc (.cells #[.func (.yield l) #[] #[]] 32)) (wkW W l gt) := (Below.refl _ _).alloc (by simp) _
  have k : Kp q g f n W (wkW W l gt) := Kp.of_below (by have := hs.1; omega) hb
  have ho : ∀ j, W.heap.size ≤ j → j < (wkW W l gt).heap.size → OffB g f j (wkW W l gt) := fun j hj hj2 => ⟨hj2, fun e => by have := hs.1; omega, fun e => by
    rw [hb.block g hs.1] at e
    have := hs.2 _ e
    omega⟩
  have hz : (wkW W l gt).heap.size = W.heap.size + 2 := by simp
  have h0 : (wkW W l gt).heap[W.heap.size]? = some (.cells #[.func (.yield l) #[] #[]] 32) := (hb0.block _ (by omega)).trans (heap_newT _ _)
  have h1 : (wkW W l gt).heap[W.heap.size + 1]? = some (.cells #[V] 32) := by
    have := heap_newT (W.alloc (.cells #[.func (.yield l) #[] #[]] 32)) (.cells #[V] 32)
    rw [show (W.alloc (.cells #[.func (.yield l) #[] #[]] 32)).heap.size = W.heap.size + 1 by simp, hV] at this
    rw [hV]
    exact this
  rw [hV] at h1
  exact ⟨⟨k.sane hs, hr.below (hb.mono (by have := hs.1; omega)), ⟨h0, ho _ (Nat.le_refl _) (by omega), hqf⟩, ht.kp hs k, ⟨h1, ho _ (by omega) (by omega), hqf⟩⟩, hb⟩
theorem wkW_box (W : World) (l : Nat) : Boxed ((W.alloc (.cells #[.func (.yield l) #[] #[]] 32)).alloc (.cells #[Value.nilFunc] 32)) (W.heap.size + 1) 32 Value.nilFunc := by
  have := heap_newT (W.alloc (.cells #[.func (.yield l) #[] #[]] 32)) (.cells #[Value.nilFunc] 32)
  rwa [show (W.alloc (.cells #[.func (.yield l) #[] #[]] 32)).heap.size = W.heap.size + 1 by simp] at this
theorem preT_zero (t : Tre) : preT t 0 = t.roots.flatMap (preG t.brs 12 0) := by unfold preT; rw [if_pos rfl]; rfl
theorem preT_of {u : Int} (t : Tre) (h : u ≠ 0) : preT t u = preG t.brs 12 0 u := by unfold preT; rw [if_neg h]; rfl
set_option maxRecDepth 100000 in
set_option maxHeartbeats 4000000 in
theorem walk_stops (hqi : q 3 = true) (hqf : q 32 = true) (hz : SizT t) (T : RightT t) (hBn : B ≤ n) (hng : n ≤ g) (u : Int) (d : Nat) (hu : u = 0 ∧ d = 0 ∨ ∃ b ∈ t.brs, b.id = u ∧ 1 + d = depN t.brs u) (gi : Nat) (w : World) (hs : Sane g f w) (ht : Kept q g f gt #[vr, vb] 25 w) (hi : Kept q g f gi #[.int .i64 u] 3 w) (hr : TreRep w B t vr vb) (m : Nat) :
    SeqStopsK Fence.wide m Tryz.prog 99 #[.pointer (some ⟨gt, 0, none⟩), .pointer (some ⟨gi, 0, none⟩)] (fun x : PX t d => #[.int .i64 x.1.1, .int .i64 (x.1.2 : Int)]) (Kp q g f n) (fun ys => ys.map Subtype.val = preT t u) (fun _ => True) (preT t u).length w := by
  intro l J Jx W hW hA hA' hY h0
  have kW : Kp q g f n w W := Kp.of_below (by have := hs.1; omega) hW
  have hsW := kW.sane hs
  have htW := ht.kp hs kW
  have hiW := hi.kp hs kW
  obtain ⟨hE, hbE⟩ := wkW_env (l := l) hqf hBn hng hsW htW (hr.below (hW.mono (by have := hs.1; omega)))
  have hJE : J [] (wkW W l gt) := hA [] W _ none h0 (grown_of_below hbE none) (fun r e => by cases e)
  have kE : Kp q g f n W (wkW W l gt) := Kp.of_below (by have := hsW.1; omega) hbE
  have hiE := hiW.kp hsW kE
  have HV := Lib.hid (visit_in (vr := vr) (vb := vb) (gy := W.heap.size) (gt := gt) (gv := W.heap.size + 1) hqi hz T hBn hng W.heap.size hA (fun m' pre x W1 hj hl => yieldAny rfl m' (hY pre x W1 hj hl)))
  clear hY
  have q0 := hiE.cell
  have q1 := hE.v.cell
  have q2 : (wkW W l gt).cell? ⟨gt, 0, none⟩ = some vr := hE.t.cell
  have l0 := hiE.lt
  have l1 := hE.v.lt
  have l2 := hE.t.lt
  have hzE : (wkW W l gt).heap.size = W.heap.size + 2 := by simp
  have q3 := (wkW_box W l).cell
  have q4 := (wkW_box W l).frozen
  have hrE := hE.rep.tops
  rcases hu with ⟨rfl, rfl⟩ | ⟨b, hb, rfl, hd⟩
  · obtain ⟨Ar, cr, rfl, hc1, hc2, _⟩ := id hrE
    have HP := Lib.hid (preT_zero t)
    have HL := Lib.hid (fun (k : Nat) (y : Int) (hky : t.roots[k]? = some y) => show ((t.roots.take k).flatMap (preG t.brs 12 0)).length + (preG t.brs 12 0 y).length ≤ (preT t 0).length by
      have e2 : (t.roots.take (k + 1)).flatMap (preG t.brs 12 0) = (t.roots.take k).flatMap (preG t.brs 12 0) ++ preG t.brs 12 0 y := by rw [take_at hky, List.flatMap_append]; simp
      have e3 : t.roots.flatMap (preG t.brs 12 0) = (t.roots.take (k + 1)).flatMap (preG t.brs 12 0) ++ (t.roots.drop (k + 1)).flatMap (preG t.brs 12 0) := by rw [← List.flatMap_append, List.take_append_drop]
      rw [preT_zero, e3, e2]
      simp only [List.length_append]
      omega)
    have htl := hz.tops
    refine callsIn_of_wp Tryz.func99 rfl trivial ?_ rfl
    simp only [Tryz.ntmps99, List.size_toArray, List.length_cons, List.length_nil, Nat.reduceAdd, Nat.reduceSub, Array.replicate_succ, Array.replicate_zero, List.push_toArray, List.append_toArray, List.nil_append, List.cons_append]
    gi_wp2_with fail
    gi_loopw [6, 16] (fun _ i wr => ∃ (k : Nat) (ys : List (PX t 0)), k ≤ t.roots.length ∧ i = .int .i64 k ∧ Hid (ys.map Subtype.val = (t.roots.take k).flatMap (preG t.brs 12 0)) ∧ J ys wr ∧ VEnv q g f B l W.heap.size gt (W.heap.size + 1) t (.slice Ar t.roots.length cr) vb wr) (fun _ i _ => t.roots.length - (intOf i).toNat)
    case atStart => exact ⟨0, [], Nat.zero_le _, rfl, rfl, hJE, hE⟩
    case round =>
      clear q0 q1 q2 q3 q4 l0 l1 l2 hzE hE hJE hbE kE hiE hrE kW hsW htW hiW hs ht hi hr hW
      obtain ⟨k, ys, hk, rfl, hys, hJ, hE⟩ := hrel
      have z0 := hE.v.cell
      have z1 := hE.v.lt
      by_cases hlt : k < t.roots.length
      · obtain ⟨y, hy⟩ := get_at t.roots hlt
        have hll := HL.out k y hy
        have HT := Lib.hid (take_at hy)
        obtain ⟨c, hc, hcp, hci⟩ := T.top_iff.1 (List.mem_of_getElem? hy)
        have hup := T.upTop hc hcp
        obtain ⟨b, off, rfl, hbB, g0⟩ := Ints.at_ hE.rep.tops hy
        have hbw : b < wr.heap.size := by have : b < B := hbB; have := hE.sane.1; omega
        have hki : (k : Int) < (t.roots.length : Int) := by omega
        have hwk : IntKind.i64.wrap ((k : Int) + 1) = (k : Int) + 1 := IntWalk.i64_in _ (by omega)
        subst hci
        have hdc : depN t.brs c.id = 1 := by unfold depN; rw [hup]; rfl
        have hyl := congrArg List.length hys.out
        rw [List.length_map] at hyl
        have HVc := Lib.hid (HV.out 12 0 c hc (by omega) (by omega) (m - 1) ys wr hE hJ (by omega))
        have HK := Lib.hid (fun (W3 : World) (h3 : Kp q g f n wr W3) => hE.kp hBn h3)
        clear hy hup hdc hyl hll hE hJ
        gi_wp2_with fail
        refine ⟨trivial, deepW _, ?_⟩
        refine HVc.out.mono ?_
        rintro e W3 (⟨rfl, zs, hzs, hJ3, hk3⟩ | ⟨rfl, q, hX⟩)
        · have HZ := Lib.hid hzs
          clear hzs
          have hE3 := HK.out W3 hk3
          gi_wp2
          go_roundw
          case rel => exact ⟨k + 1, ys ++ zs, by omega, by go_num, by show _ = _; rw [List.map_append, hys.out, HZ.out, HT.out, List.flatMap_append]; simp, hJ3, hE3⟩
          case measure => simp [intOf]; omega
        · gi_wp2
          refine bodyPost_ret (results_none rfl _ _ _) rfl ?_
          exact ⟨⟨_, rfl⟩, .inr ⟨q, trivial, hX⟩⟩
      · have hki : ¬ (k : Int) < (t.roots.length : Int) := by omega
        gi_wp2
        go_end0
        refine ⟨⟨_, rfl⟩, .inl ⟨ys, ?_, hJ⟩⟩
        rw [hys.out, HP.out, List.take_of_length_le (by omega)]
  · have hne := T.id_ne hb
    have hn0 : (b.id != 0) = true := by simpa using hne
    have HVb := Lib.hid (HV.out 12 0 b hb (by omega) (by omega) (m - 1) [] (wkW W l gt) hE hJE (by rw [preT_of t hne]; simp))
    have HP := Lib.hid (preT_of t hne)
    clear HV
    refine callsIn_of_wp Tryz.func99 rfl trivial ?_ rfl
    simp only [Tryz.ntmps99, List.size_toArray, List.length_cons, List.length_nil, Nat.reduceAdd, Nat.reduceSub, Array.replicate_succ, Array.replicate_zero, List.push_toArray, List.append_toArray, List.nil_append, List.cons_append]
    gi_wp2_with fail
    refine ⟨trivial, deepW _, ?_⟩
    refine HVb.out.mono ?_
    rintro e W5 (⟨rfl, ys, hys, hJ5, -⟩ | ⟨rfl, q, hX⟩)
    · gi_wp2
      refine bodyPost_ret (results_none rfl _ _ _) rfl ?_
      exact ⟨⟨_, rfl⟩, .inl ⟨ys, by rw [HP.out, hys], by simpa using hJ5⟩⟩
    · gi_wp2
      refine bodyPost_ret (results_none rfl _ _ _) rfl ?_
      exact ⟨⟨_, rfl⟩, .inr ⟨q, trivial, hX⟩⟩
end
open Go.RowKit Go.Shelf

attribute [local go_sem] Oper.semAt_some
/-- the block of its own of what a variable holds -/
def ownO : Option Obj → Option Nat
  | some (.cells cs _ _) => match cs[0]? with
    | some v => v.ownBlock
    | none => none
  | _ => none
theorem ownO_box {W : World} {g : Nat} {ty : TypeId} {v : Value} (h : Boxed W g ty v) : ownO W.heap[g]? = v.ownBlock := by
  rw [show W.heap[g]? = _ from h]; rfl
theorem kp_row {W w6 : World} {g base n : Nat} {ty : TypeId} {vo v6 : Value} {xs ys : List Int} (o : Obj) (hbo : Boxed W g ty vo) (hown : OwnRep 1 (flat intEnc) 3 base W xs vo) (hown6 : OwnRep 1 (flat intEnc) 3 base w6 ys v6) (hng : n ≤ g) (hbase : n ≤ base)
    (hbo6 : Boxed w6 g ty vo) (hg6 : (W.alloc o).grownBy w6 vo.ownBlock) (hat : v6.ownBlock = vo.ownBlock ∨ v6.ownBlock = some (W.heap.size + 1)) : Kp (fun _ => true) g ownO n W (w6.setCell ⟨g, 0, none⟩ v6) := by
  have hgl := heap_ltT (show W.heap[g]? = _ from hbo)
  have hs6 := hg6.size
  simp only [World.size_alloc] at hs6
  have hbx := box_set hbo6 (v' := v6)
  have hz : (w6.setCell ⟨g, 0, none⟩ v6).heap.size = w6.heap.size := by simp [World.setCell]
  refine ⟨?_, fun s => ⟨by omega, fun k hk => ?_⟩, fun s b cs ty _ h1 h2 => ⟨?_, ?_⟩⟩
  · exact (((Below.refl n W).alloc (by omega) o).grown hg6 (by simp; omega) (fun k hk => by have := (hown.own_lt k hk).1; omega)).setCell (by simpa using hng) _
  · rw [ownO_box hbx] at hk
    have := (hown6.own_lt k hk).2
    omega
  · rw [Below.heap_setCell _ _ _ _ (by simpa using h1.2.1), hg6.block b (by have := h1.1; simp; omega) (fun e => h1.2.2 (by rw [ownO_box hbo]; exact e.symm)), Below.heap_alloc _ _ _ h1.1]
    exact h2
  · refine ⟨by have := h1.1; omega, h1.2.1, fun e => ?_⟩
    rw [ownO_box hbx] at e
    rcases hat with h | h
    · rw [h] at e; exact h1.2.2 (by rw [ownO_box hbo]; exact e)
    · rw [h] at e
      injection e with e
      have := h1.1
      omega
abbrev blW (w1 : World) (vr vb : Value) (u : Int) : World := ((w1.alloc (.cells #[.slice none 0 0] 22)).alloc (treC vr vb)).alloc (.cells #[.int .i64 u] 3)
theorem blW_at (w1 : World) (vr vb : Value) (u : Int) : Boxed (blW w1 vr vb u) w1.heap.size 22 (.slice none 0 0) ∧ Sane w1.heap.size ownO (blW w1 vr vb u) ∧ Kept (fun _ => true) w1.heap.size ownO (w1.heap.size + 1) #[vr, vb] 25 (blW w1 vr vb u) ∧ Kept (fun _ => true) w1.heap.size ownO (w1.heap.size + 1 + 1) #[.int .i64 u] 3 (blW w1 vr vb u) ∧ (blW w1 vr vb u).heap.size = w1.heap.size + 3 ∧ Below w1.heap.size w1 (blW w1 vr vb u) := by
  have hb1 : Below (w1.heap.size + 1) (w1.alloc (.cells #[.slice none 0 0] 22)) (blW w1 vr vb u) := ((Below.refl _ _).alloc (by simp) _).alloc (by simp) _
  have hb2 : Below (w1.heap.size + 1 + 1) ((w1.alloc (.cells #[.slice none 0 0] 22)).alloc (treC vr vb)) (blW w1 vr vb u) := (Below.refl _ _).alloc (by simp) _
  have h0 : (blW w1 vr vb u).heap[w1.heap.size]? = some (.cells #[.slice none 0 0] 22) := (hb1.block _ (by omega)).trans (heap_newT _ _)
  have hz : (blW w1 vr vb u).heap.size = w1.heap.size + 3 := by simp
  have hs : ownO (blW w1 vr vb u).heap[w1.heap.size]? = none := by rw [h0]; rfl
  have h1 : (blW w1 vr vb u).heap[w1.heap.size + 1]? = some (treC vr vb) := by
    have := heap_newT (w1.alloc (.cells #[.slice none 0 0] 22)) (treC vr vb)
    rw [show (w1.alloc (.cells #[.slice none 0 0] 22)).heap.size = w1.heap.size + 1 by simp] at this
    exact (hb2.block _ (by omega)).trans this
  have h2 : (blW w1 vr vb u).heap[w1.heap.size + 1 + 1]? = some (.cells #[.int .i64 u] 3) := by
    have := heap_newT ((w1.alloc (.cells #[.slice none 0 0] 22)).alloc (treC vr vb)) (.cells #[.int .i64 u] 3)
    rwa [show ((w1.alloc (.cells #[.slice none 0 0] 22)).alloc (treC vr vb)).heap.size = w1.heap.size + 1 + 1 by simp] at this
  exact ⟨h0, ⟨by omega, fun k hk => by rw [hs] at hk; cases hk⟩, ⟨h1, ⟨by omega, by omega, by rw [hs]; intro e; cases e⟩, rfl⟩, ⟨h2, ⟨by omega, by omega, by rw [hs]; intro e; cases e⟩, rfl⟩, hz, (((Below.refl _ _).alloc (Nat.le_refl _) _).alloc (by simp) _).alloc (by simp; omega) _⟩
section
variable {t : Tre} (T : RightT t)
include T
theorem RightT.pre_len {u : Int} (hu : u = 0 ∨ ∃ b ∈ t.brs, b.id = u) : (preT t u).length ≤ t.brs.length := by
  have h0 : (belT t 0).length = t.brs.length := by rw [T.all_perm.length_eq, List.length_map]
  have hl : ∀ u, (belT t u).length = (preT t u).length := fun u => by unfold belT; rw [List.length_map]
  rcases hu with rfl | ⟨b, hb, rfl⟩
  · rw [← hl, h0]; exact Nat.le_refl _
  · obtain ⟨A, C, h, -⟩ := T.all_part hb
    have := congrArg List.length h
    simp only [List.length_append] at this
    rw [← hl]
    omega
theorem RightT.off_of {u : Int} (hu : u = 0 ∨ ∃ b ∈ t.brs, b.id = u) : ∃ d, u = 0 ∧ d = 0 ∨ ∃ b ∈ t.brs, b.id = u ∧ 1 + d = depN t.brs u := by
  rcases hu with rfl | ⟨b, hb, rfl⟩
  · exact ⟨0, .inl ⟨rfl, rfl⟩⟩
  · have := T.dep_pos hb
    exact ⟨depN t.brs b.id - 1, .inr ⟨b, hb, rfl, by omega⟩⟩
end
set_option maxRecDepth 100000 in
set_option maxHeartbeats 4000000 in
theorem Below_c (t : Tre) (hz : SizT t) (u : Int) (vr vb : Value) (w : World) (B : Nat) (hB : B ≤ w.heap.size) (h : TreRep w B t vr vb) (hV : VarOk w) :
    Calls Tryz.prog 27 #[treV vr vb, .int .i64 u] w fun e w' => ∃ v', e = .returned (.tuple #[v', .int .i64 (orTopE t u)]) ∧ OwnRep 1 (flat intEnc) 3 w.heap.size w' (belR t u) v' ∧ Below w.heap.size w w' := by
  have b1 := tre_new w vr vb
  have HO := Lib.hid (orTop_c t hz u vr vb _ B (Nat.le_trans hB b1.size) (h.below (b1.mono hB)) (hV.below b1))
  have KC := Lib.hid (fun (W : World) (hW : Below (w.heap.size + 1) (w.alloc (treC vr vb)) W) => treW_at hW)
  have HT := Lib.hid (fun (W : World) (hW : Below w.heap.size w W) => (⟨Nat.le_trans hB hW.size, h.below (hW.mono hB)⟩ : B ≤ W.heap.size ∧ TreRep W B t vr vb))
  obtain ⟨Ar, cr, rfl, -⟩ := id h.tops
  obtain ⟨A, ca, rfl, -⟩ := id h.brs
  have hs1 : (w.alloc (treC (.slice Ar t.roots.length cr) (.slice A t.brs.length ca))).heap.size = w.heap.size + 1 := by simp
  by_cases he : orTopE t u = 0
  · obtain ⟨T, hu⟩ := orTop_zero he
    have hu' : u = 0 ∨ ∃ b ∈ t.brs, b.id = u := by
      by_cases h0 : u = 0
      · exact .inl h0
      · exact .inr (hu h0)
    obtain ⟨d, hud⟩ := T.off_of hu'
    have HPL := Lib.hid (Nat.le_trans (T.pre_len hu') hz.brs)
    have HR := Lib.hid (show belR t u = (preT t u).map Prod.fst by unfold belR; rw [if_neg (by simp [he])]; rfl)
    rw [he] at HO ⊢
    clear he hu hu'
    refine (callsIn_wide (n := 6)).1 ?_
    refine callsIn_of_wp_marks Tryz.func27 rfl trivial ?_ rfl
    simp only [Tryz.ntmps27, List.size_toArray, List.length_cons, List.length_nil, Nat.reduceAdd, Nat.reduceSub, Array.replicate_succ, Array.replicate_zero, List.push_toArray, List.append_toArray, List.nil_append, List.cons_append]
    gi_wp2_with fail
    refine ⟨trivial, ?_⟩
    refine (callsIn_wide.2 HO.out).mono ?_
    rintro e w1 ⟨rfl, hb1⟩
    have hb := bnd_call (Below.refl (w.heap.size + 1) _) (Nat.le_of_eq hs1.symm) hb1
    obtain ⟨z0, z1, zl⟩ := KC.out _ hb
    have hbw := b1.trans (hb.mono (Nat.le_succ _))
    gi_wp2_with fail
    refine ⟨trivial, ?_⟩
    refine (callsIn_wide.2 (walk_c _ _ _ _)).mono ?_
    rintro e w2 ⟨rfl, rfl⟩
    gi_wp2_with fail
    obtain ⟨hbx, hsn, hkt, hki, hzW, hbW⟩ := blW_at w1 (.slice Ar t.roots.length cr) (.slice A t.brs.length ca) u
    have hws : w.heap.size + 1 ≤ w1.heap.size := by have := hb.size; simp at this; omega
    have hB0 : Below w.heap.size w (blW w1 (.slice Ar t.roots.length cr) (.slice A t.brs.length ca) u) := hbw.trans (hbW.mono hbw.size)
    refine wpIn_rangeFunc_ownH rfl (by decide) (gf := 99) (lb := #[.pointer (some ⟨w1.heap.size + 1, 0, none⟩), .pointer (some ⟨w1.heap.size + 1 + 1, 0, none⟩)]) rfl trivial (enters_of Tryz.func99 (by kernel_rfl) rfl)
      (walk_stops (q := fun _ => true) (g := w1.heap.size) (f := ownO) (n := w.heap.size) (B := B) rfl rfl hz T hB hbw.size u d hud (w1.heap.size + 1 + 1) (blW w1 (.slice Ar t.roots.length cr) (.slice A t.brs.length ca) u) hsn hkt hki (HT.out _ hB0).2 _)
      Kp.trans (Kp.put hB0.size hsn.1) (Below.refl _ _) (fun _ => rfl)
      (fun pre W => RowBox 1 (flat intEnc) 3 22 (w1.heap.size + 1) w1.heap.size (fun p : List (PX t d) => p.map fun x => x.1.1) pre W ∧ Below w.heap.size w W ∧ w1.heap.size + 1 ≤ W.heap.size)
      (fun _ _ _ => False)
      (OwnFrom.and (Own.from (rowBox_own intS (flatC _) _ _ _ _ _) _) (OwnFrom.and (ownFrom_below (Nat.le_refl _) hB0.size) (fun s W W' row hs hg _ => Nat.le_trans hs hg.size)))
      (fun _ _ _ _ _ hs _ _ => hs)
      ⟨⟨_, hbx, OwnRep.nil_, by simp [Value.ownBlock]⟩, hB0, Nat.succ_le_of_lt hsn.1⟩
      (fun x a' _ => a' = { tmps := #[treV (.slice Ar t.roots.length cr) (.slice A t.brs.length ca), .int .i64 u, .pointer (some ⟨w.heap.size, 0, none⟩), undef, .slice none 0 0, .int .i64 0, .int .i64 0, .pointer (some ⟨w1.heap.size, 0, none⟩), .int .i64 x.1.1, .agg #[.slice Ar t.roots.length cr, .slice A t.brs.length ca], .int .i64 u, .int .i64 0, .int .i64 0, .bool false, undef, .agg #[.slice Ar t.roots.length cr, .slice A t.brs.length ca], .int .i64 u, .func (.func 99) #[] #[.pointer (some ⟨w1.heap.size + 1, 0, none⟩), .pointer (some ⟨w1.heap.size + 1 + 1, 0, none⟩)], .int .i64 x.1.1, .int .i64 (x.1.2 : Int), undef, undef, undef, undef, undef], defers := [] })
      ?hax ?assign ?body ?done ?stop
    case hax =>
      rintro x a' _ W W' row h3 hg hr
      exact h3
    case assign =>
      rintro l pre x W K ⟨⟨vo, hbo, hown, hne⟩, hB1, hsz⟩ hK
      gi_wp2
      exact hK _ _ ((KeepsOthers.refl _).from _) (Kp.refl _) ⟨⟨vo, hbo, hown, hne⟩, hB1, hsz⟩ rfl
    case body =>
      rintro l pre x a' W hl hr ⟨⟨vo, hbo, hown, hne⟩, hB1, hsz⟩ rfl hlt
      change OwnRep 1 (flat intEnc) 3 (w1.heap.size + 1) W (pre.map fun x => x.1.1) vo at hown
      obtain ⟨xi, hxi⟩ : ∃ xi, xi = x.1.1 := ⟨_, rfl⟩
      obtain ⟨xa, hxa⟩ : ∃ xa : Int, xa = (x.1.2 : Int) := ⟨_, rfl⟩
      rw [← hxi, ← hxa]
      have HXI := Lib.hid hxi
      clear hxi hxa z0 z1 hbx hsn hkt hki
      obtain ⟨zs, hzs⟩ : ∃ zs : List Int, zs = pre.map fun x => x.1.1 := ⟨_, rfl⟩
      have hpl : zs.length ≤ 100000 := by rw [hzs, List.length_map]; have := HPL.out; omega
      have hacc : zs ++ [xi] = (pre ++ [x]).map fun x => x.1.1 := by rw [List.map_append, HXI.out, hzs]; rfl
      rw [← hzs] at hown
      have HACC := Lib.hid hacc
      clear hzs hacc
      have hc0 := hbo.cell
      have hlto := hown.own_lt
      obtain ⟨Ao, co, rfl, -⟩ := hown.toSl intS
      have hgw : w1.heap.size < W.heap.size := by omega
      gi_wp2_with (gi_at_builtin; refine stop_intro ?_)
      refine stop_elim ?_
      refine wpListIn_append_rep rfl intS intE_ (w1.heap.size + 1) (.tmp 20) (.tmp 22) rfl rfl (hown.alloc intS _) rfl (ys := [xi]) (SlRep.one_new intS (t := 3) (x := xi) (F := fun _ => False) (w := W) (cs := intEnc xi) rfl rfl (fun b h => h.elim)) ?hF ?hn1 (by decide) ?hb1 ?_
      case hF =>
        rintro b (hb | rfl)
        · exact hb.elim
        · exact ⟨by simp, fun e => by have := (hlto _ e).2; omega⟩
      case hn1 => simp at hpl ⊢; omega
      case hb1 => simp; omega
      intro v6 w6 hown6 hg6 hat6
      have hs6 := hg6.size
      simp only [World.size_alloc] at hs6 hat6
      have hne6 : v6.ownBlock ≠ some w1.heap.size := by
        rcases hat6 with h | h
        · rw [h]; exact hne
        · rw [h]; simp; omega
      have hbo6 : Boxed w6 w1.heap.size 22 (.slice Ao zs.length co) := box_keep (hbo.alloc _) (hg6.block _ (by simp; omega) (fun e => hne e.symm))
      have hk6 : KeepsOthers W w6 := (KeepsOthers.alloc W _).trans (KeepsOthers.of_grownBy hg6 (fun j o hj ho => by
        rcases (hown.alloc intS (.cells (intEnc xi).toArray 3)).rows.2 with ⟨h1, _⟩ | ⟨g, cap, cur, h1, _, hg, _⟩
        · rw [h1] at hj; cases hj
        · rw [h1] at hj
          cases hj
          have ho' := ho.symm.trans hg
          injection ho' with ho'
          subst ho'
          rfl))
      have hKP : Kp (fun _ => true) w1.heap.size ownO w.heap.size W (w6.setCell ⟨w1.heap.size, 0, none⟩ v6) := kp_row (base := w1.heap.size + 1) _ hbo hown hown6 (by omega) (by omega) hbo6 hg6 hat6
      have hc6 := hbo6.cell
      have hf6 := hbo6.frozen
      obtain ⟨A6, c6, rfl, -⟩ := id (hown6.toSl intS)
      have hbo7 := box_set hbo6 (v' := .slice A6 (zs ++ [xi]).length c6)
      have hown7 : OwnRep 1 (flat intEnc) 3 (w1.heap.size + 1) (w6.setCell ⟨w1.heap.size, 0, none⟩ (.slice A6 (zs ++ [xi]).length c6)) (zs ++ [xi]) (.slice A6 (zs ++ [xi]).length c6) := hown6.keep (fun b hb => Below.heap_setCell _ _ _ _ (fun e => hne6 (by rw [hb, e])))
      have hlt6 : w1.heap.size < w6.heap.size := by omega
      have hown8 : OwnRep 1 (flat intEnc) 3 (w1.heap.size + 1) (w6.setCell ⟨w1.heap.size, 0, none⟩ (.slice A6 (zs ++ [xi]).length c6)) ((pre ++ [x]).map fun x => x.1.1) (.slice A6 (zs ++ [xi]).length c6) := by rw [← HACC.out]; exact hown7
      generalize ((zs ++ [xi]).length) = n2 at *
      have hB7 := hB1.trans hKP.below
      have HOWN := Lib.hid hown8
      clear hown7 hown6 hown8 hown
      gi_wp2
      exact ⟨(hk6.trans (KeepsOthers.setCell _ _ _)).from _, hKP, ⟨_, hbo7, HOWN.out, hne6⟩, hB7, by simp; omega⟩
    case done =>
      rintro D ys W hD hys ⟨⟨vo, hbo, hown, hne⟩, hB1, hsz⟩ hK
      have hc := hbo.cell
      have hgw : w1.heap.size < W.heap.size := by omega
      have HE := Lib.hid (show (ys.map fun x => x.1.1) = belR t u by rw [HR.out, ← hys, List.map_map]; rfl)
      clear hys
      gi_wp2
      refine ⟨by simp, .inl ⟨_, _, rfl, run_takeDeferred hK, ?_⟩⟩
      have hbD := belowK_b (w := w) (Nat.le_refl _) W D _ (.deferred none) (Nat.le_trans hB0.size hD) hK rfl rfl
      have hownD := (hown.frameC intS (flatC _) (sameC_grown (grownBy_putObj' W D (.deferred none)) (fun r e => by cases e; exact ⟨_, hK, rfl⟩)) (by simp)).base_le (show w.heap.size ≤ w1.heap.size + 1 by omega)
      change OwnRep 1 (flat intEnc) _ _ _ (ys.map fun x => x.1.1) _ at hownD
      rw [HE.out] at hownD
      exact ⟨_, results_tmp2 rfl _ _ _, _, rfl, hownD, hB1.trans hbD⟩
    case stop =>
      rintro D c pre W _ _ h _
      exact h.elim
  · have HR := Lib.hid (show belR t u = [] by unfold belR; rw [if_pos he])
    have hne : (orTopE t u != 0) = true := by simpa using he
    clear he
    go_enter Tryz.func27, Tryz.ntmps27
    go_wp2_with fail
    refine HO.out.mono ?_
    rintro e w1 ⟨rfl, hb1⟩
    go_wp2
    go_ret2
    exact ⟨_, rfl, by rw [HR.out]; exact OwnRep.nil_, b1.trans (hb1.mono b1.size)⟩
end Go.Proofs.YthbccfchjgihgaaGreatDoor
