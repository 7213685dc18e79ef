/- The program: Differ. -/
import Derived.Test.YtenaifmkejmdaaaGreatDoorMaps
import Derived.Test.YtenaifmkejmdaaaGreatDoorStep
import Derived.Test.YtenaifmkejmdaaaGreatDoorPlD
import Derived.Test.YtenaifmkejmdaaaGreatDoorDfC
import Derived.Test.YtenaifmkejmdaaaGreatDoorRange
import Derived.Deep.LoopGhost
namespace Go.Proofs.YtenaifmkejmdaaaGreatDoor
open Go.RowKit

section
variable {κ ν : Type} [DecidableEq κ] {P : Program} {w : World} {b : Nat} {kenc : κ → Value} {venc : ν → Value}
theorem mget_mem : ∀ (es : List (κ × ν × Nat)) (k : κ), mget es k ≠ none ↔ k ∈ es.map (·.1)
  | [], k => by simp [mget]
  | e :: es, k => by
    have ih := mget_mem es k
    unfold mget at ih ⊢
    rw [List.find?_cons]
    by_cases h : e.1 = k
    · simp [h]
    · have h' : ¬ k = e.1 := fun e => h e.symm
      simp only [h, decide_false, List.map_cons, List.mem_cons, h', false_or]
      exact ih
theorem map_len {es : List (κ × ν × Nat)} {f : κ → Option ν} (h2 : ∀ k, mget es k = f k) (hn : (es.map (·.1)).Nodup) {L : List κ} (hL : L.Nodup) (hf : ∀ k, f k ≠ none ↔ k ∈ L) : es.length = L.length := by
  have hp : (es.map (·.1)).Perm L := (List.perm_ext_iff_of_nodup hn hL).2 fun k => by rw [← mget_mem, h2, hf]
  have := hp.length_eq
  simpa using this
theorem run_maplen {t kt et ty : TypeId} (ht : P.underlying t = some (.map kt et)) {f : κ → Option ν} (h : MapF w b kenc venc f) {L : List κ} (hL : L.Nodup) (hf : ∀ k, f k ≠ none ↔ k ∈ L) : (Builtin.len_ #[t] ty #[.map (some b)]).run P w = .ok (.int .i64 L.length) w := by
  obtain ⟨es, clock, h1, h2⟩ := h
  rw [← map_len h2 h1.keys hL hf]
  simp [Builtin.len_, run_underlying ht, MapKept.run_getObj_map h1.blk, goInt, Result.andThen]
theorem wp_maplen {o : Oper} {a : Act} {K : Act → World → Prop} {Q : Exit → Act → World → Prop} (x : Operand) (t : TypeId) (ho : o.op = .call { callee := .builtin .len, args := #[x], argTypes := #[t] }) {kt et : TypeId} (ht : P.underlying t = some (.map kt et))
    {f : κ → Option ν} (h : MapF w b kenc venc f) (hm : a.eval x = .map (some b)) {L : List κ} (hL : L.Nodup) (hf : ∀ k, f k ≠ none ↔ k ∈ L) (hN : K (a.put o.dst (.int .i64 L.length)) w) : o.wp P a w K Q := by
  have hrun := run_maplen (ty := o.type) ht h hL hf
  unfold Oper.wp execOp
  simp only [ho, resolve, invoke, builtin, Sem.run_bind, Sem.run_pure, Result.andThen_ok, List.map_toArray, List.map_cons, List.map_nil, hm, hrun]
  exact hN
theorem wpList_maplen {ops : Array Oper} {rest : List Oper} {o : Oper} {a : Act} {Q : Exit → Act → World → Prop} (hg : o.guard = none) (x : Operand) (t : TypeId) (ho : o.op = .call { callee := .builtin .len, args := #[x], argTypes := #[t] }) {kt et : TypeId} (ht : P.underlying t = some (.map kt et))
    {f : κ → Option ν} (h : MapF w b kenc venc f) (hm : a.eval x = .map (some b)) {L : List κ} (hL : L.Nodup) (hf : ∀ k, f k ≠ none ↔ k ∈ L) (hN : wpList P ops Q rest (a.put o.dst (.int .i64 L.length)) w) : wpList P ops Q (o :: rest) a w :=
  wpList_plain hg fun _ hK => wp_maplen x t ho ht h hm hL hf (hK _ _ hN)
theorem step_maplen {ops : Array Oper} {o : Oper} {a : Act} {K : Act → World → Prop} {Q : Exit → Act → World → Prop} {E : Prop} (hgd : o.guard = none) (x : Operand) (t : TypeId) (ho : o.op = .call { callee := .builtin .len, args := #[x], argTypes := #[t] }) {kt et : TypeId} (ht : P.underlying t = some (.map kt et))
    {f : κ → Option ν} (h : MapF w b kenc venc f) (hm : a.eval x = .map (some b)) {L : List κ} (hL : L.Nodup) (hf : ∀ k, f k ≠ none ↔ k ∈ L) (hN : K (a.put o.dst (.int .i64 L.length)) w) : if Region.wanted o (yielded ops a.tmps) = true then Oper.wp P o a w K Q else E := by
  have hw : Region.wanted o (yielded ops a.tmps) = true := by simp [Region.wanted, hgd]
  rw [if_pos hw]
  exact wp_maplen x t ho ht h hm hL hf hN
end

theorem asc_same : ∀ {l m : List Int}, l.Pairwise (· < ·) → m.Pairwise (· < ·) → (∀ n, n ∈ l ↔ n ∈ m) → l = m
  | [], [], _, _, _ => rfl
  | [], y :: m, _, _, h => absurd ((h y).2 (by simp)) (by simp)
  | x :: l, [], _, _, h => absurd ((h x).1 (by simp)) (by simp)
  | x :: l, y :: m, hl, hm, h => by
    obtain ⟨l1, l2⟩ := List.pairwise_cons.1 hl
    obtain ⟨m1, m2⟩ := List.pairwise_cons.1 hm
    have hx := (h x).1 (by simp)
    have hy := (h y).2 (by simp)
    have hxy : x = y := by
      rcases List.mem_cons.1 hx with e | e
      · exact e
      · rcases List.mem_cons.1 hy with e2 | e2
        · exact e2.symm
        · have := m1 x e; have := l1 y e2; omega
    subst hxy
    rw [asc_same l2 m2 (fun n => ?_)]
    have hn := h n
    constructor
    · intro e
      rcases List.mem_cons.1 (hn.1 (List.mem_cons_of_mem _ e)) with e2 | e2
      · have := l1 n e; omega
      · exact e2
    · intro e
      rcases List.mem_cons.1 (hn.2 (List.mem_cons_of_mem _ e)) with e2 | e2
      · have := m1 n e; omega
      · exact e2
/-- what was collected so far: the entries that were seen -/
theorem coll_stepQ {es : List (Int × Bool × Nat)} (q : Int → Bool) {seen : List Nat} {e : Int × Bool × Nat} (hn : (es.map (·.2.2)).Nodup) (he : e ∈ es) (hs : e.2.2 ∉ seen) : (es.filter fun x => decide (x.2.2 ∈ seen ++ [e.2.2]) && q x.1).Perm ((es.filter fun x => decide (x.2.2 ∈ seen) && q x.1) ++ if q e.1 = true then [e] else []) := by
  induction es with
  | nil => cases he
  | cons x l ih =>
    rw [List.map_cons, List.nodup_cons] at hn
    rcases List.mem_cons.1 he with rfl | he
    · have hx : e.2.2 ∉ l.map (·.2.2) := hn.1
      have hl : (l.filter fun x => decide (x.2.2 ∈ seen ++ [e.2.2]) && q x.1) = l.filter fun x => decide (x.2.2 ∈ seen) && q x.1 := List.filter_congr fun y hy => by
        have : y.2.2 ≠ e.2.2 := fun h => hx (h ▸ List.mem_map.2 ⟨y, hy, rfl⟩)
        simp [this]
      rw [List.filter_cons, List.filter_cons, hl]
      cases hb : q e.1
      · simp
      · simp only [hs, List.mem_append, List.mem_singleton, or_true, decide_true, Bool.true_and, if_true, decide_false, Bool.false_and]
        simp only [Bool.false_eq_true, if_false]
        exact (List.perm_append_comm (l₁ := [e]))
    · have hne : x.2.2 ≠ e.2.2 := fun h => hn.1 (h ▸ List.mem_map.2 ⟨e, he, rfl⟩)
      have ih := ih hn.2 he
      rw [List.filter_cons, List.filter_cons]
      have hc : (decide (x.2.2 ∈ seen ++ [e.2.2]) && q x.1) = (decide (x.2.2 ∈ seen) && q x.1) := by simp [hne]
      rw [hc]
      split
      · rw [List.cons_append]; exact ih.cons _
      · exact ih
def numL (a b : List Item) : List Int := (a ++ b).map Item.number
theorem dif_is {a b : TL} (ha : rightB a = true) (hb : rightB b = true) {es : List (Int × Bool × Nat)} (hk : (es.map (·.1)).Nodup) (hf : ∀ k, k ∈ es.map (·.1) ↔ k ∈ numL a.items b.items) {ys : List Int} (hp : ys.Perm ((es.filter fun e => difB a.items b.items e.1).map (·.1))) {zs : List Int} (hz : zs.Perm ys) (hs : zs.Pairwise (· ≤ ·)) : zs = difF a.items b.items := by
  have hn : ((es.filter fun e => difB a.items b.items e.1).map (·.1)).Nodup := hk.sublist (List.Sublist.map _ List.filter_sublist)
  have hny : zs.Nodup := (hz.trans hp).nodup_iff.2 hn
  have hasc : zs.Pairwise (· < ·) := (List.Pairwise.and hs hny).imp fun ⟨h1, h2⟩ => by omega
  refine asc_same hasc (difF_asc _ _) fun n => ?_
  rw [(hz.trans hp).mem_iff, difF_mem, List.mem_map]
  have oa := right_ok ha
  have ob := right_ok hb
  constructor
  · rintro ⟨e, he, rfl⟩
    obtain ⟨h1, h2⟩ := List.mem_filter.1 he
    have hm := (hf e.1).1 (List.mem_map.2 ⟨e, h1, rfl⟩)
    obtain ⟨x, hx, e1⟩ := List.mem_map.1 hm
    refine ⟨?_, h2⟩
    rcases List.mem_append.1 hx with hx | hx
    · rw [← e1]; exact (oa.item x hx).number
    · rw [← e1]; exact (ob.item x hx).number
  · rintro ⟨_, h2⟩
    have hm : n ∈ numL a.items b.items := by
      unfold numL
      rcases difB_num h2 with ⟨x, hx, e⟩ | ⟨x, hx, e⟩
      · exact List.mem_map.2 ⟨x, List.mem_append_left _ hx, e⟩
      · exact List.mem_map.2 ⟨x, List.mem_append_right _ hx, e⟩
    obtain ⟨e, he, e1⟩ := List.mem_map.1 ((hf n).2 hm)
    exact ⟨e, List.mem_filter.2 ⟨he, by rw [e1]; exact h2⟩, e1⟩
def difE (a b : TL) : Int := if rightB a = true ∧ rightB b = true then 0 else 1
def difL (a b : TL) : List Int := if difE a b = 0 then difF a.items b.items else []
theorem dif_wrong {a b : TL} (h : rightB a = false ∨ rightB b = false) : difE a b = 1 ∧ difL a b = [] := by
  have e : difE a b = 1 := by
    unfold difE
    rcases h with h | h <;> simp [h]
  exact ⟨e, by unfold difL; rw [e]; rfl⟩
theorem dif_right {a b : TL} (ha : rightB a = true) (hb : rightB b = true) : difE a b = 0 ∧ difL a b = difF a.items b.items := by
  have e : difE a b = 0 := by unfold difE; simp [ha, hb]
  exact ⟨e, by unfold difL; rw [if_pos e]⟩

theorem difB_fnd (a b : List Item) (n : Int) : difB a b n = ((fndB a n != fndB b n) || !eqItem (fndI a n) (fndI b n)) := by
  unfold difB fndB fndI
  cases findO a n with
  | none => cases findO b n with
    | none => simp [eqO, (eqItem_iff zItem zItem).2 rfl]
    | some y => simp [eqO]
  | some x => cases findO b n with
    | none => simp [eqO]
    | some y => simp [eqO]
/-- the state of the range over the numbers -/
structure DfAt (a b : List Item) (gm rI : Nat) (es : List (Int × Bool × Nat)) (clock : Nat) (seen : List Nat) (ys : List Int) (un : Value) (wi : World) : Prop where
  map : MapAt wi gm (fun n : Int => Value.int .i64 n) Value.bool es clock
  iter : IterAt wi rI gm clock seen
  own : OwnRep 1 (flat intEnc) 3 (rI + 1) wi ys un
  perm : ys.Perm ((es.filter fun e => decide (e.2.2 ∈ seen) && difB a b e.1).map (·.1))
theorem DfAt.next {a b : List Item} {gm rI : Nat} {es : List (Int × Bool × Nat)} {clock : Nat} {seen : List Nat} {ys : List Int} {un : Value} {wi w' : World} (h : DfAt a b gm rI es clock seen ys un wi) (hb : Below wi.heap.size wi w') : DfAt a b gm rI es clock seen ys un w' :=
  ⟨h.map.frame (hb.block _ h.map.lt), h.iter.frame (hb.block _ h.iter.lt), h.own.below intS hb, h.perm⟩
theorem DfAt.step {a b : List Item} {gm rI : Nat} {es : List (Int × Bool × Nat)} {clock : Nat} {seen : List Nat} {ys : List Int} {un : Value} {wi w' : World} {e : Int × Bool × Nat} (h : DfAt a b gm rI es clock seen ys un wi) (he : e ∈ es) (hs : e.2.2 ∉ seen) (hg : wi.grownBy w' (some rI)) :
    OwnRep 1 (flat intEnc) 3 (rI + 1) w' ys un ∧ (ys ++ if difB a b e.1 = true then [e.1] else []).Perm ((es.filter fun x => decide (x.2.2 ∈ seen ++ [e.2.2]) && difB a b x.1).map (·.1)) := by
  refine ⟨h.own.keep (fun j hj => hg.block j (h.own.own_lt j hj).2 (fun e => by injection e; have := (h.own.own_lt j hj).1; omega)), ?_⟩
  have h2 := (coll_stepQ (difB a b) h.map.born he hs).map (·.1)
  rw [List.map_append] at h2
  refine (h.perm.append_right _).trans ?_
  refine List.Perm.trans ?_ h2.symm
  split <;> simp
theorem fil_mem (fs : List Int) (k : Int) : filM fs k ≠ none ↔ k ∈ fs := by
  unfold filM
  split <;> simp_all
def difQ (a b : TL) (w : World) (e : Ending) (w' : World) : Prop := ∃ v', e = .returned (.tuple #[v', .int .i64 (difE a b)]) ∧ OwnRep 1 (flat intEnc) 3 w.heap.size w' (difL a b) v' ∧ Below w.heap.size w w'
theorem difQ_nil {a b : TL} {w w' : World} (h : rightB a = false ∨ rightB b = false) (hb : Below w.heap.size w w') : difQ a b w (.returned (.tuple #[.slice none 0 0, .int .i64 1])) w' := by
  obtain ⟨h1, h2⟩ := dif_wrong h
  exact ⟨_, by rw [h1], by rw [h2]; exact OwnRep.nil_, hb⟩
theorem smW_two {w W : World} {a b : TL} {v v' : Value} (hW : Below (w.heap.size + 2) (smW w a b v v') W) : (W.cell? ⟨w.heap.size, 0, none⟩ = some (.int .i64 a.id) ∧ W.cell? ⟨w.heap.size, 1, none⟩ = some (.int .i64 a.office) ∧ W.cell? ⟨w.heap.size, 2, none⟩ = some (.int .i64 a.day) ∧ W.cell? ⟨w.heap.size, 3, none⟩ = some v ∧ w.heap.size < W.heap.size) ∧ W.cell? ⟨w.heap.size + 1, 0, none⟩ = some (.int .i64 b.id) ∧ W.cell? ⟨w.heap.size + 1, 1, none⟩ = some (.int .i64 b.office) ∧ W.cell? ⟨w.heap.size + 1, 2, none⟩ = some (.int .i64 b.day) ∧ W.cell? ⟨w.heap.size + 1, 3, none⟩ = some v' ∧ w.heap.size + 1 < W.heap.size := by
  obtain ⟨q1, q2, -⟩ := smW_at w a b v v'
  obtain ⟨z0, z1, z2, z3, -, zl⟩ := tl_cells ((hW.block _ (by omega)).trans q1)
  obtain ⟨y0, y1, y2, y3, -, yl⟩ := tl_cells ((hW.block _ (by omega)).trans q2)
  exact ⟨⟨z0, z1, z2, z3, zl⟩, y0, y1, y2, y3, yl⟩
theorem up_two {w W : World} {a b : TL} {v v' : Value} (hW : Below (w.heap.size + 2) (smW w a b v v') W) : Below w.heap.size w W := (smW_at w a b v v').2.2.trans (hW.mono (Nat.le_add_right _ _))
set_option maxRecDepth 100000 in
set_option maxHeartbeats 8000000 in
theorem differ_c (a b : TL) (va vb : Value) (w : World) (B : Nat) (hB : B ≤ w.heap.size) (ha : TLRep w B a va) (hb : TLRep w B b vb) (hV : VarOk w) :
    Calls Tryz.prog 25 #[tlV a va, tlV b vb] w fun e w' => difQ a b w e w' := by
  have hb0 : Below (w.heap.size + 2) (smW w a b va vb) (smW w a b va vb) := Below.refl _ _
  have KC := Lib.hid (fun (W : World) (hW : Below (w.heap.size + 2) (smW w a b va vb) W) => smW_two hW)
  have HUP := Lib.hid (fun (W : World) (hW : Below (w.heap.size + 2) (smW w a b va vb) W) => up_two hW)
  have HRA := Lib.hid (fun (W : World) (hW : Below w.heap.size w W) => right_c a va W B (Nat.le_trans hB hW.size) (ha.below itmS (hW.mono hB)) (hV.below hW))
  have HRB := Lib.hid (fun (W : World) (hW : Below w.heap.size w W) => right_c b vb W B (Nat.le_trans hB hW.size) (hb.below itmS (hW.mono hB)) (hV.below hW))
  have HFA := Lib.hid (fun (n : Int) (W : World) (hW : Below w.heap.size w W) => find_c a va n W B (Nat.le_trans hB hW.size) (ha.below itmS (hW.mono hB)))
  have HFB := Lib.hid (fun (n : Int) (W : World) (hW : Below w.heap.size w W) => find_c b vb n W B (Nat.le_trans hB hW.size) (hb.below itmS (hW.mono hB)))
  have HCC := Lib.hid (fun (hn : a.items.length ≤ 1000) (hm : b.items.length ≤ 1000) (g : Nat) (W : World) (hW : Below w.heap.size w W) => concatI_c a.items b.items va vb g W B (Nat.le_trans hB hW.size) (ha.below itmS (hW.mono hB)) (hb.below itmS (hW.mono hB)) hn hm)
  obtain ⟨Aa, ca, rfl, -⟩ := id ha
  obtain ⟨Ab, cb, rfl, -⟩ := id hb
  cases hra : rightB a
  · rw [hra] at HRA
    have HX := Lib.hid hra
    clear hra
    obtain ⟨⟨z0, z1, z2, z3, zl⟩, y0, y1, y2, y3, yl⟩ := KC.out _ hb0
    go_enter Tryz.func25, Tryz.ntmps25
    go_wp2_with fail
    refine (HRA.out _ (HUP.out _ hb0)).mono ?_
    rintro e w1 ⟨rfl, hb1⟩
    have hbX := bnd_call hb0 (by simp) hb1
    go_wp2
    go_ret2
    exact difQ_nil (.inl HX.out) (HUP.out _ hbX)
  · rw [hra] at HRA
    cases hrb : rightB b
    · rw [hrb] at HRB
      have HX := Lib.hid hrb
      clear hra hrb
      obtain ⟨⟨z0, z1, z2, z3, zl⟩, y0, y1, y2, y3, yl⟩ := KC.out _ hb0
      go_enter Tryz.func25, Tryz.ntmps25
      go_wp2_with fail
      refine (HRA.out _ (HUP.out _ hb0)).mono ?_
      rintro e w1 ⟨rfl, hb1⟩
      have hbX := bnd_call hb0 (by simp) hb1
      clear z0 z1 z2 z3 zl y0 y1 y2 y3 yl hb1
      obtain ⟨⟨z0, z1, z2, z3, zl⟩, y0, y1, y2, y3, yl⟩ := KC.out _ hbX
      go_wp2_with fail
      refine (HRB.out _ (HUP.out _ hbX)).mono ?_
      rintro e w2 ⟨rfl, hb2⟩
      have hbX := bnd_call hbX (by simp) hb2
      go_wp2
      go_ret2
      exact difQ_nil (.inr HX.out) (HUP.out _ hbX)
    · rw [hrb] at HRB
      have HR := Lib.hid (And.intro hra hrb)
      have hla := (right_ok hra).len
      have hlb := (right_ok hrb).len
      have HCC := Lib.hid (HCC.out (by omega) (by omega))
      clear hra hrb
      have hmm := @run_makeMap Tryz.prog
      obtain ⟨⟨z0, z1, z2, z3, zl⟩, y0, y1, y2, y3, yl⟩ := KC.out _ hb0
      go_enter Tryz.func25, Tryz.ntmps25
      go_wp2_with fail
      refine (HRA.out _ (HUP.out _ hb0)).mono ?_
      rintro e w1 ⟨rfl, hb1⟩
      have hbX := bnd_call hb0 (by simp) hb1
      clear z0 z1 z2 z3 zl y0 y1 y2 y3 yl hb1
      obtain ⟨⟨z0, z1, z2, z3, zl⟩, y0, y1, y2, y3, yl⟩ := KC.out _ hbX
      go_wp2_with fail
      refine (HRB.out _ (HUP.out _ hbX)).mono ?_
      rintro e w2 ⟨rfl, hb2⟩
      have hbX := bnd_call hbX (by simp) hb2
      clear z0 z1 z2 z3 zl y0 y1 y2 y3 yl hb2
      have hX2 : w.heap.size + 2 ≤ w2.heap.size := by have := hbX.size; simp at this; exact this
      have bM : Below w2.heap.size w2 (w2.alloc (.map #[] 0)) := (Below.refl _ _).alloc (Nat.le_refl _) _
      have hbM := bnd_call hbX (by simp) bM
      obtain ⟨⟨z0, z1, z2, z3, zl⟩, y0, y1, y2, y3, yl⟩ := KC.out _ hbM
      have bS : Below w2.heap.size w2 ((w2.alloc (.map #[] 0)).alloc (.cells #[.slice Aa a.items.length ca, .slice Ab b.items.length cb] 22)) := bM.alloc (by simp) _
      have hbS := bnd_call hbX (by simp) bS
      have hsp := heap_newA (w2.alloc (.map #[] 0)) (.cells #[.slice Aa a.items.length ca, .slice Ab b.items.length cb] 22)
      rw [show (w2.alloc (.map #[] 0)).heap.size = w2.heap.size + 1 by simp] at hsp
      have HC := Lib.hid (HCC.out (w2.heap.size + 1) _ (HUP.out _ hbS) (by rw [Lib.cell_of_heap hsp]; rfl) (by rw [Lib.cell_of_heap hsp]; rfl))
      have HM0 := Lib.hid (MapF.new w2 (fun n : Int => Value.int .i64 n) Value.bool (g := w2.heap.size) rfl)
      have hml : w2.heap.size < (w2.alloc (.map #[] 0)).heap.size := by simp
      clear hsp
      go_wp2_with fail
      refine HC.out.mono ?_
      rintro e w3 ⟨vc, rfl, hc3, hb3⟩
      have hb23 := bS.trans (hb3.mono bS.size)
      have hbX3 := bnd_call hbX (by simp) hb23
      have hM3 : MapF w3 w2.heap.size (fun n : Int => Value.int .i64 n) Value.bool (filM ((numL a.items b.items).take 0)) := by
        rw [List.take_zero, filM_nil]
        exact (HM0.out.frame (Below.heap_alloc _ _ _ hml)).frame (hb3.block _ (by simp; omega))
      have HM3 := Lib.hid hM3
      have hc3 := hc3.base_le (base' := w2.heap.size + 1) (by simp)
      obtain ⟨Ac, nc, cc, rfl, hnc⟩ := own_form itmS hc3
      have HNC := Lib.hid (show nc = (numL a.items b.items).length by rw [hnc.out]; simp [numL])
      have HC3 := Lib.hid hc3
      have hs3 : w2.heap.size < w3.heap.size := MapF.lt hM3
      clear hmm hM3 hc3 hb3 HC HM0 hml bM bS hbM hbS z0 z1 z2 z3 zl y0 y1 y2 y3 yl hb23
      go_wp2
      go_loopw [31] (fun i wr => ∃ k : Nat, k ≤ nc ∧ i = .int .i64 k ∧ Hid (MapF wr w2.heap.size (fun n : Int => Value.int .i64 n) Value.bool (filM ((numL a.items b.items).take k))) ∧ Hid (OwnRep 7 (flat Item.enc) 47 (w2.heap.size + 1) wr (a.items ++ b.items) (.slice Ac nc cc)) ∧ Below (w.heap.size + 2) (smW w a b (.slice Aa a.items.length ca) (.slice Ab b.items.length cb)) wr ∧ w2.heap.size < wr.heap.size) (fun i _ => nc - (intOf i).toNat)
      case atStart => exact ⟨0, Nat.zero_le _, rfl, HM3, HC3, hbX3, hs3⟩
      case round =>
        clear HM3 HC3
        obtain ⟨k, hk, rfl, HM, HO, hbr, hsr⟩ := hrel
        by_cases hlt : k < nc
        · obtain ⟨x, hx⟩ := get_at (a.items ++ b.items) (i := k) (by have := HNC.out; simp [numL] at this ⊢; omega)
          obtain ⟨b9, off, rfl, hbB, g0, g1, g2, g3, g4, g5, g6⟩ := Items.at_ (HO.out.toSl itmS) hx
          have hbw : b9 < wr.heap.size := hbB
          have hki : (k : Int) < (nc : Int) := by omega
          have hwk : IntKind.i64.wrap ((k : Int) + 1) = (k : Int) + 1 := IntWalk.i64_in _ (by have := HNC.out; simp [numL] at this; omega)
          have HT := Lib.hid (show (numL a.items b.items).take (k + 1) = (numL a.items b.items).take k ++ [x.number] by unfold numL; exact take_at (by rw [List.getElem?_map, hx]; rfl))
          have b1 : Below wr.heap.size wr (wr.alloc (itmC x)) := (Below.refl _ _).alloc (Nat.le_refl _) _
          have hol := HO.out.own_lt
          clear hx
          go_wp2_with (at_mapUpdate; refine stop_intro ?_)
          refine stop_elim ?_
          refine wpList_mapPut rfl (.tmp 35) (.tmp 37) (.const (.bool true)) 84 (.inl rfl) intKindA Tryz.underlying84 (HM.out.frame (Below.heap_alloc _ _ _ hsr)) rfl x.number rfl true rfl ?_
          intro w5 hm5 hg5
          have HM5 := Lib.hid (show MapF w5 w2.heap.size (fun n : Int => Value.int .i64 n) Value.bool (filM ((numL a.items b.items).take (k + 1))) by
            rw [HT.out, ← filM_add]
            exact hm5)
          have HO5 := Lib.hid ((HO.out.below itmS b1).keep (w' := w5) (fun j hj => hg5.block j (by have := (hol j hj).2; simp; omega) (fun e => by injection e; have := (hol j hj).1; omega)))
          have hsz : w.heap.size + 2 ≤ wr.heap.size := by omega
          have hb5 := (hbr.trans (b1.mono hsz)).grown hg5 (by simp; omega) (fun j hj => by injection hj; omega)
          have hs5 : w2.heap.size < w5.heap.size := HM5.out.lt
          clear hm5 hg5
          go_wp2
          go_roundw
          case rel => exact ⟨k + 1, by omega, by go_num, HM5, HO5, hb5, hs5⟩
          case measure => simp [intOf]; omega
        · have hki : ¬ (k : Int) < (nc : Int) := by omega
          have hM := HM.out
          rw [List.take_of_length_le (by have := HNC.out; omega)] at hM
          obtain ⟨es, clock, hma, hmg⟩ := hM
          have HKEY := Lib.hid hma.keys
          have HMEM := Lib.hid (fun (n : Int) => (show n ∈ es.map (·.1) ↔ n ∈ numL a.items b.items by rw [← mget_mem, hmg n, fil_mem]))
          have hel : es.length ≤ 1000 := by
            have h1 : (es.map (·.1)).length ≤ (numL a.items b.items).length := hma.keys.length_le_of_subset (fun n hn => (HMEM.out n).1 hn)
            have h2 : (numL a.items b.items).length = a.items.length + b.items.length := by simp [numL]
            rw [List.length_map] at h1
            omega
          go_wp2_with (with_reducible refine stop_range ?_)
          refine stop_elim ?_
          refine wpList_rng rfl (.tmp 39) rfl Tryz.underlying84 hma rfl (r := wr.heap.size) rfl ?_
          intro w6 hma6 hit6 hw6
          have h6 : Below wr.heap.size wr w6 := by rw [hw6]; exact (Below.refl _ _).alloc (Nat.le_refl _) _
          have hz6 : w6.heap.size = wr.heap.size + 1 := by rw [hw6]; simp
          have hb6 := bnd_call hbr (by simp) h6
          have HD0 := Lib.hid (show DfAt a.items b.items w2.heap.size wr.heap.size es clock [] [] (.slice none 0 0) w6 from ⟨hma6, hit6, OwnRep.nil_, by simp⟩)
          have hwr2 : w.heap.size + 2 ≤ wr.heap.size := by have := hbr.size; simp at this; omega
          have HEL := Lib.hid hel
          clear hma hmg hma6 hit6 hw6 HM HO
          obtain ⟨wo, hwo⟩ : ∃ wo : World, wo = wr := ⟨_, rfl⟩
          subst hwo
          go_wp2
          go_frame
          go_loopg [9] es.length (fun gk un wi => ∃ (seen : List Nat) (ys : List Int) (uv : Value), (es.filter fun e => !decide (e.2.2 ∈ seen)).length ≤ gk ∧ uv = un ∧ Hid (DfAt a.items b.items w2.heap.size wo.heap.size es clock seen ys uv wi) ∧ Below (w.heap.size + 2) (smW w a b (.slice Aa a.items.length ca) (.slice Ab b.items.length cb)) wi)
          case atStart => exact ⟨[], [], _, List.length_filter_le _ _, rfl, HD0, hb6⟩
          case round =>
            clear HD0
            obtain ⟨seen, ys, uv, hgk, rfl, HD, hbi⟩ := hrel
            obtain ⟨Au, nu, cu, rfl, hnu⟩ := own_form intS HD.out.own
            have HYL := Lib.hid (show ys.length ≤ es.length by
              rw [HD.out.perm.length_eq, List.length_map]
              exact List.length_filter_le _ _)
            have hgm : w2.heap.size < wo.heap.size := by omega
            have hri : wo.heap.size < wr.heap.size := HD.out.iter.lt
            go_wp2_with (with_reducible refine stop_next ?_)
            refine stop_elim ?_
            refine wpList_nxt rfl (.tmp 40) rfl HD.out.map HD.out.iter rfl ?_ ?_
            · intro hall
              have hfin : ys.Perm ((es.filter fun e => difB a.items b.items e.1).map (·.1)) := by
                have := HD.out.perm
                rwa [show (es.filter fun e => decide (e.2.2 ∈ seen) && difB a.items b.items e.1) = es.filter fun e => difB a.items b.items e.1 from List.filter_congr fun e he => by simp [hall e he]] at this
              have HFIN := Lib.hid hfin
              have HSI := Lib.hid (sortInts_c ys _ (wo.heap.size + 1) wr HD.out.own (by have := HYL.out; have := HEL.out; omega))
              have HOL := Lib.hid HD.out.own.own_lt
              clear hall hfin hgk HD
              go_wp2_with fail
              refine HSI.out.mono ?_
              rintro e w9 ⟨rfl, zs, hzp, hzs, hown9, hg9⟩
              have hz := dif_is HR.out.1 HR.out.2 HKEY.out HMEM.out HFIN.out hzp hzs
              have hdr := dif_right HR.out.1 HR.out.2
              have HB9 := Lib.hid (hbi.grown hg9 (by omega) (fun j hj => by have := (HOL.out j hj).1; omega))
              have HQ := Lib.hid (show OwnRep 1 (flat intEnc) 3 w.heap.size w9 (difL a b) (.slice Au nu cu) by rw [hdr.2, ← hz]; exact hown9.base_le (by omega))
              have HE := Lib.hid hdr.1
              clear hzp hzs hown9 hg9 hz hdr
              go_wp2
              go_ret2
              exact ⟨.slice Au nu cu, by rw [HE.out]; rfl, HQ.out, HUP.out _ HB9.out⟩
            · rintro ⟨en, eb, et⟩ he hes w15 hm15 hi15 hg15
              obtain ⟨hys15, hperm⟩ := HD.out.step he hes hg15
              have hun := unseen_less he hes
              have hb15 := hbi.grown hg15 (by omega) (fun j hj => by injection hj; omega)
              have hperm := Lib.hid hperm
              clear HD hg15
              go_wp2_with (with_reducible refine stop_entry ?_)
              refine stop_elim ?_
              refine wpList_ent rfl (.tmp 40) rfl hm15 he hi15 rfl ?_
              obtain ⟨⟨z0, z1, z2, z3, zl⟩, y0, y1, y2, y3, yl⟩ := KC.out _ hb15
              go_wp2_with fail
              refine (HFA.out en _ (HUP.out _ hb15)).mono ?_
              rintro e w7 ⟨rfl, hb7⟩
              obtain ⟨x, hx⟩ : ∃ x, fndI a.items en = x := ⟨_, rfl⟩
              obtain ⟨p, hp⟩ : ∃ p, fndB a.items en = p := ⟨_, rfl⟩
              rw [hx, hp]
              have bx : Below w7.heap.size w7 (w7.alloc (itmC x)) := (Below.refl _ _).alloc (Nat.le_refl _) _
              have hb7x := hb7.trans (bx.mono hb7.size)
              have hbA := bnd_call hb15 (by simp) hb7x
              have hbx0 : Below (w7.heap.size + 1) (w7.alloc (itmC x)) (w7.alloc (itmC x)) := Below.refl _ _
              clear z0 z1 z2 z3 zl y0 y1 y2 y3 yl
              obtain ⟨⟨z0, z1, z2, z3, zl⟩, y0, y1, y2, y3, yl⟩ := KC.out _ hbA
              go_wp2_with fail
              refine (HFB.out en _ (HUP.out _ hbA)).mono ?_
              rintro e w8 ⟨rfl, hb8⟩
              obtain ⟨y, hy⟩ : ∃ y, fndI b.items en = y := ⟨_, rfl⟩
              obtain ⟨q, hq⟩ : ∃ q, fndB b.items en = q := ⟨_, rfl⟩
              rw [hy, hq]
              have HDB := Lib.hid (show difB a.items b.items en = ((p != q) || !eqItem x y) by rw [difB_fnd, hx, hp, hy, hq])
              have by_ : Below w8.heap.size w8 (w8.alloc (itmC y)) := (Below.refl _ _).alloc (Nat.le_refl _) _
              have hb8y := hb8.trans (by_.mono hb8.size)
              have hbB := bnd_call hbA (by simp) hb8y
              have hbxy := bnd_call hbx0 (by simp) hb8y
              have hb15y := hb7x.trans (hb8y.mono hb7x.size)
              obtain ⟨w9, hw9⟩ : ∃ W, w8.alloc (itmC y) = W := ⟨_, rfl⟩
              have hyc := itm_at (heap_newA w8 (itmC y))
              have hyl9 := heap_ltA (heap_newA w8 (itmC y))
              obtain ⟨j0, j1, j2, j3, j4, j5, j6⟩ := hyc
              obtain ⟨i0, i1, i2, i3, i4, i5, i6, il⟩ := itmW_at hbxy
              have hO8 := hys15.below intS hb15y
              have hM8 := hm15.frame (hb15y.block _ hm15.lt)
              have hI8 := hi15.frame (hb15y.block _ hi15.lt)
              have hne := fun W : World => Item.neq x y W
              have b67 : Below w9.heap.size w9 (w9.alloc (.cells #[.int .i64 en] 3)) := (Below.refl _ _).alloc (Nat.le_refl _) _
              rw [hw9] at hbB hO8 hM8 hI8 hb15y
              clear hx hp hy hq hb7 hb7x hb8 hb8y hbx0 hbxy hm15 hi15 hys15 bx by_ z0 z1 z2 z3 zl y0 y1 y2 y3 yl hbA hb15
              have HOX := Lib.hid (hO8.below intS b67)
              have HMX := Lib.hid (hM8.frame (b67.block _ hM8.lt))
              have HIX := Lib.hid (hI8.frame (b67.block _ hI8.lt))
              have HBX := Lib.hid (bnd_call hbB (by simp) b67)
              by_cases hpq0 : p = q
              · have hpq : (p != q) = false := by simp [hpq0]
                cases hxy : eqItem x y
                · have HDT := Lib.hid (show difB a.items b.items en = true by rw [HDB.out, hpq, hxy]; rfl)
                  rw [hxy] at hne
                  subst hpq0
                  simp only [Bool.not_false] at hne
                  subst hw9
                  have hylx := hO8.own_lt
                  have hz8 := hI8.lt
                  have hz8' : wo.heap.size < w8.heap.size + 1 := by simpa using hI8.lt
                  go_wp2_with (at_builtin; refine stop_intro ?_)
                  refine stop_elim ?_
                  refine wpList_append_rep rfl intS intE_ (wo.heap.size + 1) (.tmp 65) (.tmp 67) rfl rfl (HOX.out) rfl (ys := [en]) (SlRep.one_new intS (F := fun _ => False) ?hgA (rfl : [Value.int .i64 en] = _) ?hF1A) ?FA ?nA (by decide) ?hbaseA ?_
                  case hgA => simp
                  case hF1A => exact fun _ h => h.elim
                  case FA =>
                    intro bb hbb
                    rcases hbb with hbb | hbb
                    · exact hbb.elim
                    · subst hbb
                      exact ⟨by simp, fun he => by have := (hylx _ he).2; simp at this⟩
                  case nA => have := HYL.out; have := HEL.out; simp only [List.length_cons, List.length_nil]; omega
                  case hbaseA => simp; omega
                  intro v18 w18 hown18 hg18 hat18
                  have hb18 := HBX.out.grown hg18 (by simp; omega) (fun j hj => by have := (hylx j hj).1; omega)
                  have hM18 := HMX.out.frame (w' := w18) (hg18.block _ (by have := HMX.out.lt; exact this) (fun e => by have := (hylx _ e.symm).1; omega))
                  have hI18 := HIX.out.frame (w' := w18) (hg18.block _ (by have := HIX.out.lt; exact this) (fun e => by have := (hylx _ e.symm).1; omega))
                  have HDN := Lib.hid (show DfAt a.items b.items w2.heap.size wo.heap.size es clock (seen ++ [et]) (ys ++ [en]) v18 w18 from ⟨hM18, hI18, hown18, by have := hperm.out; rw [HDT.out, if_pos rfl] at this; exact this⟩)
                  obtain ⟨A18, n18, c18, rfl, hn18⟩ := own_form intS hown18
                  clear hg18 hat18 hown18 hM18 hI18
                  go_wp2
                  go_roundg ((es.filter fun e => !decide (e.2.2 ∈ seen ++ [et])).length)
                  case measure => exact Nat.lt_of_lt_of_le hun hgk
                  case rel => exact ⟨seen ++ [et], ys ++ [en], _, Nat.le_refl _, rfl, HDN, hb18⟩
                · have HDT := Lib.hid (show difB a.items b.items en = false by rw [HDB.out, hpq, hxy]; rfl)
                  rw [hxy] at hne
                  subst hpq0
                  simp only [Bool.not_true] at hne
                  subst hw9
                  have HDN := Lib.hid (show DfAt a.items b.items w2.heap.size wo.heap.size es clock (seen ++ [et]) ys (.slice Au nu cu) (w8.alloc (itmC y)) from ⟨hM8, hI8, hO8, by have := hperm.out; rw [HDT.out, if_neg (by simp), List.append_nil] at this; exact this⟩)
                  go_wp2
                  go_roundg ((es.filter fun e => !decide (e.2.2 ∈ seen ++ [et])).length)
                  case measure => exact Nat.lt_of_lt_of_le hun hgk
                  case rel => exact ⟨seen ++ [et], ys, _, Nat.le_refl _, rfl, HDN, hbB⟩
              · have hpq : q = !p := by cases p <;> cases q <;> simp_all
                have HDT := Lib.hid (show difB a.items b.items en = true by rw [HDB.out, hpq]; simp)
                subst hpq
                subst hw9
                have hylx := hO8.own_lt
                have hz8 := hI8.lt
                have hz8' : wo.heap.size < w8.heap.size + 1 := by simpa using hI8.lt
                go_wp2_with (at_builtin; refine stop_intro ?_)
                refine stop_elim ?_
                refine wpList_append_rep rfl intS intE_ (wo.heap.size + 1) (.tmp 65) (.tmp 67) rfl rfl (HOX.out) rfl (ys := [en]) (SlRep.one_new intS (F := fun _ => False) ?hgB (rfl : [Value.int .i64 en] = _) ?hF1B) ?FB ?nB (by decide) ?hbaseB ?_
                case hgB => simp
                case hF1B => exact fun _ h => h.elim
                case FB =>
                  intro bb hbb
                  rcases hbb with hbb | hbb
                  · exact hbb.elim
                  · subst hbb
                    exact ⟨by simp, fun he => by have := (hylx _ he).2; simp at this⟩
                case nB => have := HYL.out; have := HEL.out; simp only [List.length_cons, List.length_nil]; omega
                case hbaseB => simp; omega
                intro v18 w18 hown18 hg18 hat18
                have hb18 := HBX.out.grown hg18 (by simp; omega) (fun j hj => by have := (hylx j hj).1; omega)
                have hM18 := HMX.out.frame (w' := w18) (hg18.block _ (by have := HMX.out.lt; exact this) (fun e => by have := (hylx _ e.symm).1; omega))
                have hI18 := HIX.out.frame (w' := w18) (hg18.block _ (by have := HIX.out.lt; exact this) (fun e => by have := (hylx _ e.symm).1; omega))
                have HDN := Lib.hid (show DfAt a.items b.items w2.heap.size wo.heap.size es clock (seen ++ [et]) (ys ++ [en]) v18 w18 from ⟨hM18, hI18, hown18, by have := hperm.out; rw [HDT.out, if_pos rfl] at this; exact this⟩)
                obtain ⟨A18, n18, c18, rfl, hn18⟩ := own_form intS hown18
                clear hg18 hat18 hown18 hM18 hI18
                go_wp2
                go_roundg ((es.filter fun e => !decide (e.2.2 ∈ seen ++ [et])).length)
                case measure => exact Nat.lt_of_lt_of_le hun hgk
                case rel => exact ⟨seen ++ [et], ys ++ [en], _, Nat.le_refl _, rfl, HDN, hb18⟩
end Go.Proofs.YtenaifmkejmdaaaGreatDoor
