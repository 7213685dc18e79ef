/- Maps of my own: a map block that reads as a function from keys to values. -/
import Derived.Test.YtbmlnflacdockaaGreatDoorBase
import Derived.Maps.OwnSet
import Derived.MapKept
namespace Go.Proofs.YtbmlnflacdockaaGreatDoor
open Go.RowKit

/-- a key type whose keys are compared at once -/
structure KeyKind (P : Program) (kt : TypeId) {κ : Type} [DecidableEq κ] (kenc : κ → Value) : Prop where
  desc : ∃ d, P.underlying kt = some d ∧ ∀ a b, Instr.sameNow d (kenc a) (kenc b) = some (decide (a = b))
  check : ∀ (w : World) (e : Bool) (k : κ), (Instr.checkKey e 10000 kt (kenc k)).run P w = .ok () w
  bits : ∀ k, Instr.sameBits 10000 (kenc k) (kenc k) = true

section
variable {κ ν : Type} [DecidableEq κ] {P : Program} {w w' : World} {b : Nat} {kenc : κ → Value} {venc : ν → Value}

def entOf (kenc : κ → Value) (venc : ν → Value) (e : κ × ν × Nat) : MapEntry := ⟨kenc e.1, venc e.2.1, e.2.2⟩
structure MapAt (w : World) (b : Nat) (kenc : κ → Value) (venc : ν → Value) (es : List (κ × ν × Nat)) (clock : Nat) : Prop where
  blk : w.heap[b]? = some (.map (es.map (entOf kenc venc)).toArray clock)
  keys : (es.map (·.1)).Nodup
  born : (es.map (·.2.2)).Nodup
  old : ∀ e ∈ es, e.2.2 < clock
def mget (es : List (κ × ν × Nat)) (k : κ) : Option ν := (es.find? fun e => decide (e.1 = k)).map (·.2.1)
def MapF (w : World) (b : Nat) (kenc : κ → Value) (venc : ν → Value) (f : κ → Option ν) : Prop := ∃ es clock, MapAt w b kenc venc es clock ∧ ∀ k, mget es k = f k
def upd (f : κ → Option ν) (k : κ) (v : ν) : κ → Option ν := fun k' => if k' = k then some v else f k'
def del (f : κ → Option ν) (k : κ) : κ → Option ν := fun k' => if k' = k then none else f k'

theorem mget_cases {d : TypeDesc} (hd : ∀ a b, Instr.sameNow d (kenc a) (kenc b) = some (decide (a = b))) (k : κ) : ∀ (es : List (κ × ν × Nat)) (i : Nat),
    (mget es k = none ∧ (∀ e ∈ es, e.1 ≠ k) ∧ Instr.findNow d (kenc k) (es.map (entOf kenc venc)) i = some none) ∨
    ∃ j e, es[j]? = some e ∧ e.1 = k ∧ mget es k = some e.2.1 ∧ Instr.findNow d (kenc k) (es.map (entOf kenc venc)) i = some (some (i + j, venc e.2.1))
  | [], i => .inl ⟨rfl, by simp, rfl⟩
  | e :: es, i => by
    by_cases he : e.1 = k
    · refine .inr ⟨0, e, rfl, he, by simp [mget, he], ?_⟩
      simp [Instr.findNow, entOf, hd, he]
    · have he' : ¬ k = e.1 := fun h => he h.symm
      rcases mget_cases hd k es (i + 1) with ⟨h1, h2, h3⟩ | ⟨j, e', h1, h2, h3, h4⟩
      · refine .inl ⟨by simpa [mget, he] using h1, by simpa [he] using h2, ?_⟩
        simp only [List.map_cons, Instr.findNow, entOf, hd, decide_eq_false he']
        exact h3
      · refine .inr ⟨j + 1, e', by simpa using h1, h2, by simpa [mget, he] using h3, ?_⟩
        simp only [List.map_cons, Instr.findNow, entOf, hd, decide_eq_false he']
        rw [show i + (j + 1) = i + 1 + j by omega]
        exact h4

omit [DecidableEq κ] in
theorem MapAt.frame {es : List (κ × ν × Nat)} {clock : Nat} (h : MapAt w b kenc venc es clock) (hb : w'.heap[b]? = w.heap[b]?) : MapAt w' b kenc venc es clock := ⟨hb.trans h.blk, h.keys, h.born, h.old⟩
theorem MapF.frame {f : κ → Option ν} (h : MapF w b kenc venc f) (hb : w'.heap[b]? = w.heap[b]?) : MapF w' b kenc venc f := by
  obtain ⟨es, clock, h1, h2⟩ := h
  exact ⟨es, clock, h1.frame hb, h2⟩
theorem MapF.lt {f : κ → Option ν} (h : MapF w b kenc venc f) : b < w.heap.size := by
  obtain ⟨es, clock, h1, _⟩ := h
  rcases Nat.lt_or_ge b w.heap.size with hlt | hge
  · exact hlt
  · have := h1.blk
    rw [Array.getElem?_eq_none hge] at this
    cases this
theorem MapF.below {f : κ → Option ν} {B : Nat} (h : MapF w b kenc venc f) (hb : Below B w w') (hlt : b < B) : MapF w' b kenc venc f := h.frame (hb.block b hlt)
theorem MapF.new (w : World) (kenc : κ → Value) (venc : ν → Value) {g : Nat} (hg : w.heap.size = g) : MapF (w.alloc (.map #[] 0)) g kenc venc (fun _ => none) := by
  subst hg
  exact ⟨[], 0, ⟨by show (w.heap.push _)[w.heap.size]? = _; simp, by simp, by simp, by simp⟩, fun _ => rfl⟩

theorem run_lookup_at {t kt et : TypeId} (hK : KeyKind P kt kenc) (ht : P.underlying t = some (.map kt et)) {z : Value} (hz : (zeroValue et).run P w = .ok z w) {f : κ → Option ν} (h : MapF w b kenc venc f) (k : κ) (c : Bool) :
    (Instr.lookup t (.map (some b)) (kenc k) c).run P w = .ok (match f k with | none => if c then .tuple #[z, .bool false] else z | some v => if c then .tuple #[venc v, .bool true] else venc v) w := by
  obtain ⟨es, clock, h1, h2⟩ := h
  obtain ⟨d, hd, hs⟩ := hK.desc
  rw [← h2 k]
  rcases mget_cases (venc := venc) hs k es 0 with ⟨g1, g2, g3⟩ | ⟨j, e, g1, g2, g3, g4⟩
  · rw [g1]
    simp [Instr.lookup, run_underlying ht, MapKept.run_getObj_map h1.blk, hK.check, Instr.findKey, run_underlying hd, g3, hz, Result.andThen]
  · rw [g3]
    simp [Instr.lookup, run_underlying ht, MapKept.run_getObj_map h1.blk, hK.check, Instr.findKey, run_underlying hd, g4, Result.andThen]

theorem mget_append (es : List (κ × ν × Nat)) (e : κ × ν × Nat) (hn : ∀ x ∈ es, x.1 ≠ e.1) (k : κ) : mget (es ++ [e]) k = upd (mget es) e.1 e.2.1 k := by
  unfold mget upd
  rw [List.find?_append]
  by_cases hk : k = e.1
  · subst hk
    have : es.find? (fun x => decide (x.1 = e.1)) = none := by
      rw [List.find?_eq_none]
      intro x hx
      simpa using hn x hx
    simp [this]
  · have hk' : ¬ e.1 = k := fun h => hk h.symm
    simp [hk, hk']
theorem mget_set : ∀ (es : List (κ × ν × Nat)) (j : Nat) (e e' : κ × ν × Nat), es[j]? = some e → e'.1 = e.1 → (es.map (·.1)).Nodup → ∀ k, mget (es.set j e') k = upd (mget es) e.1 e'.2.1 k
  | [], j, e, e', hj, _, _, k => by simp at hj
  | x :: es, 0, e, e', hj, h1, hn, k => by
    simp at hj
    subst hj
    by_cases hk : x.1 = k
    · have hk' : k = x.1 := hk.symm
      simp [mget, upd, h1, hk]
    · have hk' : ¬ k = x.1 := fun h => hk h.symm
      simp [mget, upd, h1, hk, hk']
  | x :: es, j + 1, e, e', hj, h1, hn, k => by
    have hj' : es[j]? = some e := by simpa using hj
    simp only [List.map_cons, List.nodup_cons] at hn
    have ih := mget_set es j e e' hj' h1 hn.2 k
    have hx : x.1 ≠ e.1 := fun he => hn.1 (by rw [he]; exact List.mem_map.2 ⟨e, List.mem_of_getElem? hj', rfl⟩)
    by_cases hk : x.1 = k
    · have : ¬ k = e.1 := fun h => hx (hk.trans h)
      simp [mget, upd, hk, this]
    · simp only [List.set_cons_succ, mget, List.find?_cons, hk, decide_false, upd] at ih ⊢
      exact ih

def setBlk (w : World) (b : Nat) (o : Obj) : World := { w with heap := w.heap.setIfInBounds b o }
theorem grownBy_setBlk (w : World) (b : Nat) (o : Obj) : w.grownBy (setBlk w b o) (some b) := by
  refine ⟨rfl, rfl, rfl, by simp [setBlk], fun i hi hne => ?_⟩
  simp only [setBlk]
  rw [Array.getElem?_setIfInBounds_ne (by intro h; subst h; exact hne rfl)]
theorem setBlk_at {w : World} {b : Nat} (o : Obj) (h : b < w.heap.size) : (setBlk w b o).heap[b]? = some o := by simp [setBlk, h]

theorem map_set_same {α β : Type} (g : α → β) (l : List α) (j : Nat) (x e : α) (h : l[j]? = some e) (hg : g x = g e) : (l.set j x).map g = l.map g := by
  apply List.ext_getElem?
  intro i
  rw [List.getElem?_map, List.getElem?_map, List.getElem?_set]
  by_cases hi : j = i
  · subst hi
    rw [if_pos rfl, if_pos (lt_of_at h), h]
    simp [hg]
  · rw [if_neg hi]

theorem run_mapUpdate_at {t kt et : TypeId} (hK : KeyKind P kt kenc) (ht : P.underlying t = some (.map kt et)) {f : κ → Option ν} (h : MapF w b kenc venc f) (k : κ) (v : ν) :
    ∃ w', (Instr.mapUpdate t (.map (some b)) (kenc k) (venc v)).run P w = .ok () w' ∧ MapF w' b kenc venc (upd f k v) ∧ w.grownBy w' (some b) := by
  have hlt := h.lt
  obtain ⟨es, clock, h1, h2⟩ := h
  obtain ⟨d, hd, hs⟩ := hK.desc
  have hf : f = mget es := funext fun k => (h2 k).symm
  subst hf
  rcases mget_cases (venc := venc) hs k es 0 with ⟨g1, g2, g3⟩ | ⟨j, e, g1, g2, g3, g4⟩
  · refine ⟨setBlk w b (.map ((es ++ [(k, v, clock)]).map (entOf kenc venc)).toArray (clock + 1)), ?_, ⟨_, _, ⟨setBlk_at _ hlt, ?_, ?_, ?_⟩, mget_append es (k, v, clock) g2⟩, grownBy_setBlk _ _ _⟩
    · simp [Instr.mapUpdate, run_underlying ht, MapKept.run_getObj_map h1.blk, hK.check, Instr.findKey, run_underlying hd, g3, MapKept.run_setObj_map _ h1.blk, Result.andThen, setBlk, entOf]
    · rw [List.map_append, List.nodup_append]
      exact ⟨h1.keys, by simp, fun a ha c hc => by
        obtain ⟨x, hx, rfl⟩ := List.mem_map.1 ha
        simp at hc
        subst hc
        exact g2 x hx⟩
    · rw [List.map_append, List.nodup_append]
      exact ⟨h1.born, by simp, fun a ha c hc => by
        obtain ⟨x, hx, rfl⟩ := List.mem_map.1 ha
        simp at hc
        subst hc
        have := h1.old x hx
        omega⟩
    · intro x hx
      rw [List.mem_append] at hx
      rcases hx with hx | hx
      · have := h1.old x hx; omega
      · simp at hx; subst hx; simp
  · have hj : j < es.length := lt_of_at g1
    have hset : ((es.set j (k, v, e.2.2)).map (entOf kenc venc)) = (es.map (entOf kenc venc)).set j ⟨kenc k, venc v, e.2.2⟩ := by rw [List.map_set]; rfl
    refine ⟨setBlk w b (.map ((es.set j (k, v, e.2.2)).map (entOf kenc venc)).toArray clock), ?_, ⟨_, _, ⟨setBlk_at _ hlt, ?_, ?_, ?_⟩, fun k' => by rw [mget_set es j e (k, v, e.2.2) g1 g2.symm h1.keys, g2]⟩, grownBy_setBlk _ _ _⟩
    · have hm : (es.map (entOf kenc venc)).modify j (fun e => { key := kenc k, val := venc v, born := e.born }) = (es.map (entOf kenc venc)).set j { key := kenc k, val := venc v, born := e.2.2 } := by
        apply List.ext_getElem?
        intro i
        rw [List.getElem?_modify, List.getElem?_set]
        by_cases hi : j = i
        · subst hi
          have : (es.map (entOf kenc venc))[j]? = some (entOf kenc venc e) := by rw [List.getElem?_map, g1]; rfl
          rw [if_pos rfl, if_pos (by simpa using hj), this]
          simp [entOf]
        · simp [hi]
      simp only [Nat.zero_add] at g4
      simp [Instr.mapUpdate, run_underlying ht, MapKept.run_getObj_map h1.blk, hK.check, Instr.findKey, run_underlying hd, g4, g1, entOf, g2, Instr.keyThatStays, hK.bits, MapKept.run_setObj_map _ h1.blk, Result.andThen, setBlk]
      rw [hm]
    · rw [map_set_same (fun x : κ × ν × Nat => x.1) es j (k, v, e.2.2) e g1 g2.symm]; exact h1.keys
    · rw [map_set_same (fun x : κ × ν × Nat => x.2.2) es j (k, v, e.2.2) e g1 rfl]; exact h1.born
    · intro x hx
      have hx' : x.2.2 ∈ (es.set j (k, v, e.2.2)).map (fun x : κ × ν × Nat => x.2.2) := List.mem_map.2 ⟨x, hx, rfl⟩
      rw [map_set_same (fun x : κ × ν × Nat => x.2.2) es j (k, v, e.2.2) e g1 rfl] at hx'
      obtain ⟨y, hy, hxy⟩ := List.mem_map.1 hx'
      rw [← hxy]
      exact h1.old y hy

section
variable {ops : Array Oper} {rest : List Oper} {o : Oper} {a : Act} {Q : Exit → Act → World → Prop}
theorem wpList_look (hg : o.guard = none) (m x : Operand) (t : TypeId) (c : Bool) (hop : o.op = Op.lookup t m x c) {kt et : TypeId} (hK : KeyKind P kt kenc) (ht : P.underlying t = some (.map kt et)) {z : Value} (hz : (zeroValue et).run P w = .ok z w)
    {f : κ → Option ν} (h : MapF w b kenc venc f) (hm : a.eval m = .map (some b)) (k : κ) (hx : a.eval x = kenc k) (val : Value)
    (hval : (match f k with | none => if c then Value.tuple #[z, .bool false] else z | some v => if c then Value.tuple #[venc v, .bool true] else venc v) = val)
    (hN : wpList P ops Q rest (a.put o.dst val) w) : wpList P ops Q (o :: rest) a w := by
  refine wpList_plain hg fun K' hK' => ?_
  have hrun := run_lookup_at hK ht hz h k c
  rw [hval] at hrun
  unfold Oper.wp
  simp [execOp, hop, hm, hx, hrun, Result.andThen]
  exact hK' _ _ hN
theorem wpList_mapPut (hg : o.guard = none) (m x y : Operand) (t : TypeId) (hop : o.op = Op.mapUpdate t m x y ∨ o.op = Op.insert t m x y) {kt et : TypeId} (hK : KeyKind P kt kenc) (ht : P.underlying t = some (.map kt et))
    {f : κ → Option ν} (h : MapF w b kenc venc f) (hm : a.eval m = .map (some b)) (k : κ) (hx : a.eval x = kenc k) (v : ν) (hy : a.eval y = venc v)
    (hN : ∀ w', MapF w' b kenc venc (upd f k v) → w.grownBy w' (some b) → wpList P ops Q rest (a.put o.dst undef) w') : wpList P ops Q (o :: rest) a w := by
  refine wpList_plain hg fun K' hK' => ?_
  obtain ⟨w', hrun, h2, h3⟩ := run_mapUpdate_at hK ht h k v
  unfold Oper.wp
  rcases hop with hop | hop
  all_goals
    simp [execOp, hop, hm, hx, hy, hrun, Result.andThen]
    exact hK' _ _ (hN w' h2 h3)
end
end
theorem stop_insert {P : Program} {ops : Array Oper} {Q : Exit → Act → World → Prop} {d : Option Tmp} {t : TypeId} {m k v : Operand} {ty : TypeId} {pos : String} {aft : Array Edge} {g : Option (Nat × Bool)} {rest : List Oper} {a : Act} {w : World}
    (h : Stop (wpList P ops Q (⟨d, .insert t m k v, ty, pos, aft, g⟩ :: rest) a w)) : wpList P ops Q (⟨d, .insert t m k v, ty, pos, aft, g⟩ :: rest) a w := h
theorem int_kind {P : Program} {kt : TypeId} (h : P.underlying kt = some (.int .i64)) : KeyKind P kt (fun n : Int => Value.int .i64 n) where
  desc := ⟨_, h, fun a b => by simp [Instr.sameNow]; rfl⟩
  check := fun w e k => MapKept.run_checkKey h (by constructor) e 9999
  bits := fun k => by simp [Instr.sameBits]
theorem string_kind {P : Program} {kt : TypeId} (h : P.underlying kt = some .string) : KeyKind P kt Value.string where
  desc := ⟨_, h, fun a b => by simp only [Instr.sameNow]; congr 1; rw [Bool.eq_iff_iff, MapKept.bytes_beq, decide_eq_true_iff]⟩
  check := fun w e k => MapKept.run_checkKey h (by constructor) e 9999
  bits := fun k => by simp [Instr.sameBits, MapKept.bytes_beq]
end Go.Proofs.YtbmlnflacdockaaGreatDoor
