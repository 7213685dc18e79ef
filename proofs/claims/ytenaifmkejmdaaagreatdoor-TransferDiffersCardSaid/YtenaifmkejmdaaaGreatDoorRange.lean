/- Ranging over a map of my own, and delete: laws at the operations. -/
import Derived.Test.YtenaifmkejmdaaaGreatDoorMaps
import Derived.Maps.RangeRun
import Derived.Maps.RangeWalk
namespace Go.Proofs.YtenaifmkejmdaaaGreatDoor
open Go.RowKit

theorem stop_entry {P : Program} {ops : Array Oper} {Q : Exit → Act → World → Prop} {d : Option Tmp} {m : Operand} {ty : TypeId} {pos : String} {aft : Array Edge} {g : Option (Nat × Bool)} {rest : List Oper} {a : Act} {w : World}
    (h : Stop (wpList P ops Q (⟨d, .entry m, ty, pos, aft, g⟩ :: rest) a w)) : wpList P ops Q (⟨d, .entry m, ty, pos, aft, g⟩ :: rest) a w := h
theorem stop_range {P : Program} {ops : Array Oper} {Q : Exit → Act → World → Prop} {d : Option Tmp} {t : TypeId} {m : Operand} {ty : TypeId} {pos : String} {aft : Array Edge} {g : Option (Nat × Bool)} {rest : List Oper} {a : Act} {w : World}
    (h : Stop (wpList P ops Q (⟨d, .range t m, ty, pos, aft, g⟩ :: rest) a w)) : wpList P ops Q (⟨d, .range t m, ty, pos, aft, g⟩ :: rest) a w := h
theorem stop_next {P : Program} {ops : Array Oper} {Q : Exit → Act → World → Prop} {d : Option Tmp} {m : Operand} {s : Bool} {ty : TypeId} {pos : String} {aft : Array Edge} {g : Option (Nat × Bool)} {rest : List Oper} {a : Act} {w : World}
    (h : Stop (wpList P ops Q (⟨d, .next m s, ty, pos, aft, g⟩ :: rest) a w)) : wpList P ops Q (⟨d, .next m s, ty, pos, aft, g⟩ :: rest) a w := h
theorem unseen_less {κ ν : Type} {es : List (κ × ν × Nat)} {seen : List Nat} {e : κ × ν × Nat} (he : e ∈ es) (hs : e.2.2 ∉ seen) :
    (es.filter fun x => !decide (x.2.2 ∈ seen ++ [e.2.2])).length < (es.filter fun x => !decide (x.2.2 ∈ seen)).length := by
  have : (es.filter fun x => !decide (x.2.2 ∈ seen ++ [e.2.2])) = (es.filter fun x => !decide (x.2.2 ∈ seen)).filter fun x => !decide (x.2.2 = e.2.2) := by
    rw [List.filter_filter]
    apply List.filter_congr
    intro x _
    simp [Bool.and_comm]
  rw [this]
  refine Nat.lt_of_le_of_ne (List.length_filter_le _ _) fun heq => ?_
  have hall := List.length_filter_eq_length_iff.1 heq e (List.mem_filter.2 ⟨he, by simpa using hs⟩)
  simp at hall

section
variable {κ ν : Type} [DecidableEq κ] {P : Program} {w w' : World} {b r : Nat} {kenc : κ → Value} {venc : ν → Value} {es : List (κ × ν × Nat)} {clock : Nat}

def IterAt (w : World) (r b clock : Nat) (seen : List Nat) : Prop := w.heap[r]? = some (.mapIter (some b) clock seen.toArray clock)
theorem IterAt.frame {seen : List Nat} (h : IterAt w r b clock seen) (hb : w'.heap[r]? = w.heap[r]?) : IterAt w' r b clock seen := hb.trans h
theorem IterAt.lt {seen : List Nat} (h : IterAt w r b clock seen) : r < w.heap.size := by
  rcases Nat.lt_or_ge r w.heap.size with hlt | hge
  · exact hlt
  · unfold IterAt at h; rw [Array.getElem?_eq_none hge] at h; cases h
theorem MapAt.lt (h : MapAt w b kenc venc es clock) : b < w.heap.size := MapF.lt ⟨es, clock, h, fun _ => rfl⟩
omit [DecidableEq κ] in
theorem MapAt.ne_iter {seen : List Nat} (h : MapAt w b kenc venc es clock) (hi : IterAt w r b clock seen) : b ≠ r := by
  rintro rfl
  have h1 := h.blk
  unfold IterAt at hi
  rw [hi] at h1
  cases h1

theorem eraseIdx_filter : ∀ (es : List (κ × ν × Nat)) (j : Nat) (e : κ × ν × Nat), es[j]? = some e → (es.map (·.1)).Nodup → es.eraseIdx j = es.filter fun x => !decide (x.1 = e.1)
  | [], j, e, hj, _ => by simp at hj
  | x :: es, 0, e, hj, hn => by
    simp at hj
    subst hj
    simp only [List.map_cons, List.nodup_cons] at hn
    have : es.filter (fun y => !decide (y.1 = x.1)) = es := by
      rw [List.filter_eq_self]
      intro y hy
      have : y.1 ≠ x.1 := fun he => hn.1 (he ▸ List.mem_map.2 ⟨y, hy, rfl⟩)
      simp [this]
    simp [this]
  | x :: es, j + 1, e, hj, hn => by
    have hj' : es[j]? = some e := by simpa using hj
    simp only [List.map_cons, List.nodup_cons] at hn
    have hx : x.1 ≠ e.1 := fun he => hn.1 (by rw [he]; exact List.mem_map.2 ⟨e, List.mem_of_getElem? hj', rfl⟩)
    rw [List.eraseIdx_cons_succ, eraseIdx_filter es j e hj' hn.2]
    simp [hx]

omit [DecidableEq κ] in
theorem MapAt.sub (h : MapAt w b kenc venc es clock) (p : κ × ν × Nat → Bool) (hb : w'.heap[b]? = some (.map ((es.filter p).map (entOf kenc venc)).toArray clock)) : MapAt w' b kenc venc (es.filter p) clock :=
  ⟨hb, (List.filter_sublist.map _).nodup h.keys, (List.filter_sublist.map _).nodup h.born, fun e he => h.old e ((List.mem_filter.1 he).1)⟩

theorem run_delete_at {t kt et : TypeId} (hK : KeyKind P kt kenc) (ht : P.underlying t = some (.map kt et)) (h : MapAt w b kenc venc es clock) (k : κ) (ty : TypeId) :
    ∃ w', (Builtin.delete_ #[t, kt] ty #[.map (some b), kenc k]).run P w = .ok (.tuple #[]) w' ∧ MapAt w' b kenc venc (es.filter fun x => !decide (x.1 = k)) clock ∧ w.grownBy w' (some b) := by
  have hlt := h.lt
  obtain ⟨d, hd, hs⟩ := hK.desc
  rcases mget_cases (venc := venc) hs k es 0 with ⟨g1, g2, g3⟩ | ⟨j, e, g1, g2, g3, g4⟩
  · have hf : es.filter (fun x => !decide (x.1 = k)) = es := by
      rw [List.filter_eq_self]
      intro x hx
      simp [g2 x hx]
    refine ⟨setBlk w b (.map (es.map (entOf kenc venc)).toArray clock), ?_, h.sub _ (by rw [hf]; exact setBlk_at _ hlt), grownBy_setBlk _ _ _⟩
    simp [Builtin.delete_, run_underlying ht, MapKept.run_getObj_map h.blk, hK.check, Instr.findKey, run_underlying hd, g3, MapKept.run_setObj_map _ h.blk, Result.andThen, setBlk]
  · subst g2
    have hf := eraseIdx_filter es j e g1 h.keys
    refine ⟨setBlk w b (.map ((es.filter fun x => !decide (x.1 = e.1)).map (entOf kenc venc)).toArray clock), ?_, h.sub _ (setBlk_at _ hlt), grownBy_setBlk _ _ _⟩
    have hm : (es.map (entOf kenc venc)).eraseIdx j = (es.filter fun x => !decide (x.1 = e.1)).map (entOf kenc venc) := by rw [← hf]; exact (ChangeMaps.map_eraseIdx _ _ _).symm
    simp only [Nat.zero_add] at g4
    simp [Builtin.delete_, run_underlying ht, MapKept.run_getObj_map h.blk, hK.check, Instr.findKey, run_underlying hd, g4, MapKept.run_setObj_map _ h.blk, Result.andThen, setBlk, hm]

section
variable {ops : Array Oper} {rest : List Oper} {o : Oper} {a : Act} {Q : Exit → Act → World → Prop}
theorem wpList_del (hg : o.guard = none) (m x : Operand) {t kt et : TypeId} (hop : o.op = Op.call { callee := Callee.builtin Builtin.delete, args := #[m, x], argTypes := #[t, kt] }) (hK : KeyKind P kt kenc) (ht : P.underlying t = some (.map kt et))
    (h : MapAt w b kenc venc es clock) (hm : a.eval m = .map (some b)) (k : κ) (hx : a.eval x = kenc k)
    (hN : ∀ w', MapAt w' b kenc venc (es.filter fun x => !decide (x.1 = k)) clock → w.grownBy w' (some b) → wpList P ops Q rest (a.put o.dst (.tuple #[])) w') : wpList P ops Q (o :: rest) a w := by
  refine wpList_plain hg fun K' hK' => ?_
  obtain ⟨w', hrun, r1, r2⟩ := run_delete_at hK ht h k o.type
  unfold Oper.wp
  simp [execOp, hop, resolve, invoke, builtin, hm, hx, hrun, Result.andThen]
  exact hK' _ _ (hN w' r1 r2)
theorem wpList_rng (hg : o.guard = none) (m : Operand) {t kt et : TypeId} (hop : o.op = Op.range t m) (ht : P.underlying t = some (.map kt et)) (h : MapAt w b kenc venc es clock) (hm : a.eval m = .map (some b)) (hr : w.heap.size = r)
    (hN : ∀ w', MapAt w' b kenc venc es clock → IterAt w' r b clock [] → w' = w.alloc (.mapIter (some b) clock #[] clock) → wpList P ops Q rest (a.put o.dst (.pointer (some ⟨r, 0, none⟩))) w') : wpList P ops Q (o :: rest) a w := by
  subst hr
  refine wpList_plain hg fun K' hK' => ?_
  have hrun : (Instr.range t (.map (some b))).run P w = .ok (.pointer (some ⟨w.heap.size, 0, none⟩)) (w.alloc (.mapIter (some b) clock #[] clock)) := by
    simp [Instr.range, run_underlying ht, MapKept.run_getObj_map h.blk, Result.andThen]
  unfold Oper.wp
  simp [execOp, hop, hm, hrun, Result.andThen]
  exact hK' _ _ (hN _ (h.frame (Below.heap_alloc _ _ _ h.lt)) (by show (w.heap.push _)[w.heap.size]? = _; simp) rfl)
theorem wpList_nxt (hg : o.guard = none) (it : Operand) (hop : o.op = Op.next it false) (h : MapAt w b kenc venc es clock) {seen : List Nat} (hi : IterAt w r b clock seen) (hit : a.eval it = .pointer (some ⟨r, 0, none⟩))
    (h1 : (∀ e ∈ es, e.2.2 ∈ seen) → wpList P ops Q rest (a.put o.dst (.tuple #[.bool false])) w)
    (h2 : ∀ e ∈ es, e.2.2 ∉ seen → ∀ w', MapAt w' b kenc venc es clock → IterAt w' r b clock (seen ++ [e.2.2]) → w.grownBy w' (some r) → wpList P ops Q rest (a.put o.dst (.tuple #[.bool true, kenc e.1, venc e.2.1])) w') : wpList P ops Q (o :: rest) a w := by
  refine wpList_plain hg fun K' hK' => ?_
  have hne := h.ne_iter hi
  have hlt := hi.lt
  have hmem : ∀ x, x ∈ (leftOf (es.map (entOf kenc venc)).toArray seen.toArray).toList ↔ ∃ e ∈ es, e.2.2 ∉ seen ∧ x = entOf kenc venc e := by
    intro x
    unfold leftOf
    simp only [Array.toList_filter, List.mem_filter, List.mem_map]
    constructor
    · rintro ⟨⟨e, he, rfl⟩, hs⟩
      exact ⟨e, he, by simpa [entOf] using hs, rfl⟩
    · rintro ⟨e, he, hs, rfl⟩
      exact ⟨⟨e, he, rfl⟩, by simpa [entOf] using hs⟩
  rcases run_next_at (P := P) w o.type r b clock clock seen.toArray (es.map (entOf kenc venc)).toArray clock hi h.blk (fun x hx => by
      simp only [List.mem_map] at hx
      obtain ⟨e, he, rfl⟩ := hx
      exact h.old e he) (Nat.le_refl _) with ⟨h0, hrun⟩ | ⟨x, hx, w1, hw1, hrun⟩
  · unfold Oper.wp
    simp [execOp, hop, hit, hrun, Result.andThen]
    refine hK' _ _ (h1 fun e he => ?_)
    by_cases hs : e.2.2 ∈ seen
    · exact hs
    · have hin := (hmem (entOf kenc venc e)).2 ⟨e, he, hs, rfl⟩
      have hnil : (leftOf (es.map (entOf kenc venc)).toArray seen.toArray).toList = [] := List.eq_nil_of_length_eq_zero (by simpa using h0)
      rw [hnil] at hin
      cases hin
  · obtain ⟨e, he, hs, rfl⟩ := (hmem x).1 hx
    unfold Oper.wp
    simp [execOp, hop, hit, hrun, Result.andThen]
    have hgw : w.grownBy w1 (some r) := by rcases hw1 with rfl | rfl <;> exact ⟨rfl, rfl, rfl, Nat.le_refl _, fun _ _ _ => rfl⟩
    have hlt1 : r < w1.heap.size := by rcases hw1 with rfl | rfl <;> exact hlt
    have hgb : w.grownBy (ChangeMaps.setBlock w1 r (.mapIter (some b) clock (seen ++ [(entOf kenc venc e).born]).toArray clock)) (some r) := World.grownBy.trans hgw (grownBy_setBlk w1 r _)
    refine hK' _ _ (h2 e he hs _ (h.frame (hgb.block b h.lt (fun e => hne (by injection e)))) ?_ hgb)
    show (setBlk w1 r _).heap[r]? = _
    rw [setBlk_at _ hlt1]
    rfl
omit [DecidableEq κ] in
theorem wpList_ent (hg : o.guard = none) (it : Operand) (hop : o.op = Op.entry it) (h : MapAt w b kenc venc es clock) {seen : List Nat} {e : κ × ν × Nat} (he : e ∈ es) (hi : IterAt w r b clock (seen ++ [e.2.2])) (hit : a.eval it = .pointer (some ⟨r, 0, none⟩))
    (hN : wpList P ops Q rest (a.put o.dst (.tuple #[kenc e.1, venc e.2.1])) w) : wpList P ops Q (o :: rest) a w := by
  refine wpList_plain hg fun K' hK' => ?_
  have hrun := run_entry_at (P := P) w r b clock seen.toArray (es.map (entOf kenc venc)).toArray clock (entOf kenc venc e) (by unfold IterAt at hi; rw [hi]; simp [entOf]) h.blk (by rw [List.toList_toArray]; exact List.mem_map.2 ⟨e, he, rfl⟩) (by simpa [List.map_map, Function.comp_def, entOf] using h.born)
  unfold Oper.wp
  simp [execOp, hop, hit, hrun, Result.andThen]
  exact hK' _ _ hN
end
end
end Go.Proofs.YtenaifmkejmdaaaGreatDoor
