/- A queue of one-cell elements in a row of the call's own, read from some place on. -/
import Derived.Test.YthabpkigflldmaaBase
namespace Go.Proofs.Ythabpkigflldmaa
open Go.RowKit

def QRow (w : World) (base : Nat) (e : TypeId) (v : Value) (vs : List Value) : Prop :=
  ∃ g o cap cur, v = .slice (some ⟨g, o, none⟩) vs.length cap ∧ base ≤ g ∧ w.heap[g]? = some (.cells cur e (0, 0)) ∧ vs.length ≤ cap ∧ cap ≤ maxLen ∧ o + cap ≤ cur.size ∧ (cur.toList.drop o).take vs.length = vs
section
variable {w w' : World} {base : Nat} {e : TypeId} {v : Value} {vs : List Value}
theorem QRow.lt (h : QRow w base e v vs) : ∀ b, v.ownBlock = some b → base ≤ b ∧ b < w.heap.size := by
  obtain ⟨g, o, cap, cur, rfl, hb, hg, _⟩ := h
  intro b hb'
  cases hb'
  refine ⟨hb, ?_⟩
  rcases Nat.lt_or_ge g w.heap.size with hlt | hge
  · exact hlt
  · rw [Array.getElem?_eq_none hge] at hg; cases hg
theorem QRow.frame (h : QRow w base e v vs) (hf : ∀ b, v.ownBlock = some b → w'.heap[b]? = w.heap[b]?) : QRow w' base e v vs := by
  obtain ⟨g, o, cap, cur, rfl, hb, hg, h1⟩ := h
  exact ⟨g, o, cap, cur, rfl, hb, (hf g rfl).trans hg, h1⟩
theorem QRow.cell {i : Nat} {u : Value} {g o cap n : Nat} (h : QRow w base e (.slice (some ⟨g, o, none⟩) n cap) vs) (hi : vs[i]? = some u) : w.cell? ⟨g, o + i, none⟩ = some u := by
  obtain ⟨g', o', cap', cur, hv, hb, hg, h1, h2, h3, h4⟩ := h
  injection hv with e1 e2 e3
  injection e1 with e1
  injection e1 with e1 e4
  subst e1 e4
  have hlt := (List.getElem?_eq_some_iff.1 hi).1
  rw [← h4, List.getElem?_take, if_pos hlt, List.getElem?_drop] at hi
  simp [World.cell?, hg]
  simpa using hi
theorem QRow.tail {u : Value} {g o cap n : Nat} (h : QRow w base e (.slice (some ⟨g, o, none⟩) n cap) (u :: vs)) : QRow w base e (.slice (some ⟨g, if cap = 1 then o else o + 1, none⟩) vs.length (cap - 1)) vs := by
  obtain ⟨g', o', cap', cur, hv, hb, hg, h1, h2, h3, h4⟩ := h
  injection hv with e1 e2 e3
  injection e1 with e1
  injection e1 with e1 e4
  subst e1 e4 e3
  simp only [List.length_cons] at h1
  by_cases hc : cap = 1
  · subst hc
    have : vs = [] := List.eq_nil_of_length_eq_zero (by omega)
    subst this
    exact ⟨g, o, 0, cur, rfl, hb, hg, by simp, by unfold maxLen; omega, by omega, by simp⟩
  · rw [if_neg hc]
    refine ⟨g, o + 1, cap - 1, cur, rfl, hb, hg, by omega, by omega, by omega, ?_⟩
    have h5 : (cur.toList.drop o).drop 1 = cur.toList.drop (o + 1) := by rw [List.drop_drop]
    rw [← h5]
    have : ((cur.toList.drop o).take (u :: vs).length).drop 1 = vs := by rw [h4]; rfl
    rw [List.drop_take] at this
    simpa using this
theorem QRow.inj {vs' : List Value} (h : QRow w base e v vs) (h' : QRow w base e v vs') : vs = vs' := by
  obtain ⟨g, o, cap, cur, rfl, _, hg, _, _, _, h5⟩ := h
  obtain ⟨g', o', cap', cur', hv, _, hg', _, _, _, h5'⟩ := h'
  injection hv with e1 e2 e3
  injection e1 with e1
  injection e1 with e1 e4
  subst e1 e4
  rw [hg] at hg'
  injection hg' with hg'
  injection hg' with hg'
  subst hg'
  rw [← h5, ← h5', e2]
theorem QRow.one_new {g : Nat} (u : Value) (hg : w.heap.size = g) (hb : base ≤ g) : QRow (w.alloc (.cells #[u] e)) base e (.slice (some ⟨g, 0, none⟩) 1 1) [u] := by
  subst hg
  exact ⟨w.heap.size, 0, 1, #[u], rfl, hb, by show (w.heap.push _)[w.heap.size]? = _; simp, by simp, by unfold maxLen; omega, by simp, by simp⟩
theorem run_append_q {P : Program} {t : TypeId} {bytes : Nat} (hE : Elem P t e 1 bytes) (ty : TypeId) (h : QRow w base e v vs) (a : Addr) (c : Nat) (u : Value) (hu : w.cell? (a.add 0) = some u) (h1 : u.oneCell' = true)
    (hn : vs.length + 1 ≤ 4294967296) (hby : bytes ≤ 4096) (hbase : base ≤ w.heap.size) :
    ∃ v' w', (Builtin.append_ #[t, t] ty #[v, .slice (some a) 1 c]).run P w = .ok v' w' ∧ QRow w' base e v' (vs ++ [u]) ∧ w.grownBy w' v.ownBlock ∧ (v'.ownBlock = v.ownBlock ∨ v'.ownBlock = some w.heap.size) := by
  obtain ⟨i, z, hi, hz, hsz, hbyt, hzs⟩ := hE.info
  have hnews : ∀ j u', [u][j]? = some u' → w.cell? (a.add j) = some u' := by
    intro j u' hj
    rcases j with _ | j
    · simp at hj; subst hj; exact hu
    · simp at hj
  have hlt := h.lt
  have hcell : ∀ g o cap n, v = .slice (some ⟨g, o, none⟩) n cap → ∀ j x, vs[j]? = some x → w.cell? ((⟨g, o, none⟩ : Addr).add j) = some x := by
    intro g o cap n hv j x hx
    rw [Addr.add_lit]
    subst hv
    exact h.cell hx
  obtain ⟨g, o, cap, cur, rfl, hb, hg, h2, h3, h4, h5⟩ := h
  by_cases hroom : vs.length + 1 ≤ cap
  · have hf := run_firstCells_some (P := P) w i.size 1 a 1 c [u] (by simp [hsz]) hnews
    have hst := run_storeCells_at (P := P) g (o + vs.length * i.size) e [u] 0 cur w hg (by simp [hsz]; omega) (by simpa using h1)
    simp only [Nat.add_zero] at hst
    refine ⟨.slice (some ⟨g, o, none⟩) (vs.length + 1) cap, w.setRow g (cur.toList.take (o + vs.length * i.size) ++ [u] ++ cur.toList.drop (o + vs.length * i.size + [u].length)).toArray, ?_, ?_, ?_, .inl rfl⟩
    · simp [Builtin.append_, run_underlying hE.und, sizeOf, typeInfo, hi, Builtin.lenOf, hroom, hf, Addr.add_lit, hst]
    · rw [hsz, Nat.mul_one]
      refine ⟨g, o, cap, _, by simp, hb, setRow_heap w g cur _ e _ hg, by simpa using hroom, h3, ?_, ?_⟩
      · simp; omega
      · have hol : (cur.toList.take (o + vs.length)).length = o + vs.length := by simp; omega
        rw [List.toList_toArray, List.append_assoc, List.drop_append_of_le_length (by omega)]
        have h6 : (cur.toList.take (o + vs.length)).drop o = vs := by
          rw [List.drop_take, Nat.add_sub_cancel_left]; exact h5
        rw [h6, ← List.append_assoc, List.take_append_of_le_length (by simp), List.take_of_length_le (by simp)]
    · exact ⟨rfl, rfl, rfl, by simp, fun k _ hk => setRow_other w g k _ (fun e => hk (by simp [Value.ownBlock, e]))⟩
  · have hb2 : (vs.length + 1) * bytes ≤ 140737488355328 := by
      have := Nat.mul_le_mul hn hby
      omega
    have hr := run_append_grow (P := P) w t ty e i z hE.und hi hz ⟨g, o, none⟩ vs.length cap vs (by rw [hsz]; simp) (hcell g o cap _ rfl) a 1 c [u] (by simp [hsz]) hnews (by omega) (by omega) (growslice_fits (by omega) (by rw [hbyt]; exact hb2))
    have hge := grownCap_ge w (vs.length + 1) cap e
    refine ⟨_, _, hr, ⟨w.heap.size, 0, _, _, by simp, hbase, heap_alloc_new w.drew _, by simpa using hge, grownCap_le_maxLen w (vs.length + 1) cap e (by unfold maxLen; omega), ?_, ?_⟩, ⟨rfl, rfl, rfl, by simp, fun k hk _ => Below.heap_alloc w.drew _ k hk⟩, .inr rfl⟩
    · simp [size_zeroCells, hzs]; omega
    · simp [List.take_append]
      exact List.take_of_length_le (by omega)
theorem wpList_append_q {P : Program} {ops : Array Oper} {rest : List Oper} {op : Oper} {a : Act} {Q : Exit → Act → World → Prop} (hgd : op.guard = none) {t : TypeId} {bytes : Nat} (hE : Elem P t e 1 bytes) (base : Nat) (s x : Operand)
    (ho : op.op = .call { callee := .builtin .append, args := #[s, x], argTypes := #[t, t] })
    (hs : a.eval s = v) (h : QRow w base e v vs) {A : Addr} {c : Nat} (hx : a.eval x = .slice (some A) 1 c) {u : Value} (hu : w.cell? (A.add 0) = some u) (h1 : u.oneCell' = true)
    (hn : vs.length + 1 ≤ 4294967296) (hby : bytes ≤ 4096) (hbase : base ≤ w.heap.size)
    (hN : ∀ v' w', QRow w' base e v' (vs ++ [u]) → w.grownBy w' v.ownBlock → (v'.ownBlock = v.ownBlock ∨ v'.ownBlock = some w.heap.size) → wpList P ops Q rest (a.put op.dst v') w') : wpList P ops Q (op :: rest) a w := by
  refine wpList_plain hgd fun K hK => ?_
  obtain ⟨v', w', hrun, h2, h3, h4⟩ := run_append_q (P := P) hE op.type h A c u hu h1 hn hby hbase
  unfold Oper.wp execOp
  simp only [ho, resolve, invoke, builtin, Sem.run_bind, Sem.run_pure, Result.andThen_ok, List.map_toArray, List.map_cons, List.map_nil, hs, hx, hrun]
  exact hK _ _ (hN v' w' h2 h3 h4)
end
end Go.Proofs.Ythabpkigflldmaa
