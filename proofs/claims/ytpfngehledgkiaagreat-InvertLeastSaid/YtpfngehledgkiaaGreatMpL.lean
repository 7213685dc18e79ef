/- How many entries a map of my own has. -/
import Derived.Test.YtpfngehledgkiaaGreatMaps
import Derived.Test.YtpfngehledgkiaaGreatStep
namespace Go.Proofs.YtpfngehledgkiaaGreat
open Go.RowKit

section
variable {κ ν : Type} [DecidableEq κ] {P : Program} {w : World} {b : Nat} {kenc : κ → Value} {venc : ν → Value}
theorem mget_mem : ∀ (es : List (κ × ν × Nat)) (k : κ), mget es k ≠ none ↔ k ∈ es.map (·.1)
  | [], k => by simp [mget]
  | e :: es, k => by
    have ih := mget_mem es k
    unfold mget at ih ⊢
    rw [List.find?_cons]
    by_cases h : e.1 = k
    · simp [h]
    · have h' : ¬ k = e.1 := fun e => h e.symm
      simp only [h, decide_false, List.map_cons, List.mem_cons, h', false_or]
      exact ih
theorem map_len {es : List (κ × ν × Nat)} {f : κ → Option ν} (h2 : ∀ k, mget es k = f k) (hn : (es.map (·.1)).Nodup) {L : List κ} (hL : L.Nodup) (hf : ∀ k, f k ≠ none ↔ k ∈ L) : es.length = L.length := by
  have hp : (es.map (·.1)).Perm L := (List.perm_ext_iff_of_nodup hn hL).2 fun k => by rw [← mget_mem, h2, hf]
  have := hp.length_eq
  simpa using this
theorem run_maplen {t kt et ty : TypeId} (ht : P.underlying t = some (.map kt et)) {f : κ → Option ν} (h : MapF w b kenc venc f) {L : List κ} (hL : L.Nodup) (hf : ∀ k, f k ≠ none ↔ k ∈ L) : (Builtin.len_ #[t] ty #[.map (some b)]).run P w = .ok (.int .i64 L.length) w := by
  obtain ⟨es, clock, h1, h2⟩ := h
  rw [← map_len h2 h1.keys hL hf]
  simp [Builtin.len_, run_underlying ht, MapKept.run_getObj_map h1.blk, goInt, Result.andThen]
theorem wp_maplen {o : Oper} {a : Act} {K : Act → World → Prop} {Q : Exit → Act → World → Prop} (x : Operand) (t : TypeId) (ho : o.op = .call { callee := .builtin .len, args := #[x], argTypes := #[t] }) {kt et : TypeId} (ht : P.underlying t = some (.map kt et))
    {f : κ → Option ν} (h : MapF w b kenc venc f) (hm : a.eval x = .map (some b)) {L : List κ} (hL : L.Nodup) (hf : ∀ k, f k ≠ none ↔ k ∈ L) (hN : K (a.put o.dst (.int .i64 L.length)) w) : o.wp P a w K Q := by
  have hrun := run_maplen (ty := o.type) ht h hL hf
  unfold Oper.wp execOp
  simp only [ho, resolve, invoke, builtin, Sem.run_bind, Sem.run_pure, Result.andThen_ok, List.map_toArray, List.map_cons, List.map_nil, hm, hrun]
  exact hN
theorem wpList_maplen {ops : Array Oper} {rest : List Oper} {o : Oper} {a : Act} {Q : Exit → Act → World → Prop} (hg : o.guard = none) (x : Operand) (t : TypeId) (ho : o.op = .call { callee := .builtin .len, args := #[x], argTypes := #[t] }) {kt et : TypeId} (ht : P.underlying t = some (.map kt et))
    {f : κ → Option ν} (h : MapF w b kenc venc f) (hm : a.eval x = .map (some b)) {L : List κ} (hL : L.Nodup) (hf : ∀ k, f k ≠ none ↔ k ∈ L) (hN : wpList P ops Q rest (a.put o.dst (.int .i64 L.length)) w) : wpList P ops Q (o :: rest) a w :=
  wpList_plain hg fun _ hK => wp_maplen x t ho ht h hm hL hf (hK _ _ hN)
theorem step_maplen {ops : Array Oper} {o : Oper} {a : Act} {K : Act → World → Prop} {Q : Exit → Act → World → Prop} {E : Prop} (hgd : o.guard = none) (x : Operand) (t : TypeId) (ho : o.op = .call { callee := .builtin .len, args := #[x], argTypes := #[t] }) {kt et : TypeId} (ht : P.underlying t = some (.map kt et))
    {f : κ → Option ν} (h : MapF w b kenc venc f) (hm : a.eval x = .map (some b)) {L : List κ} (hL : L.Nodup) (hf : ∀ k, f k ≠ none ↔ k ∈ L) (hN : K (a.put o.dst (.int .i64 L.length)) w) : if Region.wanted o (yielded ops a.tmps) = true then Oper.wp P o a w K Q else E := by
  have hw : Region.wanted o (yielded ops a.tmps) = true := by simp [Region.wanted, hgd]
  rw [if_pos hw]
  exact wp_maplen x t ho ht h hm hL hf hN
end
end Go.Proofs.YtpfngehledgkiaaGreat
