/- maps.Values over the map of search: its iterator, for every loop body that keeps maps and walks. -/
import Derived.Test.YthabpkigflldmaaRev
import Derived.Test.YthabpkigflldmaaRange
import Derived.Sort.LoopGhostIn
import Derived.Sort.MapsRangeIn
namespace Go.Proofs.Ythabpkigflldmaa
open Go.RowKit Go.Shelf

attribute [local go_sem] Oper.semAt_some

theorem stopIn_entry {F : Fence} {n : Nat} {P : Program} {ops : Array Oper} {Q : Exit → Act → World → Prop} {d : Option Tmp} {m : Operand} {ty : TypeId} {pos : String} {aft : Array Edge} {g : Option (Nat × Bool)} {rest : List Oper} {a : Act} {w : World}
    (h : Stop (wpListIn F n P ops Q (⟨d, .entry m, ty, pos, aft, g⟩ :: rest) a w)) : wpListIn F n P ops Q (⟨d, .entry m, ty, pos, aft, g⟩ :: rest) a w := h
section
variable {κ ν : Type} [DecidableEq κ] {F : Fence} {n : Nat} {P : Program} {w w' : World} {b r : Nat} {kenc : κ → Value} {venc : ν → Value} {es : List (κ × ν × Nat)} {clock : Nat}
variable {ops : Array Oper} {rest : List Oper} {o : Oper} {a : Act} {Q : Exit → Act → World → Prop}
theorem wpListIn_rng (hg : o.guard = none) (m : Operand) {t kt et : TypeId} (hop : o.op = Op.range t m) (ht : P.underlying t = some (.map kt et)) (h : MapAt w b kenc venc es clock) (hm : a.eval m = .map (some b)) (hr : w.heap.size = r)
    (hN : ∀ w', MapAt w' b kenc venc es clock → IterAt w' r b clock [] → w' = w.alloc (.mapIter (some b) clock #[] clock) → wpListIn F n P ops Q rest (a.put o.dst (.pointer (some ⟨r, 0, none⟩))) w') : wpListIn F n P ops Q (o :: rest) a w := by
  subst hr
  refine wpListIn_plain hg fun K' hK' => ?_
  have hrun : (Instr.range t (.map (some b))).run P w = .ok (.pointer (some ⟨w.heap.size, 0, none⟩)) (w.alloc (.mapIter (some b) clock #[] clock)) := by
    simp [Instr.range, run_underlying ht, MapKept.run_getObj_map h.blk, Result.andThen]
  unfold Oper.wpIn
  refine ⟨?_, ?_⟩
  · simp [Oper.about, hop]
  · rw [Oper.semAt_plain F _ _ (by rw [hop]; intro c hc'; cases hc')]
    simp [execOp, hop, hm, hrun, Result.andThen]
    exact hK' _ _ (hN _ (h.frame (Below.heap_alloc _ _ _ h.lt)) (by show (w.heap.push _)[w.heap.size]? = _; simp) rfl)
theorem wpListIn_nxt (hg : o.guard = none) (it : Operand) (hop : o.op = Op.next it false) (h : MapAt w b kenc venc es clock) {seen : List Nat} (hi : IterAt w r b clock seen) (hit : a.eval it = .pointer (some ⟨r, 0, none⟩))
    (h1 : (∀ e ∈ es, e.2.2 ∈ seen) → wpListIn F n P ops Q rest (a.put o.dst (.tuple #[.bool false])) w)
    (h2 : ∀ e ∈ es, e.2.2 ∉ seen → ∀ w', MapAt w' b kenc venc es clock → IterAt w' r b clock (seen ++ [e.2.2]) → w.grownBy w' (some r) → wpListIn F n P ops Q rest (a.put o.dst (.tuple #[.bool true, kenc e.1, venc e.2.1])) w') : wpListIn F n P ops Q (o :: rest) a w := by
  refine wpListIn_plain hg fun K' hK' => ?_
  have hne := h.ne_iter hi
  have hlt := hi.lt
  have hmem : ∀ x, x ∈ (leftOf (es.map (entOf kenc venc)).toArray seen.toArray).toList ↔ ∃ e ∈ es, e.2.2 ∉ seen ∧ x = entOf kenc venc e := by
    intro x
    unfold leftOf
    simp only [Array.toList_filter, List.mem_filter, List.mem_map]
    constructor
    · rintro ⟨⟨e, he, rfl⟩, hs⟩
      exact ⟨e, he, by simpa [entOf] using hs, rfl⟩
    · rintro ⟨e, he, hs, rfl⟩
      exact ⟨⟨e, he, rfl⟩, by simpa [entOf] using hs⟩
  unfold Oper.wpIn
  refine ⟨by simp [Oper.about, hop], ?_⟩
  rw [Oper.semAt_plain F _ _ (by rw [hop]; intro c hc'; cases hc')]
  rcases run_next_at (P := P) w o.type r b clock clock seen.toArray (es.map (entOf kenc venc)).toArray clock hi h.blk (fun x hx => by
      simp only [List.mem_map] at hx
      obtain ⟨e, he, rfl⟩ := hx
      exact h.old e he) (Nat.le_refl _) with ⟨h0, hrun⟩ | ⟨x, hx, w1, hw1, hrun⟩
  · simp [execOp, hop, hit, hrun, Result.andThen]
    refine hK' _ _ (h1 fun e he => ?_)
    by_cases hs : e.2.2 ∈ seen
    · exact hs
    · have hin := (hmem (entOf kenc venc e)).2 ⟨e, he, hs, rfl⟩
      have hnil : (leftOf (es.map (entOf kenc venc)).toArray seen.toArray).toList = [] := List.eq_nil_of_length_eq_zero (by simpa using h0)
      rw [hnil] at hin
      cases hin
  · obtain ⟨e, he, hs, rfl⟩ := (hmem x).1 hx
    simp [execOp, hop, hit, hrun, Result.andThen]
    have hgw : w.grownBy w1 (some r) := by rcases hw1 with rfl | rfl <;> exact ⟨rfl, rfl, rfl, Nat.le_refl _, fun _ _ _ => rfl⟩
    have hlt1 : r < w1.heap.size := by rcases hw1 with rfl | rfl <;> exact hlt
    have hgb : w.grownBy (ChangeMaps.setBlock w1 r (.mapIter (some b) clock (seen ++ [(entOf kenc venc e).born]).toArray clock)) (some r) := World.grownBy.trans hgw (grownBy_setBlk w1 r _)
    refine hK' _ _ (h2 e he hs _ (h.frame (hgb.block b h.lt (fun e => hne (by injection e)))) ?_ hgb)
    show (setBlk w1 r _).heap[r]? = _
    rw [setBlk_at _ hlt1]
    rfl
omit [DecidableEq κ] in
theorem wpListIn_ent (hg : o.guard = none) (it : Operand) (hop : o.op = Op.entry it) (h : MapAt w b kenc venc es clock) {seen : List Nat} {e : κ × ν × Nat} (he : e ∈ es) (hi : IterAt w r b clock (seen ++ [e.2.2])) (hit : a.eval it = .pointer (some ⟨r, 0, none⟩))
    (hN : wpListIn F n P ops Q rest (a.put o.dst (.tuple #[kenc e.1, venc e.2.1])) w) : wpListIn F n P ops Q (o :: rest) a w := by
  refine wpListIn_plain hg fun K' hK' => ?_
  have hrun := run_entry_at (P := P) w r b clock seen.toArray (es.map (entOf kenc venc)).toArray clock (entOf kenc venc e) (by unfold IterAt at hi; rw [hi]; simp [entOf]) h.blk (by rw [List.toList_toArray]; exact List.mem_map.2 ⟨e, he, rfl⟩) (by simpa [List.map_map, Function.comp_def, entOf] using h.born)
  unfold Oper.wpIn
  refine ⟨by simp [Oper.about, hop], ?_⟩
  rw [Oper.semAt_plain F _ _ (by rw [hop]; intro c hc'; cases hc')]
  simp [execOp, hop, hit, hrun, Result.andThen]
  exact hK' _ _ hN
end
/-- each entry has come once -/
def AllCome {α : Type} (keyA : α → ByteArray) (es : List (ByteArray × (Value × Value) × Nat)) (xs : List α) : Prop := (xs.map keyA).Nodup ∧ ∀ κ, κ ∈ xs.map keyA ↔ κ ∈ es.map (·.1)
structure Come {α : Type} (keyA : α → ByteArray) (es : List (ByteArray × (Value × Value) × Nat)) (seen : List Nat) (pre : List α) : Prop where
  nd : (pre.map keyA).Nodup
  sub : ∀ κ ∈ pre.map keyA, κ ∈ es.map (·.1)
  iff : ∀ e ∈ es, e.2.2 ∈ seen ↔ e.1 ∈ pre.map keyA
theorem keys_inj {es : List (ByteArray × (Value × Value) × Nat)} (hk : (es.map (·.1)).Nodup) {e e' : ByteArray × (Value × Value) × Nat} (he : e ∈ es) (he' : e' ∈ es) (h : e.1 = e'.1) : e = e' := by
  obtain ⟨i, hi⟩ := List.getElem?_of_mem he
  obtain ⟨j, hj⟩ := List.getElem?_of_mem he'
  have h1 : (es.map (·.1))[i]? = some e.1 := by rw [List.getElem?_map, hi]; rfl
  have h2 : (es.map (·.1))[j]? = some e.1 := by rw [List.getElem?_map, hj, h]; rfl
  have : i = j := (List.getElem?_inj (lt_of_at h1) hk).1 (h1.trans h2.symm)
  subst this
  rw [hi] at hj
  injection hj
theorem borns_inj {es : List (ByteArray × (Value × Value) × Nat)} (hk : (es.map (·.2.2)).Nodup) {e e' : ByteArray × (Value × Value) × Nat} (he : e ∈ es) (he' : e' ∈ es) (h : e.2.2 = e'.2.2) : e = e' := by
  obtain ⟨i, hi⟩ := List.getElem?_of_mem he
  obtain ⟨j, hj⟩ := List.getElem?_of_mem he'
  have h1 : (es.map (·.2.2))[i]? = some e.2.2 := by rw [List.getElem?_map, hi]; rfl
  have h2 : (es.map (·.2.2))[j]? = some e.2.2 := by rw [List.getElem?_map, hj, h]; rfl
  have : i = j := (List.getElem?_inj (lt_of_at h1) hk).1 (h1.trans h2.symm)
  subst this
  rw [hi] at hj
  injection hj
section
variable {α : Type} {keyA : α → ByteArray} {es : List (ByteArray × (Value × Value) × Nat)} {seen : List Nat} {pre : List α}
theorem Come.start : Come keyA es [] [] := ⟨by simp, by simp, by simp⟩
theorem Come.next (hk : (es.map (·.1)).Nodup) (hb : (es.map (·.2.2)).Nodup) (h : Come keyA es seen pre) {e : ByteArray × (Value × Value) × Nat} (he : e ∈ es) (hs : e.2.2 ∉ seen) {x : α} (hx : keyA x = e.1) : Come keyA es (seen ++ [e.2.2]) (pre ++ [x]) := by
  have hn : e.1 ∉ pre.map keyA := fun h1 => hs ((h.iff e he).2 h1)
  refine ⟨?_, ?_, ?_⟩
  · rw [List.map_append, List.nodup_append]
    refine ⟨h.nd, by simp, fun a ha b hb' => ?_⟩
    simp at hb'
    subst hb'
    intro e1
    rw [e1, hx] at ha
    exact hn ha
  · intro κ hκ
    rw [List.map_append, List.mem_append] at hκ
    rcases hκ with hκ | hκ
    · exact h.sub κ hκ
    · simp at hκ
      rw [hκ, hx]
      exact List.mem_map.2 ⟨e, he, rfl⟩
  · intro e' he'
    rw [List.mem_append, List.map_append, List.mem_append, h.iff e' he']
    simp only [List.mem_cons, List.not_mem_nil, or_false, List.map_cons, List.map_nil, hx]
    constructor
    · rintro (h1 | h1)
      · exact .inl h1
      · exact .inr (by rw [borns_inj hb he' he h1])
    · rintro (h1 | h1)
      · exact .inl h1
      · exact .inr (by rw [keys_inj hk he' he h1])
theorem Come.few (h : Come keyA es seen pre) {e : ByteArray × (Value × Value) × Nat} (he : e ∈ es) (hs : e.2.2 ∉ seen) : pre.length < es.length := by
  have hn : e.1 ∉ pre.map keyA := fun h1 => hs ((h.iff e he).2 h1)
  have := nodup_sub_len (e.1 :: pre.map keyA) (es.map (·.1)) (List.nodup_cons.2 ⟨hn, h.nd⟩) (fun x hx => by
    rcases List.mem_cons.1 hx with rfl | hx
    · exact List.mem_map.2 ⟨e, he, rfl⟩
    · exact h.sub x hx)
  simp at this
  omega
theorem Come.all (h : Come keyA es seen pre) (hall : ∀ e ∈ es, e.2.2 ∈ seen) : AllCome keyA es pre := by
  refine ⟨h.nd, fun κ => ⟨h.sub κ, fun hκ => ?_⟩⟩
  obtain ⟨e, he, rfl⟩ := List.mem_map.1 hκ
  exact (h.iff e he).1 (hall e he)
end
set_option maxRecDepth 100000 in
set_option maxHeartbeats 2000000 in
theorem values1_in {α : Type} (encs : α → Array Value) (keyA : α → ByteArray) (F : Fence) (n : Nat) (h70 : F.fn 70) (hro : F.round = none) (hn : 1 ≤ n) (l Bm bm : Nat) (es : List (ByteArray × (Value × Value) × Nat)) (clock : Nat)
    (hA : ∀ e ∈ es, ∃ (x : α) (A1 A2 : Option Addr) (n1 c1 n2 c2 : Nat), keyA x = e.1 ∧ e.2.1 = (.slice A1 n1 c1, .slice A2 n2 c2) ∧ encs x = #[.agg #[.slice A1 n1 c1, .slice A2 n2 c2]])
    (J Jx : List α → World → Prop)
    (hY : ∀ pre x W, J pre W → pre.length < es.length → YieldAt F (n - 1) Try.prog l (encs x) W fun e W' =>
      (e = .returned (.bool true) ∧ J (pre ++ [x]) W' ∧ KeepsWalks W W') ∨ (e = .returned (.bool false) ∧ Jx (pre ++ [x]) W'))
    (W : World) (hJ : AbidesFrom W.heap.size J) (hBm : W.cell? ⟨Bm, 0, none⟩ = some (.map (some bm))) (hM : MapAt W bm Value.string pairEnc es clock) (h0 : J [] W) :
    CallsIn F n Try.prog 70 #[.func (.yield l) #[] #[], .pointer (some ⟨Bm, 0, none⟩)] W fun e W' => (∃ v, e = .returned v) ∧
      ((∃ ys, AllCome keyA es ys ∧ J ys W') ∨ (∃ pre, True ∧ Jx pre W')) := by
  refine callsIn_of_wp Try.func70 rfl h70 ?_ hro
  simp only [Try.ntmps70, List.size_toArray, List.length_cons, List.length_nil, Nat.reduceAdd, Nat.reduceSub, Array.replicate_succ, Array.replicate_zero, List.push_toArray, List.append_toArray, List.nil_append, List.cons_append]
  gi_wp2_with (gi_at_range; refine stop_intro ?_)
  refine stop_elim ?_
  refine wpListIn_rng rfl (.tmp 5) rfl Try.underlying70 hM rfl rfl ?_
  rintro w1 hM1 hI1 rfl
  have hJ1 : J [] (W.alloc (.mapIter (some bm) clock #[] clock)) := hJ [] W _ none h0 (World.grownBy_alloc _ _ _) (fun r e => by cases e)
  have HA := Lib.hid hA
  clear hM hA
  go_frame
  gi_wp2
  gi_loopg [7] es.length (fun gk _ wi => ∃ (seen : List Nat) (pre : List α), (es.filter fun e => !decide (e.2.2 ∈ seen)).length ≤ gk ∧ MapAt wi bm Value.string pairEnc es clock ∧ IterAt wi W.heap.size bm clock seen ∧ J pre wi ∧ Hid (Come keyA es seen pre))
  case atStart => exact ⟨[], [], List.length_filter_le _ _, hM1, hI1, hJ1, Lib.hid Come.start⟩
  case round =>
    clear hM1 hI1 hJ1
    obtain ⟨seen, pre, hgk, hM, hI, hJp, HC⟩ := hrel
    have hMk := Lib.hid hM.keys
    have hMb := Lib.hid hM.born
    gi_wp2_with (gi_at_next; refine stop_intro ?_)
    refine stop_elim ?_
    refine wpListIn_nxt rfl (.tmp 6) rfl hM hI rfl ?_ ?_
    · intro hall
      have HAL := Lib.hid (HC.out.all hall)
      clear hall
      gi_wp2
      go_end0
      exact ⟨⟨_, rfl⟩, .inl ⟨_, HAL.out, hJp⟩⟩
    · intro e he hns w2 hM2 hI2 hg2
      obtain ⟨x, A1, A2, n1, c1, n2, c2, hkx, hee, hex⟩ := HA.out e he
      have HC2 := Lib.hid (HC.out.next hMk.out hMb.out he hns hkx)
      have hfew := HC.out.few he hns
      have hless := unseen_less he hns
      have hJ2 : J pre w2 := hJ pre wr w2 _ hJp hg2 (fun r e => by cases e; exact ⟨Nat.le_refl _, _, hI, rfl⟩)
      have hJ3 : J pre (w2.alloc (.cells #[.slice A1 n1 c1, .slice A2 n2 c2] 68)) := hJ pre _ _ none hJ2 (World.grownBy_alloc _ _ _) (fun r e => by cases e)
      have hM3 := hM2.frame (Below.heap_alloc w2 (.cells #[.slice A1 n1 c1, .slice A2 n2 c2] 68) _ hM2.lt)
      have hI3 := hI2.frame (Below.heap_alloc w2 (.cells #[.slice A1 n1 c1, .slice A2 n2 c2] 68) _ hI2.lt)
      obtain ⟨fn, tmps, assign, body, hy, hR⟩ := hY pre x _ hJ3 hfew
      rw [hex] at hy
      have HE := Lib.hid (show pairEnc e.2.1 = .agg #[.slice A1 n1 c1, .slice A2 n2 c2] by rw [hee]; rfl)
      rw [HE.out]
      have hEnt := he
      clear hkx hee hex HC hns hJp hM hI hg2
      gi_wp2_with (with_reducible refine stopIn_entry ?_)
      refine stop_elim ?_
      refine wpListIn_ent rfl (.tmp 6) rfl hM2 hEnt hI2 rfl ?_
      rw [HE.out]
      clear hM2 hI2 hEnt he
      gi_wp2
      refine hR.mono ?_
      rintro e' W3 (⟨rfl, hJ3', hk3⟩ | ⟨rfl, hJx3⟩)
      · have hM4 : MapAt W3 bm Value.string pairEnc es clock := ⟨hk3.same bm _ hM3.blk rfl, hM3.keys, hM3.born, hM3.old⟩
        have hI4 : IterAt W3 W.heap.size bm clock (seen ++ [e.2.2]) := hk3.same _ _ hI3 rfl
        gi_wp2
        gi_roundg ((es.filter fun y => !decide (y.2.2 ∈ seen ++ [e.2.2])).length)
        case measure => omega
        case rel => exact ⟨_, _, Nat.le_refl _, hM4, hI4, hJ3', HC2⟩
      · gi_wp2
        refine bodyPost_ret (results_none rfl _ _ _) rfl ?_
        exact ⟨⟨_, rfl⟩, .inr ⟨_, trivial, hJx3⟩⟩
set_option maxHeartbeats 1000000 in
theorem values_in (F : Fence) (n : Nat) (h47 : F.fn 47) (hro : F.round = none) (bm : Nat) (w : World) :
    CallsIn F n Try.prog 47 #[.map (some bm)] w fun e w' => e = .returned (.func (.func 70) #[] #[.pointer (some ⟨w.heap.size, 0, none⟩)]) ∧ w' = w.alloc (.cells #[.map (some bm)] 70) := by
  refine callsIn_of_wp Try.func47 rfl h47 ?_ hro
  simp only [Try.ntmps47, List.size_toArray, List.length_cons, List.length_nil, Nat.reduceAdd, Nat.reduceSub, Array.replicate_succ, Array.replicate_zero, List.push_toArray, List.append_toArray, List.nil_append, List.cons_append]
  gi_wp2
  go_ret
  exact ⟨rfl, rfl⟩
end Go.Proofs.Ythabpkigflldmaa
