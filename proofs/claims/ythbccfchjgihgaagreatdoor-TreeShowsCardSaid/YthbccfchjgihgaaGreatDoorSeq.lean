/- slices.AppendSeq and Collect at numbers, over whatever iterator that reads memory and hands each number of a list to yield. -/
import Derived.Test.YthbccfchjgihgaaGreatDoorData
import Derived.Test.YthbccfchjgihgaaGreatDoorOwn
import Derived.Test.YthbccfchjgihgaaGreatDoorShelf
import Derived.Sort.OwnSortedInts
import Derived.Test.YthbccfchjgihgaaGreatDoorTrD
import Derived.Test.YthbccfchjgihgaaGreatDoorStep
import Derived.RangeFuncNested
import Derived.RangeFuncBound
import Derived.RangeFuncCalls
import Derived.RangeFuncLeaves
import Derived.RangeFuncBox
import Derived.Shelf.Abstract
import Derived.Shelf.RegionOpen
import Derived.OwnWalkIn
import Derived.TacticsInMore
import Derived.LoopNIn
import Derived.LoopIn
import Derived.Test.YthbccfchjgihgaaGreatDoorRes
namespace Go.Proofs.YthbccfchjgihgaaGreatDoor
open Go.RowKit Go.Sort Go.Lib Go.Shelf

theorem int_rows (xs : List Int) : (xs.map intEnc).flatten = xs.map (Value.int .i64) := by
  induction xs with
  | nil => rfl
  | cons x r ih => rw [List.map_cons, List.flatten_cons, ih]; rfl
theorem sortInts_c (xs : List Int) (v : Value) (base : Nat) (w : World) (h : OwnRep 1 (flat intEnc) 3 base w xs v) (hsz : xs.length < 4611686018427387904) :
    Calls Tryz.prog 121 #[v] w fun e w' => e = .returned (.tuple #[]) ∧ ∃ ys : List Int, ys.Perm xs ∧ ys.Pairwise (· ≤ ·) ∧ OwnRep 1 (flat intEnc) 3 base w' ys v ∧ w.grownBy w' v.ownBlock := by
  rcases Nat.eq_zero_or_pos xs.length with h0 | h0
  · obtain rfl : xs = [] := List.eq_nil_of_length_eq_zero h0
    obtain ⟨A, c, rfl, _⟩ := h.toSl intS
    refine (Tryz.slices_Sort_int_none A c w).mono ?_
    rintro e w' ⟨rfl, rfl⟩
    exact ⟨rfl, [], List.Perm.refl _, List.Pairwise.nil, h, World.grownBy.refl _ _⟩
  · have hrow := h.rows
    rcases hrow.2 with ⟨_, h1⟩ | ⟨g, cap, cur, rfl, hbg, hg, hcap, hm, hs, ht⟩
    · omega
    · have hgl := (h.own_lt g rfl).2
      rw [int_rows, Nat.mul_one] at ht
      have hH : Holds (Value.int .i64) w g 0 xs.toArray := holds_of_blockI hg ht
      refine (Tryz.slices_Sort_int g 0 cap xs w hH hgl hsz).mono ?_
      rintro e w' ⟨rfl, n, os, rfl⟩
      refine ⟨rfl, xs.mergeSort (fun x y => decide (x ≤ y)), List.mergeSort_perm _ _, ?_, ?_, grownBy_sortedI _⟩
      · have := List.pairwise_mergeSort (le := fun x y : Int => decide (x ≤ y)) (fun a b c h1 h2 => by simp at *; omega) (fun a b => by simp; omega) xs
        exact this.imp (fun h => by simpa using h)
      · have hl : (xs.mergeSort fun x y => decide (x ≤ y)).length = xs.length := (List.mergeSort_perm _ _).length_eq
        refine OwnRep.of_rows ?_
        rw [hl, int_rows]
        exact ownsRow_sortedI hl hbg hg hcap hm hs
open Go.RowKit Go.Shelf

theorem cells_of {w : World} {a : Addr} {u : Value} (h : w.cell? a = some u) : ∃ o, w.heap[a.block]? = some o ∧ o.isCells = true := by
  unfold World.cell? at h
  cases hb : w.heap[a.block]? with
  | none => simp [hb] at h
  | some o =>
    refine ⟨o, rfl, ?_⟩
    cases o <;> simp [hb] at h <;> rfl
def SameC (w w' : World) : Prop := ∀ (b : Nat) (o : Obj), w.heap[b]? = some o → o.isCells = true → w'.heap[b]? = w.heap[b]?
theorem SameC.cell {w w' : World} (hs : SameC w w') {a : Addr} {u : Value} (h : w.cell? a = some u) : w'.cell? a = some u := by
  obtain ⟨o, ho, hc⟩ := cells_of h
  exact (World.cell?_of_block (hs a.block o ho hc)).trans h
structure ShapeC {α : Type} (R : CRep α) : Prop where
  frameC : ∀ {w w' : World} {F : Nat → Prop} {x : α} {cs : List Value}, SameC w w' → R w F x cs → R w' F x cs
section
variable {α : Type} {k : Nat} {R : CRep α} {w w' : World} {F : Nat → Prop} {xs : List α} {v : Value}
theorem SlRep.frameC (hR : ShapeC R) (hs : SameC w w') (h : SlRep k R w F xs v) : SlRep k R w' F xs v := by
  obtain ⟨A, c, e, h1, h2, h3⟩ := h
  refine ⟨A, c, e, h1, h2, fun i x hx => ?_⟩
  obtain ⟨b, off, cs, hA, hlt, hr, hc⟩ := h3 i x hx
  exact ⟨b, off, cs, hA, hlt, hR.frameC hs hr, fun j u hu => hs.cell (hc j u hu)⟩
theorem OwnRep.frameC (hR : Shape k R) (hC : ShapeC R) {e : TypeId} {base : Nat} (hs : SameC w w') (hz : w.heap.size ≤ w'.heap.size) (h : OwnRep k R e base w xs v) : OwnRep k R e base w' xs v := by
  obtain ⟨css, hl, hr, hown⟩ := h
  refine ⟨css, hl, fun i x cs hx hcs => hR.mono (fun b hb => ⟨Nat.lt_of_lt_of_le hb.1 hz, hb.2⟩) (hC.frameC hs (hr i x cs hx hcs)), ownsRow_frame hown fun b hb => ?_⟩
  rcases hown.2 with ⟨rfl, _⟩ | ⟨g, cap, cur, rfl, _, hg, _⟩
  · cases hb
  · cases hb
    exact hs g _ hg rfl
end
theorem flatC {α : Type} (enc : α → List Value) : ShapeC (flat enc) := ⟨fun _ h => h⟩
theorem sameC_grown {W W' : World} {row : Option Nat} (hg : W.grownBy W' row) (hr : ∀ r, row = some r → ∃ o : Obj, W.heap[r]? = some o ∧ o.isCells = false) : SameC W W' := by
  intro b o ho hc
  refine hg.block b (Array.getElem?_eq_some_iff.1 ho).1 (fun e => ?_)
  obtain ⟨o', ho', hc'⟩ := hr b e.symm
  rw [ho] at ho'
  injection ho' with ho'
  subst ho'
  rw [hc] at hc'
  cases hc'
/-- a variable in a box that holds a row of the call's own -/
def RowBox {α β : Type} (k : Nat) (R : CRep α) (e t : TypeId) (base g : Nat) (f : List β → List α) (pre : List β) (W : World) : Prop := ∃ v, Boxed W g t v ∧ OwnRep k R e base W (f pre) v ∧ v.ownBlock ≠ some g
theorem rowBox_own {α β : Type} {k : Nat} {R : CRep α} (hR : Shape k R) (hC : ShapeC R) (e t : TypeId) (base g : Nat) (f : List β → List α) : Own (RowBox k R e t base g f) := by
  rintro pre W W' row ⟨v, h1, h2, h3⟩ hg hr
  have hs := sameC_grown hg hr
  exact ⟨v, (hs g _ h1 rfl).trans h1, h2.frameC hR hC hs hg.size, h3⟩
section
variable {α : Type} {k : Nat} {R : CRep α} {w : World} {F : Nat → Prop} {xs : List α} {v : Value}
theorem wpListIn_append_rep {Fe : Fence} {n : Nat} {P : Program} {ops : Array Oper} {rest : List Oper} {o : Oper} {a : Act} {Q : Exit → Act → World → Prop} (hgd : o.guard = none) (hR : Shape k R) {t e : TypeId} {bytes : Nat} (hE : Elem P t e k bytes) (base : Nat) (s x : Operand)
    (ho : o.op = .call { callee := .builtin .append, args := #[s, x], argTypes := #[t, t] }) {ys : List α}
    (hs : a.eval s = v) (hown : OwnRep k R e base w xs v) {A : Option Addr} {m c : Nat} (hx : a.eval x = .slice A m c) (hsrc : SlRep k R w F ys (.slice A m c)) (hF : ∀ b, F b → b < w.heap.size ∧ v.ownBlock ≠ some b)
    (hn : xs.length + ys.length ≤ 4294967296) (hby : bytes ≤ 4096) (hbase : base ≤ w.heap.size)
    (h : ∀ v' w', OwnRep k R e base w' (xs ++ ys) v' → w.grownBy w' v.ownBlock → (v'.ownBlock = v.ownBlock ∨ v'.ownBlock = some w.heap.size) → wpListIn Fe n P ops Q rest (a.put o.dst v') w') : wpListIn Fe n P ops Q (o :: rest) a w := by
  refine wpListIn_plain hgd fun K hK' => ?_
  obtain ⟨v', w', hrun, r1, r2, r3⟩ := run_append_rep (P := P) hR hE base o.type hown hsrc hF hn hby hbase
  unfold Oper.wpIn
  refine ⟨?_, ?_⟩
  · simp [Oper.about, ho, resolve, Target.leads, Sem.run_pure]
  · rw [Oper.semAt_plain Fe _ _ (by rw [ho]; intro c hc'; cases hc')]
    simp [execOp, ho, resolve, invoke, builtin, hs, hx, hrun, Result.andThen]
    exact hK' _ _ (h v' w' r1 r2 r3)
end
theorem box_set {W : World} {g : Nat} {t : TypeId} {v v' : Value} (h : Boxed W g t v) : Boxed (W.setCell ⟨g, 0, none⟩ v') g t v' := by
  unfold Boxed at *
  simp [World.setCell, Array.getElem?_modify, h]
theorem box_keep {W W' : World} {g : Nat} {t : TypeId} {v : Value} (h : Boxed W g t v) (hb : W'.heap[g]? = W.heap[g]?) : Boxed W' g t v := hb.trans h
open Go.RowKit Go.Shelf

attribute [local go_sem] Oper.semAt_some

/-- an iterator that hands the numbers of a list to yield, one behind the other, as long as yield says so; a round keeps what was there -/
def Gives (gf : FuncId) (lb : Array Value) (L : List Int) (n : Nat) (w : World) : Prop :=
  ∀ (l : Nat) (J Jx : List Int → World → Prop) (W : World), Below w.heap.size w W → AbidesFrom W.heap.size J → AbidesFrom W.heap.size Jx →
    (∀ pre x W, J pre W → pre.length < L.length → YieldAt Fence.wide (n - 1) Tryz.prog l #[.int .i64 x] W fun e W' =>
      (e = .returned (.bool true) ∧ J (pre ++ [x]) W' ∧ Below w.heap.size W W') ∨ (e = .returned (.bool false) ∧ Jx (pre ++ [x]) W')) → J [] W →
    CallsIn Fence.wide n Tryz.prog gf (#[.func (.yield l) #[] #[]] ++ lb) W fun e W' => (∃ v, e = .returned v) ∧ ((∃ ys, ys = L ∧ J ys W') ∨ (∃ pre, True ∧ Jx pre W'))
theorem Gives.later {gf : FuncId} {lb : Array Value} {L : List Int} {n : Nat} {w w' : World} (h : Gives gf lb L n w) (hb : Below w.heap.size w w') : Gives gf lb L n w' := fun l J Jx W hW hA hA' hY h0 =>
  h l J Jx W (hb.trans (hW.mono hb.size)) hA hA' (fun pre x W1 hJ hl => by
    obtain ⟨fn, tmps, assign, body, hy, hR⟩ := hY pre x W1 hJ hl
    refine ⟨fn, tmps, assign, body, hy, hR.mono ?_⟩
    rintro e W2 (⟨h1, h2, h3⟩ | h1)
    · exact .inl ⟨h1, h2, h3.mono hb.size⟩
    · exact .inr h1) h0
set_option maxRecDepth 100000 in
set_option maxHeartbeats 4000000 in
theorem appendSeq_c (gf : FuncId) (lb : Array Value) (eg : ∀ (args : Array Value) (W : World), (callFunc gf args).run Tryz.prog W = .ok (.enter gf args) W) (L : List Int) (w : World) (hL : L.length ≤ 1000000) (hseq : Gives gf lb L 3 w) :
    Calls Tryz.prog 151 #[.slice none 0 0, .func (.func gf) #[] lb] w fun e w' => ∃ v', e = .returned v' ∧ OwnRep 1 (flat intEnc) 3 w.heap.size w' L v' ∧ Below w.heap.size w w' := by
  refine (callsIn_wide (n := 4)).1 ?_
  refine callsIn_of_wp_marks Tryz.func151 rfl trivial ?_ rfl
  simp only [Tryz.ntmps151, List.size_toArray, List.length_cons, List.length_nil, Nat.reduceAdd, Nat.reduceSub, Array.replicate_succ, Array.replicate_zero, List.push_toArray, List.append_toArray, List.nil_append, List.cons_append]
  gi_wp2_with fail
  have hB0 : Below w.heap.size w (w.alloc (.cells #[.slice none 0 0] 22)) := (Below.refl _ w).alloc (Nat.le_refl _) _
  have bO : Boxed (w.alloc (.cells #[.slice none 0 0] 22)) w.heap.size 22 (.slice none 0 0) := Boxed.new w _ _
  refine wpIn_rangeFunc_ownH rfl (by decide) (gf := gf) (lb := lb) rfl trivial eg
    (encs := fun x : Int => #[.int .i64 x]) (Kp := Below w.heap.size) (S := fun ys => ys = L) (Sp := fun _ => True) (N := L.length) (w0 := w.alloc (.cells #[.slice none 0 0] 22))
    (fun l J Jx W hW hA hA' hY h0 => hseq l J Jx W (hB0.trans (hW.mono (by simp))) hA hA' hY h0)
    belowK_t (belowK_b (by simp)) (Below.refl _ _) (fun _ => rfl)
    (fun pre W => RowBox 1 (flat intEnc) 3 22 (w.heap.size + 1) w.heap.size (fun p : List Int => p) pre W ∧ Below w.heap.size w W ∧ w.heap.size + 1 ≤ W.heap.size)
    (fun _ _ _ => False)
    (OwnFrom.and (Own.from (rowBox_own intS (flatC _) _ _ _ _ _) _) (OwnFrom.and (ownFrom_below (Nat.le_refl _) (by simp)) (fun s W W' row hs hg _ => Nat.le_trans hs hg.size)))
    (fun _ _ _ _ _ hs _ _ => hs)
    ⟨⟨_, bO, OwnRep.nil_, by simp [Value.ownBlock]⟩, hB0, by simp⟩
    (fun x a' _ => a' = { tmps := #[.slice none 0 0, .func (.func gf) #[] lb, .pointer (some ⟨w.heap.size, 0, none⟩), undef, .slice none 0 0, .int .i64 x, .func (.func gf) #[] lb, .int .i64 x, undef, undef, undef, undef, undef], defers := [] })
    ?hax ?assign ?body ?done ?stop
  case hax =>
    rintro x a' _ W W' row h3 hg hr
    exact h3
  case assign =>
    rintro l pre x W K ⟨⟨vo, hbo, hown, hne⟩, hB1, hsz⟩ hK
    gi_wp2
    exact hK _ _ ((KeepsOthers.refl _).from _) (Below.refl _ _) ⟨⟨vo, hbo, hown, hne⟩, hB1, hsz⟩ rfl
  case body =>
    rintro l pre x a' W hl hr ⟨⟨vo, hbo, hown, hne⟩, hB1, hsz⟩ rfl hlt
    change OwnRep 1 (flat intEnc) 3 (w.heap.size + 1) W pre vo at hown
    have hc0 := hbo.cell
    have hlto := hown.own_lt
    obtain ⟨Ao, co, rfl, -⟩ := hown.toSl intS
    have hgw : w.heap.size < W.heap.size := by omega
    gi_wp2_with (gi_at_builtin; refine stop_intro ?_)
    refine stop_elim ?_
    refine wpListIn_append_rep rfl intS intE_ (w.heap.size + 1) (.tmp 8) (.tmp 10) rfl rfl (hown.alloc intS _) rfl (ys := [x]) (SlRep.one_new intS (t := 3) (x := x) (F := fun _ => False) (w := W) (cs := intEnc x) rfl rfl (fun b h => h.elim)) ?hF ?hn1 (by decide) ?hb1 ?_
    case hF =>
      rintro b (hb | rfl)
      · exact hb.elim
      · exact ⟨by simp, fun e => by have := (hlto _ e).2; omega⟩
    case hn1 => simp; omega
    case hb1 => simp; omega
    intro v6 w6 hown6 hg6 hat6
    have hs6 := hg6.size
    simp only [World.size_alloc] at hs6
    have hne6 : v6.ownBlock ≠ some w.heap.size := by
      rcases hat6 with h | h
      · rw [h]; exact hne
      · rw [h]; simp; omega
    have hbo6 : Boxed w6 w.heap.size 22 (.slice Ao pre.length co) := box_keep (hbo.alloc _) (hg6.block _ (by simp; omega) (fun e => hne e.symm))
    have hk6 : KeepsOthers W w6 := (KeepsOthers.alloc W _).trans (KeepsOthers.of_grownBy hg6 (fun j o hj ho => by
      rcases (hown.alloc intS (.cells (intEnc x).toArray 3)).rows.2 with ⟨h1, _⟩ | ⟨g, cap, cur, h1, _, hg, _⟩
      · rw [h1] at hj; cases hj
      · rw [h1] at hj
        cases hj
        have ho' := ho.symm.trans hg
        injection ho' with ho'
        subst ho'
        rfl))
    have hb6 : Below w.heap.size W w6 := ((Below.refl _ _).alloc (by omega) _).grown hg6 (by simp; omega) (fun k hk => by have := (hlto k hk).1; omega)
    have hc6 := hbo6.cell
    have hf6 := hbo6.frozen
    obtain ⟨A6, c6, rfl, -⟩ := id (hown6.toSl intS)
    have hbo7 := box_set hbo6 (v' := .slice A6 (pre ++ [x]).length c6)
    have hown7 : OwnRep 1 (flat intEnc) 3 (w.heap.size + 1) (w6.setCell ⟨w.heap.size, 0, none⟩ (.slice A6 (pre ++ [x]).length c6)) (pre ++ [x]) (.slice A6 (pre ++ [x]).length c6) := hown6.keep (fun b hb => Below.heap_setCell _ _ _ _ (fun e => hne6 (by rw [hb, e])))
    have hlt6 : w.heap.size < w6.heap.size := by omega
    have hX7 : Below w.heap.size w6 (w6.setCell ⟨w.heap.size, 0, none⟩ (.slice A6 (pre ++ [x]).length c6)) := (Below.refl w.heap.size w6).setCell (p := ⟨w.heap.size, 0, none⟩) (Nat.le_refl _) _
    generalize hacc2 : pre ++ [x] = acc2 at *
    have HA2 := Lib.hid hacc2
    clear hacc2
    gi_wp2
    refine ⟨(hk6.trans (KeepsOthers.setCell _ _ _)).from _, hb6.trans hX7, ⟨_, hbo7, ?_, hne6⟩, (hB1.trans hb6).trans hX7, by simp; omega⟩
    show OwnRep 1 (flat intEnc) _ _ _ (pre ++ [x]) _
    rw [HA2.out]
    exact hown7
  case done =>
    rintro D ys W hD rfl ⟨⟨vo, hbo, hown, hne⟩, hB1, hsz⟩ hK
    have hc := hbo.cell
    have hgw : w.heap.size < W.heap.size := by omega
    gi_wp2
    refine ⟨by simp, .inl ⟨_, _, rfl, run_takeDeferred hK, ?_⟩⟩
    have hbD := belowK_b (w := w) (Nat.le_refl _) W D _ (.deferred none) (by simp at hD; omega) hK rfl rfl
    exact ⟨_, results_tmp rfl _ _ _, vo, rfl, (hown.frameC intS (flatC _) (sameC_grown (grownBy_putObj' W D _) (fun r e => by cases e; exact ⟨_, hK, rfl⟩)) (by simp)).base_le (by omega), hB1.trans hbD⟩
  case stop =>
    rintro D c pre W _ _ h _
    exact h.elim
theorem collect_c (gf : FuncId) (lb : Array Value) (eg : ∀ (args : Array Value) (W : World), (callFunc gf args).run Tryz.prog W = .ok (.enter gf args) W) (L : List Int) (w : World) (hL : L.length ≤ 1000000) (hseq : Gives gf lb L 3 w) :
    Calls Tryz.prog 120 #[.func (.func gf) #[] lb] w fun e w' => ∃ v', e = .returned v' ∧ OwnRep 1 (flat intEnc) 3 w.heap.size w' L v' ∧ Below w.heap.size w w' := by
  have HA := Lib.hid (appendSeq_c gf lb eg L w hL hseq)
  go_enter Tryz.func120, Tryz.ntmps120
  go_wp2_with fail
  refine HA.out.mono ?_
  rintro e w1 ⟨v, rfl, hown, hb⟩
  obtain ⟨A, n, c, rfl, -⟩ : ∃ A n c, v = .slice A n c ∧ n = L.length := by
    obtain ⟨A, c, e, -⟩ := hown.toSl intS
    exact ⟨A, _, c, e, rfl⟩
  go_wp2
  go_ret
  exact ⟨_, rfl, hown, hb⟩
set_option maxRecDepth 100000 in
set_option maxHeartbeats 4000000 in
theorem values1_c (xs : List Int) (v : Value) (gi : Nat) (w : World) (B : Nat) (hB : B ≤ w.heap.size) (h : SlRep 1 (flat intEnc) w (fun b => b < B) xs v) (hgi : gi < w.heap.size) (hi : w.cell? ⟨gi, 0, none⟩ = some v) : Gives 122 #[.pointer (some ⟨gi, 0, none⟩)] xs 3 w := by
  intro l J Jx W hW hA hA' hY h0
  obtain ⟨A, c, rfl, hc1, hc2, _⟩ := id h
  refine callsIn_of_wp Tryz.func122 rfl trivial ?_ rfl
  simp only [Tryz.ntmps122, List.size_toArray, List.length_cons, List.length_nil, Nat.reduceAdd, Nat.reduceSub, Array.replicate_succ, Array.replicate_zero, List.push_toArray, List.append_toArray, List.nil_append, List.cons_append]
  have z0 : W.cell? ⟨gi, 0, none⟩ = some (.slice A xs.length c) := (hW.cell (p := ⟨gi, 0, none⟩) hgi).trans hi
  gi_wp2
  gi_loopw [7] (fun i wr => ∃ k : Nat, k ≤ xs.length ∧ i = .int .i64 k ∧ J (xs.take k) wr ∧ Below w.heap.size w wr) (fun i _ => xs.length - (intOf i).toNat)
  case atStart => exact ⟨0, Nat.zero_le _, rfl, by simpa using h0, hW⟩
  case round =>
    clear z0
    obtain ⟨k, hk, rfl, hJ, hb⟩ := hrel
    by_cases hlt : k < xs.length
    · obtain ⟨x, hx⟩ := get_at xs hlt
      have HT := Lib.hid (take_at hx)
      obtain ⟨b, off, rfl, hbB, g0⟩ := Ints.at_ (h.below intS (hb.mono hB)) hx
      have hbw : b < wr.heap.size := by have : b < B := hbB; have := hb.size; omega
      have hki : (k : Int) < (xs.length : Int) := by omega
      have hwk : IntKind.i64.wrap ((k : Int) + 1) = (k : Int) + 1 := IntWalk.i64_in _ (by omega)
      obtain ⟨fn, tmps, assign, body, hy, hR⟩ := hY (xs.take k) x _ hJ (by rw [List.length_take]; omega)
      clear hx
      gi_wp2
      refine hR.mono ?_
      rintro e W3 (⟨rfl, hJ3, hk3⟩ | ⟨rfl, hJx3⟩)
      · gi_wp2
        go_roundw
        case rel => exact ⟨k + 1, by omega, by go_num, by rw [HT.out]; exact hJ3, hb.trans hk3⟩
        case measure => simp [intOf]; omega
      · gi_wp2
        refine bodyPost_ret (results_none rfl _ _ _) rfl ?_
        exact ⟨⟨_, rfl⟩, .inr ⟨_, trivial, hJx3⟩⟩
    · have hki : ¬ (k : Int) < (xs.length : Int) := by omega
      have HE := Lib.hid (show xs.take k = xs from List.take_of_length_le (by omega))
      gi_wp2
      go_end0
      rw [HE.out] at hJ
      exact ⟨⟨_, rfl⟩, .inl hJ⟩
theorem values_c (v : Value) (w : World) (hv : ∃ A n c, v = .slice A n c) : Calls Tryz.prog 89 #[v] w fun e w' => e = .returned (.func (.func 122) #[] #[.pointer (some ⟨w.heap.size, 0, none⟩)]) ∧ w.alloc (.cells #[v] 22) = w' := by
  obtain ⟨A, n, c, rfl⟩ := hv
  go_enter Tryz.func89, Tryz.ntmps89
  go_wp2
  go_ret
  exact ⟨rfl, rfl⟩
theorem sorted_c (gf : FuncId) (lb : Array Value) (eg : ∀ (args : Array Value) (W : World), (callFunc gf args).run Tryz.prog W = .ok (.enter gf args) W) (L : List Int) (w : World) (hL : L.length ≤ 1000000) (hseq : Gives gf lb L 3 w) :
    Calls Tryz.prog 88 #[.func (.func gf) #[] lb] w fun e w' => ∃ v', e = .returned v' ∧ OwnRep 1 (flat intEnc) 3 w.heap.size w' (sortI L) v' ∧ Below w.heap.size w w' := by
  have HC := Lib.hid (collect_c gf lb eg L w hL hseq)
  go_enter Tryz.func88, Tryz.ntmps88
  go_wp2_with fail
  refine HC.out.mono ?_
  rintro e w1 ⟨v, rfl, hown, hb⟩
  have HS := Lib.hid (sortInts_c L v w.heap.size w1 hown (by omega))
  have hlo := hown.own_lt
  obtain ⟨A, n, c, rfl⟩ : ∃ A n c, v = .slice A n c := by
    obtain ⟨A, c, e, -⟩ := hown.toSl intS
    exact ⟨A, _, c, e⟩
  have hsz := hb.size
  go_wp2_with fail
  refine HS.out.mono ?_
  rintro e w2 ⟨rfl, ys, hp, hs, hown2, hg⟩
  have hy : ys = sortI L := sortI_of hs hp
  rw [hy] at hown2
  have hb2 : Below w.heap.size w w2 := hb.grown hg hsz (fun k hk => (hlo k hk).1)
  clear hp hs hy hown hlo
  go_wp2
  go_ret
  exact ⟨_, rfl, hown2, hb2⟩
end Go.Proofs.YthbccfchjgihgaaGreatDoor
