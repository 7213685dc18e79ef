/- slices.AppendSeq and Collect at numbers, over whatever iterator that reads memory and hands each number of a list to yield. -/
import Derived.Test.YtenaifmkejmdaaaGreatDoorItr
namespace Go.Proofs.YtenaifmkejmdaaaGreatDoor
open Go.RowKit Go.Shelf

attribute [local go_sem] Oper.semAt_some

/-- what a round keeps: what was there at the beginning, and all variables of an item -/
def KpL (n : Nat) (W W' : World) : Prop := Below n W W' ∧ ∀ (b : Nat) (cs : Array Value) (fz : Nat × Nat), W.heap[b]? = some (.cells cs 47 fz) → W'.heap[b]? = W.heap[b]?
theorem KpL.trans_ {n : Nat} {A B C : World} (h : KpL n A B) (k : KpL n B C) : KpL n A C := ⟨h.1.trans k.1, fun b cs fz e => by
  have e1 := h.2 b cs fz e
  exact (k.2 b cs fz (e1.trans e)).trans e1⟩
theorem KpL.put_ {w : World} {n : Nat} (hn : n ≤ w.heap.size) (W : World) (l : Nat) (o o' : Obj) (hl : w.heap.size ≤ l) (h : W.heap[l]? = some o) (h1 : o.isCells = false) (h2 : o.isWalk = false) : KpL n W (W.putObj l o') :=
  ⟨belowK_b hn W l o o' hl h h1 h2, fun b cs fz e => World.putObj_heap_other (fun e2 => by
    subst e2
    rw [h] at e
    injection e with e
    subst e
    cases h1)⟩
theorem KpL.refl_ (n : Nat) (W : World) : KpL n W W := ⟨Below.refl _ _, fun _ _ _ _ => rfl⟩
theorem KpL.mono_ {n m : Nat} {A B : World} (h : KpL m A B) (hn : n ≤ m) : KpL n A B := ⟨h.1.mono hn, h.2⟩
/-- an iterator that hands the numbers of a list to yield, one behind the other, as long as yield says so; a round keeps what was there -/
def Gives (gf : FuncId) (lb : Array Value) (L : List Int) (n : Nat) (w : World) : Prop :=
  ∀ (l : Nat) (J Jx : List Int → World → Prop) (W : World), Below w.heap.size w W → AbidesFrom W.heap.size J → AbidesFrom W.heap.size Jx →
    (∀ pre x W, J pre W → pre.length < L.length → YieldAt Fence.wide (n - 1) Tryz.prog l #[.int .i64 x] W fun e W' =>
      (e = .returned (.bool true) ∧ J (pre ++ [x]) W' ∧ KpL w.heap.size W W') ∨ (e = .returned (.bool false) ∧ Jx (pre ++ [x]) W')) → J [] W →
    CallsIn Fence.wide n Tryz.prog gf (#[.func (.yield l) #[] #[]] ++ lb) W fun e W' => (∃ v, e = .returned v) ∧ ((∃ ys, ys = L ∧ J ys W') ∨ (∃ pre, True ∧ Jx pre W'))
theorem Gives.later {gf : FuncId} {lb : Array Value} {L : List Int} {n : Nat} {w w' : World} (h : Gives gf lb L n w) (hb : Below w.heap.size w w') : Gives gf lb L n w' := fun l J Jx W hW hA hA' hY h0 =>
  h l J Jx W (hb.trans (hW.mono hb.size)) hA hA' (fun pre x W1 hJ hl => by
    obtain ⟨fn, tmps, assign, body, hy, hR⟩ := hY pre x W1 hJ hl
    refine ⟨fn, tmps, assign, body, hy, hR.mono ?_⟩
    rintro e W2 (⟨h1, h2, h3⟩ | h1)
    · exact .inl ⟨h1, h2, h3.mono_ hb.size⟩
    · exact .inr h1) h0
set_option maxRecDepth 100000 in
set_option maxHeartbeats 4000000 in
theorem appendSeq_c (gf : FuncId) (lb : Array Value) (eg : ∀ (args : Array Value) (W : World), (callFunc gf args).run Tryz.prog W = .ok (.enter gf args) W) (L : List Int) (w : World) (hL : L.length ≤ 1000000) (hseq : Gives gf lb L 3 w) :
    Calls Tryz.prog 61 #[.slice none 0 0, .func (.func gf) #[] lb] w fun e w' => ∃ v', e = .returned v' ∧ OwnRep 1 (flat intEnc) 3 w.heap.size w' L v' ∧ Below w.heap.size w w' := by
  refine (callsIn_wide (n := 4)).1 ?_
  refine callsIn_of_wp_marks Tryz.func61 rfl trivial ?_ rfl
  simp only [Tryz.ntmps61, List.size_toArray, List.length_cons, List.length_nil, Nat.reduceAdd, Nat.reduceSub, Array.replicate_succ, Array.replicate_zero, List.push_toArray, List.append_toArray, List.nil_append, List.cons_append]
  gi_wp2_with fail
  have hB0 : Below w.heap.size w (w.alloc (.cells #[.slice none 0 0] 33)) := (Below.refl _ w).alloc (Nat.le_refl _) _
  have bO : Boxed (w.alloc (.cells #[.slice none 0 0] 33)) w.heap.size 33 (.slice none 0 0) := Boxed.new w _ _
  refine wpIn_rangeFunc_ownH rfl (by decide) (gf := gf) (lb := lb) rfl trivial eg
    (encs := fun x : Int => #[.int .i64 x]) (Kp := KpL w.heap.size) (S := fun ys => ys = L) (Sp := fun _ => True) (N := L.length) (w0 := w.alloc (.cells #[.slice none 0 0] 33))
    (fun l J Jx W hW hA hA' hY h0 => hseq l J Jx W (hB0.trans (hW.mono (by simp))) hA hA' hY h0)
    KpL.trans_ (KpL.put_ (by simp)) (Below.refl _ _) (fun _ => rfl)
    (fun pre W => RowBox 1 (flat intEnc) 3 33 (w.heap.size + 1) w.heap.size (fun p : List Int => p) pre W ∧ Below w.heap.size w W ∧ w.heap.size + 1 ≤ W.heap.size)
    (fun _ _ _ => False)
    (OwnFrom.and (Own.from (rowBox_own intS (flatC _) _ _ _ _ _) _) (OwnFrom.and (ownFrom_below (Nat.le_refl _) (by simp)) (fun s W W' row hs hg _ => Nat.le_trans hs hg.size)))
    (fun _ _ _ _ _ hs _ _ => hs)
    ⟨⟨_, bO, OwnRep.nil_, by simp [Value.ownBlock]⟩, hB0, by simp⟩
    (fun x a' _ => a' = { tmps := #[.slice none 0 0, .func (.func gf) #[] lb, .pointer (some ⟨w.heap.size, 0, none⟩), undef, .slice none 0 0, .int .i64 x, .func (.func gf) #[] lb, .int .i64 x, undef, undef, undef, undef, undef], defers := [] })
    ?hax ?assign ?body ?done ?stop
  case hax =>
    rintro x a' _ W W' row h3 hg hr
    exact h3
  case assign =>
    rintro l pre x W K ⟨⟨vo, hbo, hown, hne⟩, hB1, hsz⟩ hK
    gi_wp2
    exact hK _ _ ((KeepsOthers.refl _).from _) (KpL.refl_ _ _) ⟨⟨vo, hbo, hown, hne⟩, hB1, hsz⟩ rfl
  case body =>
    rintro l pre x a' W hl hr ⟨⟨vo, hbo, hown, hne⟩, hB1, hsz⟩ rfl hlt
    change OwnRep 1 (flat intEnc) 3 (w.heap.size + 1) W pre vo at hown
    have hc0 := hbo.cell
    have hlto := hown.own_lt
    obtain ⟨Ao, co, rfl, -⟩ := hown.toSl intS
    have hgw : w.heap.size < W.heap.size := by omega
    gi_wp2_with (gi_at_builtin; refine stop_intro ?_)
    refine stop_elim ?_
    refine wpListIn_append_rep rfl intS intE_ (w.heap.size + 1) (.tmp 8) (.tmp 10) rfl rfl (hown.alloc intS _) rfl (ys := [x]) (SlRep.one_new intS (t := 3) (x := x) (F := fun _ => False) (w := W) (cs := intEnc x) rfl rfl (fun b h => h.elim)) ?hF ?hn1 (by decide) ?hb1 ?_
    case hF =>
      rintro b (hb | rfl)
      · exact hb.elim
      · exact ⟨by simp, fun e => by have := (hlto _ e).2; omega⟩
    case hn1 => simp; omega
    case hb1 => simp; omega
    intro v6 w6 hown6 hg6 hat6
    have hs6 := hg6.size
    simp only [World.size_alloc] at hs6
    have hne6 : v6.ownBlock ≠ some w.heap.size := by
      rcases hat6 with h | h
      · rw [h]; exact hne
      · rw [h]; simp; omega
    have hbo6 : Boxed w6 w.heap.size 33 (.slice Ao pre.length co) := box_keep (hbo.alloc _) (hg6.block _ (by simp; omega) (fun e => hne e.symm))
    have hk6 : KeepsOthers W w6 := (KeepsOthers.alloc W _).trans (KeepsOthers.of_grownBy hg6 (fun j o hj ho => by
      rcases (hown.alloc intS (.cells (intEnc x).toArray 3)).rows.2 with ⟨h1, _⟩ | ⟨g, cap, cur, h1, _, hg, _⟩
      · rw [h1] at hj; cases hj
      · rw [h1] at hj
        cases hj
        have ho' := ho.symm.trans hg
        injection ho' with ho'
        subst ho'
        rfl))
    have hb6 : Below w.heap.size W w6 := ((Below.refl _ _).alloc (by omega) _).grown hg6 (by simp; omega) (fun k hk => by have := (hlto k hk).1; omega)
    have hL6 : ∀ (b : Nat) (cs : Array Value) (fz : Nat × Nat), W.heap[b]? = some (.cells cs 47 fz) → w6.heap[b]? = W.heap[b]? := fun b cs fz e => by
      have hbW : b < W.heap.size := heap_ltA e
      have e1 : (W.alloc (.cells (intEnc x).toArray 3)).heap[b]? = W.heap[b]? := Below.heap_alloc _ _ _ hbW
      refine (hg6.block b (by simp; omega) (fun e2 => ?_)).trans e1
      rcases (hown.alloc intS (.cells (intEnc x).toArray 3)).rows.2 with ⟨h1, _⟩ | ⟨g, cap, cur, h1, _, hg, _⟩
      · rw [h1] at e2; cases e2
      · rw [h1] at e2
        injection e2 with e2
        subst e2
        rw [e1, e] at hg
        injection hg with hg
        injection hg with _ hg
        cases hg
    have hLb : ∀ (b : Nat) (cs : Array Value) (fz : Nat × Nat), W.heap[b]? = some (.cells cs 47 fz) → b ≠ w.heap.size := fun b cs fz e e2 => by
      subst e2
      have h9 : W.heap[w.heap.size]? = some (.cells #[.slice Ao pre.length co] 33 (0, 0)) := hbo
      rw [e] at h9
      injection h9 with h9
      injection h9 with _ h9
      cases h9
    have HL6 := Lib.hid (And.intro hL6 hLb)
    clear hL6 hLb
    have hc6 := hbo6.cell
    have hf6 := hbo6.frozen
    obtain ⟨A6, c6, rfl, -⟩ := id (hown6.toSl intS)
    have hbo7 := box_set hbo6 (v' := .slice A6 (pre ++ [x]).length c6)
    have hown7 : OwnRep 1 (flat intEnc) 3 (w.heap.size + 1) (w6.setCell ⟨w.heap.size, 0, none⟩ (.slice A6 (pre ++ [x]).length c6)) (pre ++ [x]) (.slice A6 (pre ++ [x]).length c6) := hown6.keep (fun b hb => Below.heap_setCell _ _ _ _ (fun e => hne6 (by rw [hb, e])))
    have hlt6 : w.heap.size < w6.heap.size := by omega
    have hX7 : Below w.heap.size w6 (w6.setCell ⟨w.heap.size, 0, none⟩ (.slice A6 (pre ++ [x]).length c6)) := (Below.refl w.heap.size w6).setCell (p := ⟨w.heap.size, 0, none⟩) (Nat.le_refl _) _
    generalize hacc2 : pre ++ [x] = acc2 at *
    have HA2 := Lib.hid hacc2
    clear hacc2
    gi_wp2
    refine ⟨(hk6.trans (KeepsOthers.setCell _ _ _)).from _, ⟨hb6.trans hX7, fun b cs fz e => (Below.heap_setCell _ _ _ _ (HL6.out.2 b cs fz e)).trans (HL6.out.1 b cs fz e)⟩, ⟨_, hbo7, ?_, hne6⟩, (hB1.trans hb6).trans hX7, by simp; omega⟩
    show OwnRep 1 (flat intEnc) _ _ _ (pre ++ [x]) _
    rw [HA2.out]
    exact hown7
  case done =>
    rintro D ys W hD rfl ⟨⟨vo, hbo, hown, hne⟩, hB1, hsz⟩ hK
    have hc := hbo.cell
    have hgw : w.heap.size < W.heap.size := by omega
    gi_wp2
    refine ⟨by simp, .inl ⟨_, _, rfl, run_takeDeferred hK, ?_⟩⟩
    have hbD := belowK_b (w := w) (Nat.le_refl _) W D _ (.deferred none) (by simp at hD; omega) hK rfl rfl
    exact ⟨_, results_tmp rfl _ _ _, vo, rfl, (hown.frameC intS (flatC _) (sameC_grown (grownBy_putObj' W D _) (fun r e => by cases e; exact ⟨_, hK, rfl⟩)) (by simp)).base_le (by omega), hB1.trans hbD⟩
  case stop =>
    rintro D c pre W _ _ h _
    exact h.elim
theorem collect_c (gf : FuncId) (lb : Array Value) (eg : ∀ (args : Array Value) (W : World), (callFunc gf args).run Tryz.prog W = .ok (.enter gf args) W) (L : List Int) (w : World) (hL : L.length ≤ 1000000) (hseq : Gives gf lb L 3 w) :
    Calls Tryz.prog 36 #[.func (.func gf) #[] lb] w fun e w' => ∃ v', e = .returned v' ∧ OwnRep 1 (flat intEnc) 3 w.heap.size w' L v' ∧ Below w.heap.size w w' := by
  have HA := Lib.hid (appendSeq_c gf lb eg L w hL hseq)
  go_enter Tryz.func36, Tryz.ntmps36
  go_wp2_with fail
  refine HA.out.mono ?_
  rintro e w1 ⟨v, rfl, hown, hb⟩
  obtain ⟨A, n, c, rfl, -⟩ : ∃ A n c, v = .slice A n c ∧ n = L.length := by
    obtain ⟨A, c, e, -⟩ := hown.toSl intS
    exact ⟨A, _, c, e, rfl⟩
  go_wp2
  go_ret
  exact ⟨_, rfl, hown, hb⟩
end Go.Proofs.YtenaifmkejmdaaaGreatDoor
