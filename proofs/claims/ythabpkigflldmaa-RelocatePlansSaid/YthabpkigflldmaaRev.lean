/- Reverse of the program: a range over slices.Backward. -/
import Derived.Test.YthabpkigflldmaaItr
namespace Go.Proofs.Ythabpkigflldmaa
open Go.RowKit Go.Shelf

attribute [local go_sem] Oper.semAt_some

def bk (xs : List Carry) : List (Int × Carry) := (xs.zipIdx.map fun p => ((p.2 : Int), p.1)).reverse
theorem bk_len (xs : List Carry) : (bk xs).length = xs.length := by simp [bk]
theorem bk_at {xs : List Carry} {m : Nat} {x : Carry} (h : xs[m]? = some x) : (bk xs)[xs.length - (m + 1)]? = some ((m : Int), x) := by
  have hl := lt_of_at h
  unfold bk
  rw [List.getElem?_reverse (by simp; omega)]
  simp only [List.length_map, List.length_zipIdx, List.getElem?_map, List.getElem?_zipIdx]
  rw [show xs.length - 1 - (xs.length - (m + 1)) = m by omega, h]
  simp
theorem bk_snd (xs : List Carry) : (bk xs).map (fun e => backC e.2) = backP xs := by
  unfold bk backP
  rw [List.map_reverse, List.map_map, List.map_reverse]
  congr 1
  apply List.ext_getElem?
  intro i
  simp only [List.getElem?_map, List.getElem?_zipIdx]
  cases xs[i]? <;> rfl
abbrev encB (x : Int × Carry) : Array Value := #[.int .i64 x.1, .agg #[.int .i64 x.2.box, .int .i64 x.2.from_, .int .i64 x.2.to_]]
/-- what a round keeps: what lies below n, and one block more -/
def KpB (n Bs : Nat) (W W' : World) : Prop := Below n W W' ∧ (Bs < W.heap.size → W'.heap[Bs]? = W.heap[Bs]?)
theorem KpB.trans_ {n Bs : Nat} {A B C : World} (h : KpB n Bs A B) (k : KpB n Bs B C) : KpB n Bs A C := ⟨h.1.trans k.1, fun hb => (k.2 (Nat.lt_of_lt_of_le hb h.1.size)).trans (h.2 hb)⟩
theorem KpB.put_ {n Bs : Nat} {w : World} (hn : n ≤ w.heap.size) (hb : Bs < w.heap.size) (W : World) (l : Nat) (o o' : Obj) (hl : w.heap.size ≤ l) (h : W.heap[l]? = some o) (h1 : o.isCells = false) (h2 : o.isWalk = false) : KpB n Bs W (W.putObj l o') :=
  ⟨belowK_b hn W l o o' hl h h1 h2, fun _ => World.putObj_heap_other (by omega)⟩
set_option maxRecDepth 100000 in
set_option maxHeartbeats 2000000 in
theorem back1_in (F : Fence) (n : Nat) (h80 : F.fn 80) (hro : F.round = none) (hn : 1 ≤ n) (l Bs n₀ : Nat) (xs : List Carry) (v : Value) (J Jx : List (Int × Carry) → World → Prop)
    (hY : ∀ pre x W, J pre W → pre.length < xs.length → YieldAt F (n - 1) Try.prog l (encB x) W fun e W' =>
      (e = .returned (.bool true) ∧ J (pre ++ [x]) W' ∧ KpB n₀ Bs W W') ∨ (e = .returned (.bool false) ∧ Jx (pre ++ [x]) W'))
    (W : World) (hBs : W.cell? ⟨Bs, 0, none⟩ = some v) (hBn : Bs < W.heap.size) (hn₀ : n₀ ≤ W.heap.size) (hc : SlRep 3 (flat Carry.enc) W (fun b => b < n₀) xs v) (h0 : J [] W) :
    CallsIn F n Try.prog 80 #[.func (.yield l) #[] #[], .pointer (some ⟨Bs, 0, none⟩)] W fun e W' => (∃ v, e = .returned v) ∧
      ((∃ ys, ys = bk xs ∧ J ys W') ∨ (∃ pre, True ∧ Jx pre W')) := by
  have hbl := bk_len xs
  have HBL := Lib.hid hbl
  clear hbl
  obtain ⟨A, c, rfl, hc1, hc2, _⟩ := id hc
  refine callsIn_of_wp Try.func80 rfl h80 ?_ hro
  simp only [Try.ntmps80, List.size_toArray, List.length_cons, List.length_nil, Nat.reduceAdd, Nat.reduceSub, Array.replicate_succ, Array.replicate_zero, List.push_toArray, List.append_toArray, List.nil_append, List.cons_append]
  gi_wp2
  gi_loopw [3] (fun i wr => ∃ m : Nat, m ≤ xs.length ∧ i = .int .i64 ((m : Int) - 1) ∧ J ((bk xs).take (xs.length - m)) wr ∧ KpB n₀ Bs W wr ∧ n₀ ≤ wr.heap.size ∧ Bs < wr.heap.size)
    (fun i _ => (intOf i + 1).toNat)
  case atStart => exact ⟨xs.length, Nat.le_refl _, rfl, by simpa using h0, ⟨Below.refl _ _, fun _ => rfl⟩, hn₀, hBn⟩
  case round =>
    obtain ⟨m, hm, rfl, hJs, hkp, hsz, hBw⟩ := hrel
    have hnx := hkp.1
    rcases m with _ | m
    · have hfin : (bk xs).take (xs.length - 0) = bk xs := List.take_of_length_le (by rw [HBL.out]; omega)
      rw [hfin] at hJs
      clear hfin
      rw [show (((0 : Nat) : Int) - 1) = -1 by omega]
      gi_wp2
      go_end0
      exact ⟨⟨_, rfl⟩, .inl ⟨_, rfl, hJs⟩⟩
    · rw [show (((m + 1 : Nat) : Int) - 1) = (m : Int) by omega]
      obtain ⟨x, hx⟩ := get_at xs (show m < xs.length by omega)
      have HT := Lib.hid (show (bk xs).take (xs.length - m) = (bk xs).take (xs.length - (m + 1)) ++ [((m : Int), x)] by
        rw [show xs.length - m = xs.length - (m + 1) + 1 by omega, take_at (bk_at hx)])
      obtain ⟨b, off, rfl, hbB, g0, g1, g2⟩ := Carries.at_ (hc.below caS hnx) hx
      have hbox := (World.cell?_of_block (a := ⟨Bs, 0, none⟩) (hkp.2 hBn)).trans hBs
      have hbw : b < wr.heap.size := by omega
      have hki : (m : Int) < (xs.length : Int) := by omega
      obtain ⟨fn, tmps, assign, body, hy, hR⟩ := hY _ ((m : Int), x) wr hJs (by rw [List.length_take, HBL.out]; omega)
      dsimp only [encB] at hy
      clear hx
      gi_wp2
      refine hR.mono ?_
      rintro e W3 (⟨rfl, hJ3, hk3⟩ | ⟨rfl, hJx3⟩)
      · have hsz3 := hk3.1.size
        gi_wp2
        go_roundw
        case rel => exact ⟨m, by omega, rfl, by rw [HT.out]; exact hJ3, hkp.trans_ hk3, by omega, by omega⟩
        case measure => simp [intOf]
      · gi_wp2
        refine bodyPost_ret (results_none rfl _ _ _) rfl ?_
        exact ⟨⟨_, rfl⟩, .inr ⟨_, trivial, hJx3⟩⟩
set_option maxHeartbeats 1000000 in
theorem back_in (F : Fence) (n : Nat) (h66 : F.fn 66) (hro : F.round = none) (a : Option Addr) (len cap : Nat) (w : World) :
    CallsIn F n Try.prog 66 #[.slice a len cap] w fun e w' => e = .returned (.func (.func 80) #[] #[.pointer (some ⟨w.heap.size, 0, none⟩)]) ∧ w' = w.alloc (.cells #[.slice a len cap] 30) := by
  refine callsIn_of_wp Try.func66 rfl h66 ?_ hro
  simp only [Try.ntmps66, List.size_toArray, List.length_cons, List.length_nil, Nat.reduceAdd, Nat.reduceSub, Array.replicate_succ, Array.replicate_zero, List.push_toArray, List.append_toArray, List.nil_append, List.cons_append]
  gi_wp2
  go_ret
  exact ⟨rfl, rfl⟩
set_option maxRecDepth 100000 in
set_option maxHeartbeats 4000000 in
theorem Reverse_c (xs : List Carry) (v : Value) (w : World) (B : Nat) (hB : B ≤ w.heap.size) (h : Carries w B xs v) (hn : xs.length ≤ 1000000) :
    Calls Try.prog 35 #[v] w fun e w' => ∃ v', e = .returned v' ∧ OwnRep 3 (flat Carry.enc) 57 w.heap.size w' (backP xs) v' ∧ Below w.heap.size w w' := by
  have HBL := Lib.hid (bk_len xs)
  refine (callsIn_wide (n := 4)).1 ?_
  obtain ⟨A, c, rfl, hc1, hc2, _⟩ := id h
  refine callsIn_of_wp_marks Try.func35 rfl trivial ?_ rfl
  simp only [Try.ntmps35, List.size_toArray, List.length_cons, List.length_nil, Nat.reduceAdd, Nat.reduceSub, Array.replicate_succ, Array.replicate_zero, List.push_toArray, List.append_toArray, List.nil_append, List.cons_append]
  gi_wp2_with fail
  refine ⟨trivial, ?_⟩
  refine (back_in Fence.wide 3 trivial rfl _ _ _ _).mono ?_
  rintro e w' ⟨rfl, rfl⟩
  gi_wp2_with fail
  have hB0 : Below w.heap.size w ((w.alloc (.cells #[.slice none 0 0] 30)).alloc (.cells #[.slice A xs.length c] 30)) := ((Below.refl _ w).alloc (Nat.le_refl _) _).alloc (by simp) _
  have bO : Boxed ((w.alloc (.cells #[.slice none 0 0] 30)).alloc (.cells #[.slice A xs.length c] 30)) w.heap.size 30 (.slice none 0 0) := (Boxed.new w _ _).alloc _
  have hcell : ((w.alloc (.cells #[.slice none 0 0] 30)).alloc (.cells #[.slice A xs.length c] 30)).cell? ⟨w.heap.size + 1, 0, none⟩ = some (.slice A xs.length c) := by simp
  have hsl := (h.below caS (hB0.mono hB)).mono caS hB
  refine wpIn_rangeFunc_ownH rfl (by decide) (gf := 80) (lb := #[.pointer (some ⟨w.heap.size + 1, 0, none⟩)]) rfl trivial (enters_of Try.func80 (by kernel_rfl) rfl)
    (encs := encB) (Kp := KpB w.heap.size (w.heap.size + 1)) (S := fun ys => ys = bk xs) (Sp := fun _ => True) (N := xs.length) (w0 := (w.alloc (.cells #[.slice none 0 0] 30)).alloc (.cells #[.slice A xs.length c] 30))
    (fun l J Jx W hW _ _ hY h0 => back1_in Fence.wide (4 - 1) trivial rfl (by decide) l (w.heap.size + 1) w.heap.size xs (.slice A xs.length c) J Jx hY W ((hW.cell (p := ⟨w.heap.size + 1, 0, none⟩) (by simp)).trans hcell) (by have := hW.size; simp at this; omega) (by have := hW.size; simp at this; omega) (hsl.below caS (hW.mono (by simp; omega))) h0)
    KpB.trans_ (KpB.put_ (by simp; omega) (by simp)) (Below.refl _ _) (fun _ => rfl)
    (fun pre W => RowBox 3 (flat Carry.enc) 57 30 (w.heap.size + 2) w.heap.size (fun p : List (Int × Carry) => p.map (fun e => backC e.2)) pre W ∧ Below w.heap.size w W ∧ w.heap.size + 2 ≤ W.heap.size)
    (fun _ _ _ => False)
    (OwnFrom.and (Own.from (rowBox_own caS (flatC _) _ _ _ _ _) _) (OwnFrom.and (ownFrom_below (Nat.le_refl _) (by simp; omega)) (fun s W W' row hs hg _ => Nat.le_trans hs hg.size)))
    (fun _ _ _ _ _ hs _ _ => hs)
    ⟨⟨_, bO, OwnRep.nil_, by simp [Value.ownBlock]⟩, hB0, by simp⟩
    (fun x a' W => ∃ Bx, w.heap.size + 1 < Bx ∧ W.heap[Bx]? = some (.cells (Carry.enc x.2).toArray 57 (0, 0)) ∧ a' = { tmps := #[.slice A xs.length c, undef, .slice none 0 0, .pointer (some ⟨w.heap.size, 0, none⟩), undef, .pointer (some ⟨Bx, 0, none⟩), .slice A xs.length c, .func (.func 80) #[] #[.pointer (some ⟨w.heap.size + 1, 0, none⟩)], .int .i64 x.1, .agg #[.int .i64 x.2.box, .int .i64 x.2.from_, .int .i64 x.2.to_], undef, undef, undef, undef, undef, undef, undef, undef, undef, undef, undef], defers := [] })
    ?hax ?assign ?body ?done ?stop
  case hax =>
    rintro x a' _ W W' row ⟨Bx, h1, h2, h3⟩ hg hr
    exact ⟨Bx, h1, (sameC_grown hg (fun r e => (hr r e).2) Bx _ h2 rfl).trans h2, h3⟩
  case assign =>
    rintro l pre x W K ⟨⟨vo, hbo, hown, hne⟩, hB1, hsz⟩ hK
    have hba : Below W.heap.size W (W.alloc (.cells #[.int .i64 x.2.box, .int .i64 x.2.from_, .int .i64 x.2.to_] 57)) := (Below.refl _ _).alloc (Nat.le_refl _) _
    gi_wp2
    refine hK _ _ ((KeepsOthers.alloc _ _).from _) ⟨hba.mono (by omega), fun hb => hba.block _ hb⟩ ⟨⟨vo, hbo.alloc _, hown.below caS hba, hne⟩, hB1.trans (hba.mono (by omega)), by simp; omega⟩ ⟨W.heap.size, by omega, ?_, rfl⟩
    show (W.heap.push _)[W.heap.size]? = _
    simp [Carry.enc]
  case body =>
    rintro l pre x a' W hl hr ⟨⟨vo, hbo, hown, hne⟩, hB1, hsz⟩ ⟨Bx, hBx, hcx, rfl⟩ hlt
    have g0 : W.cell? ⟨Bx, 0, none⟩ = some (.int .i64 x.2.box) := by simp [World.cell?, hcx, Carry.enc]
    have g1 : W.cell? ⟨Bx, 1, none⟩ = some (.int .i64 x.2.from_) := by simp [World.cell?, hcx, Carry.enc]
    have g2 : W.cell? ⟨Bx, 2, none⟩ = some (.int .i64 x.2.to_) := by simp [World.cell?, hcx, Carry.enc]
    have hBl : Bx < W.heap.size := (Array.getElem?_eq_some_iff.1 hcx).1
    change OwnRep 3 (flat Carry.enc) 57 (w.heap.size + 2) W (pre.map (fun e => backC e.2)) vo at hown
    have hc0 := hbo.cell
    have hlto := hown.own_lt
    have hlp : (pre.map (fun e => backC e.2)).length = pre.length := by simp
    have HLP := Lib.hid hlp
    have HX := Lib.hid (show (pre ++ [x]).map (fun e => backC e.2) = pre.map (fun e => backC e.2) ++ [backC x.2] by simp)
    generalize pre.map (fun e => backC e.2) = acc at *
    clear hcx hlp
    obtain ⟨Ao, co, rfl, -⟩ := hown.toSl caS
    have hgw : w.heap.size < W.heap.size := by omega
    gi_wp2_with (gi_at_builtin; refine stop_intro ?_)
    refine stop_elim ?_
    refine wpListIn_append_rep rfl caS carryE_ (w.heap.size + 2) (.tmp 10) (.tmp 18) rfl rfl (hown.alloc caS _) rfl (ys := [backC x.2]) (SlRep.one_new caS (t := 57) (x := backC x.2) (F := fun _ => False) (w := W) (cs := Carry.enc (backC x.2)) rfl rfl (fun b h => h.elim)) ?hF ?hn1 (by decide) ?hb1 ?_
    case hF =>
      rintro b (hb | rfl)
      · exact hb.elim
      · exact ⟨by simp, fun e => by have := (hlto _ e).2; omega⟩
    case hn1 => have := HLP.out; simp; omega
    case hb1 => simp; omega
    intro v6 w6 hown6 hg6 hat6
    have hs6 := hg6.size
    simp only [World.size_alloc] at hs6
    have hne6 : v6.ownBlock ≠ some w.heap.size := by
      rcases hat6 with h | h
      · rw [h]; exact hne
      · rw [h]; simp; omega
    have hbo6 : Boxed w6 w.heap.size 30 (.slice Ao acc.length co) := box_keep (hbo.alloc _) (hg6.block _ (by simp; omega) (fun e => hne e.symm))
    have hk6 : KeepsOthers W w6 := (KeepsOthers.alloc W _).trans (KeepsOthers.of_grownBy hg6 (fun j o hj ho => by
      rcases (hown.alloc caS (.cells (Carry.enc (backC x.2)).toArray 57)).rows.2 with ⟨h1, _⟩ | ⟨g, cap, cur, h1, _, hg, _⟩
      · rw [h1] at hj; cases hj
      · rw [h1] at hj
        cases hj
        have ho' := ho.symm.trans hg
        injection ho' with ho'
        subst ho'
        rfl))
    have hb6 : Below w.heap.size W w6 := ((Below.refl _ _).alloc (by omega) _).grown hg6 (by simp; omega) (fun k hk => by have := (hlto k hk).1; omega)
    have hB16 : w6.heap[w.heap.size + 1]? = W.heap[w.heap.size + 1]? := (hg6.block _ (by simp; omega) (fun e => by have := (hlto _ e.symm).1; omega)).trans (Below.heap_alloc _ _ _ (by omega))
    have hc6 := hbo6.cell
    have hf6 := hbo6.frozen
    rw [← HX.out] at hown6
    obtain ⟨A6, c6, rfl, -⟩ := id (hown6.toSl caS)
    have hbo7 := box_set hbo6 (v' := .slice A6 ((pre ++ [x]).map (fun e => backC e.2)).length c6)
    have hown7 : OwnRep 3 (flat Carry.enc) 57 (w.heap.size + 2) (w6.setCell ⟨w.heap.size, 0, none⟩ (.slice A6 ((pre ++ [x]).map (fun e => backC e.2)).length c6)) ((pre ++ [x]).map (fun e => backC e.2)) (.slice A6 ((pre ++ [x]).map (fun e => backC e.2)).length c6) := hown6.keep (fun b hb => Below.heap_setCell _ _ _ _ (fun e => hne6 (by rw [hb, e])))
    have hlt6 : w.heap.size < w6.heap.size := by omega
    have hX7 : Below w.heap.size w6 (w6.setCell ⟨w.heap.size, 0, none⟩ (.slice A6 ((pre ++ [x]).map (fun e => backC e.2)).length c6)) := (Below.refl w.heap.size w6).setCell (p := ⟨w.heap.size, 0, none⟩) (Nat.le_refl _) _
    have hB7 : (w6.setCell ⟨w.heap.size, 0, none⟩ (.slice A6 ((pre ++ [x]).map (fun e => backC e.2)).length c6)).heap[w.heap.size + 1]? = w6.heap[w.heap.size + 1]? := Below.heap_setCell _ _ _ _ (by simp)
    generalize hacc2 : (pre ++ [x]).map (fun e => backC e.2) = acc2 at *
    have HA2 := Lib.hid hacc2
    clear hacc2 HX
    gi_wp2
    refine ⟨(hk6.trans (KeepsOthers.setCell _ _ _)).from _, ⟨hb6.trans hX7, fun _ => hB7.trans hB16⟩, ⟨_, hbo7, ?_, hne6⟩, (hB1.trans hb6).trans hX7, by simp; omega⟩
    show OwnRep 3 (flat Carry.enc) _ _ _ ((pre ++ [x]).map (fun e => backC e.2)) _
    rw [HA2.out]
    exact hown7
  case done =>
    rintro D ys W hD rfl ⟨⟨vo, hbo, hown, hne⟩, hB1, hsz⟩ hK
    have hc := hbo.cell
    have hgw : w.heap.size < W.heap.size := by omega
    gi_wp2
    refine ⟨by simp, .inl ⟨_, _, rfl, run_takeDeferred hK, ?_⟩⟩
    have hbD := belowK_b (w := w) (Nat.le_refl _) W D _ (.deferred none) (by simp at hD; omega) hK rfl rfl
    exact ⟨_, results_tmp rfl _ _ _, vo, rfl, by rw [← bk_snd]; exact (hown.frameC caS (flatC _) (sameC_grown (grownBy_putObj' W D _) (fun r e => by cases e; exact ⟨_, hK, rfl⟩)) (by simp)).base_le (by omega), hB1.trans hbD⟩
  case stop =>
    rintro D c pre W _ _ h _
    exact h.elim
end Go.Proofs.Ythabpkigflldmaa
