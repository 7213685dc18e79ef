/- The program: Suggest. -/
import Derived.Test.YtngodakkdhdmjaaGreatDoorSrW
import Derived.Test.YtngodakkdhdmjaaGreatDoorLbR
import Derived.Test.YtngodakkdhdmjaaGreatDoorScp
import Derived.Test.YtngodakkdhdmjaaGreatDoorSuq
namespace Go.Proofs.YtngodakkdhdmjaaGreatDoor
open Go.RowKit

theorem heap_newS (w : World) (o : Obj) : (w.alloc o).heap[w.heap.size]? = some o := by
  show (w.heap.push o)[w.heap.size]? = _
  simp
theorem filter_seg {α : Type} {p : α → Bool} {l : List α} {a m : Nat} (h : ∀ (i : Nat) x, l[i]? = some x → p x = (decide (a ≤ i) && decide (i < a + m))) (ham : a + m ≤ l.length) : l.filter p = (l.drop a).take m := by
  have h1 : (l.take a).filter p = [] := by
    rw [List.filter_eq_nil_iff]
    intro x hx
    obtain ⟨i, hi⟩ := List.getElem?_of_mem hx
    have hia : i < a := by have := lt_of_at hi; rw [List.length_take] at this; omega
    rw [List.getElem?_take, if_pos hia] at hi
    rw [h i x hi, decide_eq_false (by omega : ¬ a ≤ i)]
    simp
  have h2 : ((l.drop a).take m).filter p = (l.drop a).take m := by
    rw [List.filter_eq_self]
    intro x hx
    obtain ⟨i, hi⟩ := List.getElem?_of_mem hx
    have him : i < m := by have := lt_of_at hi; rw [List.length_take] at this; omega
    rw [List.getElem?_take, if_pos him, List.getElem?_drop] at hi
    rw [h _ x hi, decide_eq_true (by omega : a ≤ a + i), decide_eq_true (by omega : a + i < a + m)]
    rfl
  have h3 : (l.drop (a + m)).filter p = [] := by
    rw [List.filter_eq_nil_iff]
    intro x hx
    obtain ⟨i, hi⟩ := List.getElem?_of_mem hx
    rw [List.getElem?_drop] at hi
    rw [h _ x hi, decide_eq_false (by omega : ¬ a + m + i < a + m)]
    simp
  calc l.filter p = (l.take a ++ ((l.drop a).take m ++ l.drop (a + m))).filter p := by
        congr 1
        rw [← List.drop_drop, List.take_append_drop, List.take_append_drop]
    _ = _ := by rw [List.filter_append, List.filter_append, h1, h2, h3, List.append_nil, List.nil_append]
theorem seg_at (l : List Post) (h : ByteArray) : ∃ a m : Nat, prefF_ l h = ((a : Int), m) ∧ a + m ≤ l.length ∧ (m = 0 → a = 0) ∧ (l.drop a).take m = segF l h := by
  unfold segF prefF_
  by_cases h0 : chkL l = 0
  · rw [if_neg (by simpa using h0), if_pos h0]
    obtain ⟨fi, hfi⟩ : ∃ fi, rngF (fun x : Post => pfxB h x.word) l = fi := ⟨_, rfl⟩
    have hp := prefix_at (strict_sorted (chkL_zero h0).2.2) h hfi
    obtain ⟨b1, b2, b3, b4⟩ := hp
    refine ⟨fi.1.toNat, fi.2, ?_, by omega, fun e => by have := b2 e; omega, ?_⟩
    · rw [hfi]
      exact Prod.ext (by show fi.1 = _; omega) rfl
    · refine (filter_seg (p := fun p : Post => pfxB h p.word) (fun i x hx => ?_) (by omega)).symm
      rw [b1 i x hx]
      congr 1
      · rw [Bool.eq_iff_iff, decide_eq_true_iff, decide_eq_true_iff]; omega
      · rw [Bool.eq_iff_iff, decide_eq_true_iff, decide_eq_true_iff]; omega
  · rw [if_pos h0, if_neg h0]
    exact ⟨0, 0, rfl, by omega, fun _ => rfl, by simp⟩
theorem SlRep.sub {α : Type} {k : Nat} {R : CRep α} {w : World} {F : Nat → Prop} {xs : List α} {A : Option Addr} {n c a m : Nat} (h : SlRep k R w F xs (.slice A n c)) (ham : a + m ≤ xs.length) :
    SlRep k R w F ((xs.drop a).take m) (.slice (if c = a then A else A.map (·.add (a * k))) m (c - a)) := by
  obtain ⟨A', c', e, h1, h2, h3⟩ := h
  injection e with e1 e2 e3
  subst e1 e2 e3
  have hlen : ((xs.drop a).take m).length = m := by rw [List.length_take, List.length_drop]; omega
  refine ⟨_, c - a, by rw [hlen], by rw [hlen]; omega, by omega, fun i x hx => ?_⟩
  have him : i < m := by have := lt_of_at hx; omega
  rw [List.getElem?_take, if_pos him, List.getElem?_drop] at hx
  obtain ⟨b, off, cs, rfl, hF, hr, hc⟩ := h3 (a + i) x hx
  refine ⟨b, off + a * k, cs, ?_, hF, hr, fun j u hu => ?_⟩
  · rw [if_neg (by omega)]
    show some ((⟨b, off, none⟩ : Addr).add (a * k)) = _
    unfold Addr.add
    split
    · rename_i h0; rw [h0]; rfl
    · rfl
  · have := hc j u hu
    rw [Nat.add_mul, ← Nat.add_assoc] at this
    exact this
theorem elem_pst : Tryz.prog.elem 23 = 36 := by kernel_rfl
theorem run_seg {A : Option Addr} {n c a m : Nat} (h1 : a + m ≤ c) (W : World) : (Instr.slice 23 (.slice A n c) (some (.int .i64 a)) (some (.int .i64 ((a : Int) + (m : Int)))) none).run Tryz.prog W = .ok (.slice (if c = a then A else A.map (·.add (a * 4))) m (c - a)) W := by
  rw [run_slice_lh (P := Tryz.prog) W 23 A n c (by rw [elem_pst]; exact Tryz.underlying23) .i64 .i64 a ((a : Int) + (m : Int)) (by omega) (by omega) (by omega), elem_pst, Tryz.sizeOf36 W]
  show Result.ok (sliced A _ _ c 4) W = _
  unfold sliced
  rw [show ((a : Int) + (m : Int)).toNat - ((a : Int)).toNat = m by omega, Int.toNat_natCast]
theorem elem_str : Tryz.prog.elem 32 = 9 := by kernel_rfl
theorem add_zero (a : Addr) : a.add 0 = a := by unfold Addr.add; simp
theorem run_fst {A : Option Addr} {n c t : Nat} (h1 : t ≤ c) (W : World) : (Instr.slice 32 (.slice A n c) none (some (.int .i64 t)) none).run Tryz.prog W = .ok (.slice A t c) W := by
  rw [run_slice_h (P := Tryz.prog) W 32 A n c (by rw [elem_str]; exact Tryz.underlying32) .i64 t (by omega) (by omega), elem_str, Tryz.sizeOf9 W]
  show Result.ok (sliced A _ _ c 1) W = _
  unfold sliced
  rw [Int.toNat_natCast, Nat.sub_zero, Nat.sub_zero, Nat.zero_mul]
  cases A
  · simp
  · simp [add_zero]
theorem one_cnt (ps : List Post) (p : Post) : ((((cntN (ps ++ [p]) p.word : Nat) : Int) == 1) = true ∧ wlF (ps ++ [p]) = wlF ps ++ [p.word]) ∨ ((((cntN (ps ++ [p]) p.word : Nat) : Int) == 1) = false ∧ wlF (ps ++ [p]) = wlF ps) := by
  rw [cntN_snoc, if_pos rfl, wlF_snoc]
  by_cases h : cntN ps p.word = 0
  · left
    refine ⟨by rw [h]; rfl, if_neg fun hh => ?_⟩
    have := (wlF_mem ps p.word).1 (hasS_iff.1 hh)
    omega
  · right
    exact ⟨by rw [beq_eq_false_iff_ne]; omega, if_pos (hasS_iff.2 ((wlF_mem ps p.word).2 (by omega)))⟩
set_option maxRecDepth 100000 in
set_option maxHeartbeats 8000000 in
theorem suggest_c (l : List Post) (h : ByteArray) (n : Int) (v : Value) (w : World) (B : Nat) (hB : B ≤ w.heap.size) (hl : Posts w B l v) (hw : ∀ p ∈ l, p.word.size ≤ 1000000) (hll : l.length ≤ 1000000) (hn1 : -9223372036854775808 ≤ n) (hn2 : n ≤ 9223372036854775807) :
    Calls Tryz.prog 15 #[v, .string h, .int .i64 n] w fun e w' => ∃ v', e = .returned v' ∧ OwnRep 1 (flat strEnc) 9 w.heap.size w' (sugF l h n) v' ∧ Below w.heap.size w w' := by
  have hmm := @run_makeMap Tryz.prog
  obtain ⟨A, c, rfl, hc1, hc2, -⟩ := id hl
  by_cases hn : n < 1
  · have HE := Lib.hid (show sugF l h n = [] by unfold sugF; rw [if_pos hn])
    rw [HE.out]
    clear hl hw
    go_enter Tryz.func15, Tryz.ntmps15
    go_wp2
    go_ret
    exact ⟨_, rfl, OwnRep.nil_, Below.refl _ _⟩
  · obtain ⟨a, m, e0, ham, hm0, hseg⟩ := seg_at l h
    have HP := Lib.hid (iPrefix_c l _ h w B hB hl hw)
    rw [e0] at HP
    have HE := Lib.hid (show sugF l h n = (sortG (sleB (segF l h)) (wlF (segF l h))).take n.toNat by unfold sugF sugS; rw [if_neg hn])
    have hSL : (segF l h).length ≤ 1000000 := by
      unfold segF
      split
      · exact Nat.le_trans (List.length_filter_le _ _) hll
      · simp
    have HSR := Lib.hid (fun (W : World) (hW : Below w.heap.size w W) => (by
      have := (hl.below pstS (hW.mono hB)).sub ham
      rw [hseg] at this
      exact this : Posts W B (segF l h) (.slice (if c = a then A else A.map (·.add (a * 4))) m (c - a))))
    have hrun := fun W : World => run_seg (A := A) (n := l.length) (c := c) (a := a) (m := m) (by omega) W
    obtain ⟨A', hA'⟩ : ∃ A', (if c = a then A else A.map (·.add (a * 4))) = A' := ⟨_, rfl⟩
    rw [hA'] at HSR hrun
    obtain ⟨c', hc'⟩ : ∃ c', c - a = c' := ⟨_, rfl⟩
    rw [hc'] at HSR hrun
    have hml : (segF l h).length = m := by rw [← hseg, List.length_take, List.length_drop]; omega
    have HWL := Lib.hid (fun k => Nat.le_trans (wlF_len ((segF l h).take k)) (Nat.le_trans (by rw [List.length_take]; exact Nat.min_le_right _ _) hSL))
    generalize segF l h = S at *
    have hc2' : c' ≤ 9223372036854775807 := by omega
    have H0 := Lib.hid (show S.take 0 = [] from rfl)
    clear hseg e0 hl hw hll hA' hc'
    have hwr : IntKind.i64.wrap ((a : Int) + (m : Int)) = (a : Int) + (m : Int) := IntWalk.i64_in _ (by omega)
    subst hml
    go_enter Tryz.func15, Tryz.ntmps15
    go_wp2_with fail
    refine HP.out.mono ?_
    rintro e w1 ⟨rfl, b1⟩
    have oM : Below w1.heap.size w1 ((w1.alloc (.map #[] 0)).alloc (.cells #[.map (some w1.heap.size)] 79)) := ((Below.refl _ _).alloc (Nat.le_refl _) _).alloc (by simp) _
    have hM0 : MapF ((w1.alloc (.map #[] 0)).alloc (.cells #[.map (some w1.heap.size)] 79)) w1.heap.size Value.string intV (cntM []) := by
      rw [cntM_nil]
      exact (MapF.new w1 Value.string intV rfl).frame (Below.heap_alloc _ _ _ (by simp))
    have hB0 : ((w1.alloc (.map #[] 0)).alloc (.cells #[.map (some w1.heap.size)] 79)).heap[w1.heap.size + 1]? = some (.cells #[.map (some w1.heap.size)] 79 (0, 0)) := by
      have := heap_newS (w1.alloc (.map #[] 0)) (.cells #[.map (some w1.heap.size)] 79)
      simpa only [World.size_alloc] using this
    go_wp2
    go_loopw [10, 29] (fun o i wr => ∃ (k : Nat) (os : List ByteArray), k ≤ S.length ∧ i = .int .i64 k ∧ Hid (wlF (S.take k) = os) ∧ OwnRep 1 (flat strEnc) 9 (w1.heap.size + 2) wr os o ∧ MapF wr w1.heap.size Value.string intV (cntM (S.take k)) ∧ wr.heap[w1.heap.size + 1]? = some (.cells #[.map (some w1.heap.size)] 79 (0, 0)) ∧ Below w1.heap.size w1 wr) (fun _ i _ => S.length - (intOf i).toNat)
    case atStart => exact ⟨0, [], Nat.zero_le _, rfl, Lib.hid rfl, OwnRep.nil_, hM0, hB0, oM⟩
    case round =>
      clear hM0 hB0 oM H0
      obtain ⟨k, os, hk, rfl, HOS, hown, hm, hbx, bw⟩ := hrel
      have hbl : w1.heap.size + 1 < wr.heap.size := by
        rcases Nat.lt_or_ge (w1.heap.size + 1) wr.heap.size with h' | h'
        · exact h'
        · rw [Array.getElem?_eq_none h'] at hbx; cases hbx
      have hol : os.length ≤ 1000000 := by rw [← HOS.out]; exact HWL.out k
      obtain ⟨Ao, no, co, rfl, hno⟩ := own_form strS hown
      have hlo := hown.own_lt
      have z9 : wr.cell? ⟨w1.heap.size + 1, 0, none⟩ = some (.map (some w1.heap.size)) := by rw [Lib.cell_of_heap hbx]; rfl
      by_cases hlt : k < S.length
      · obtain ⟨p, hp⟩ := get_at S hlt
        obtain ⟨b, off, rfl, hbB, q0, q1, q2, q3⟩ := Posts.at_ (HSR.out _ (b1.trans (bw.mono b1.size))) hp
        have hbw : b < wr.heap.size := by have : b < B := hbB; have := b1.size; have := bw.size; omega
        have hki : (k : Int) < (S.length : Int) := by omega
        have hwk : IntKind.i64.wrap ((k : Int) + 1) = (k : Int) + 1 := IntWalk.i64_in _ (by omega)
        have hx1 : Below wr.heap.size wr (wr.alloc (pstC p)) := (Below.refl _ _).alloc (Nat.le_refl _) _
        have hm1 := hm.frame (Below.heap_alloc wr (pstC p) w1.heap.size (by omega))
        have hown1 := hown.below strS hx1
        have bw1 := bw.trans (hx1.mono bw.size)
        have hbx1 := (hx1.block _ hbl).trans hbx
        have hpn : (wr.alloc (pstC p)).heap[wr.heap.size]? = some (pstC p) := heap_newS _ _
        have hlk := look_cnt hm1 p.word
        have HT := Lib.hid (take_at hp)
        have HCS := Lib.hid (cntM_snoc (S.take k) p)
        have hcn : cntN (S.take k) p.word ≤ 1000000 := Nat.le_trans List.countP_le_length (by rw [List.length_take]; omega)
        have hwc : IntKind.i64.wrap (((cntN (S.take k) p.word : Nat) : Int) + 1) = ((cntN (S.take k) p.word : Nat) : Int) + 1 := IntWalk.i64_in _ (by omega)
        have H1C := Lib.hid (one_cnt (S.take k) p)
        have hs1 : (wr.alloc (pstC p)).heap.size = wr.heap.size + 1 := by simp
        clear hp hown hm hno
        go_wp2_with (at_mapUpdate; refine stop_intro ?_)
        refine stop_elim ?_
        refine wpList_mapPut rfl (.tmp 33) (.tmp 35) (.tmp 37) 79 (.inl rfl) strK Tryz.underlying79 hm1 rfl p.word rfl (((cntN (S.take k) p.word : Nat) : Int) + 1) rfl ?_
        intro w2 hm2 hg2
        have b2 := bw1.grown hg2 bw1.size (fun k hk => by injection hk; omega)
        have hbx2 := (hg2.block (w1.heap.size + 1) (by omega) (fun e => by injection e; omega)).trans hbx1
        have hpn2 := (hg2.block wr.heap.size (by omega) (fun e => by injection e; omega)).trans hpn
        have hown2 := hown1.keep (fun b hb => hg2.block b (by have := (hlo b hb).2; omega) (fun e => by injection e; have := (hlo b hb).1; omega))
        have hs2 := hg2.size
        rw [HCS.out, ← HT.out] at hm2
        have hlk2 := look_cnt hm2 p.word
        have z92 : w2.cell? ⟨w1.heap.size + 1, 0, none⟩ = some (.map (some w1.heap.size)) := by rw [Lib.cell_of_heap hbx2]; rfl
        have zl2 : w1.heap.size + 1 < w2.heap.size := by omega
        obtain ⟨y0, y1, y2, y3, yl⟩ := pst_cells hpn2
        rw [← HT.out] at H1C
        clear hm1 hlk hwc hbx1 hpn hown1 z9 q0 q1 q2 q3
        rcases H1C.out with ⟨he, hw⟩ | ⟨he, hw⟩
        · have HW := Lib.hid (show wlF (S.take (k + 1)) = os ++ [p.word] by rw [hw, HOS.out])
          clear hw H1C hcn HCS HT HOS
          generalize cntN (S.take (k + 1)) p.word = cq at *
          go_wp2_with (at_builtin; refine stop_intro ?_)
          refine stop_elim ?_
          refine wpList_app1 rfl strS strE_ (w1.heap.size + 2) (.tmp 43) (.tmp 46) rfl rfl hown2 (y := p.word) rfl rfl (by omega) (by decide) (by omega) ?_
          intro v6 w6 hown6 hb6
          have b6 := hb6 _ _ (by omega) b2
          have k6 := hb6 (w1.heap.size + 2) w2 (Nat.le_refl _) (Below.refl _ _)
          have hm6 := hm2.below k6 (by omega)
          have hbx6 := (k6.block (w1.heap.size + 1) (by omega)).trans hbx2
          clear hown2 hb6 hm2 hbx2
          obtain ⟨A6, n6, c6, rfl, hn6⟩ := own_form strS hown6
          go_wp2
          go_roundw
          case rel => exact ⟨k + 1, _, by omega, by go_num, HW, hown6, hm6, hbx6, b6⟩
          case measure => simp [intOf]; omega
        · have HW := Lib.hid (show wlF (S.take (k + 1)) = os by rw [hw, HOS.out])
          clear hw H1C hcn HCS HT HOS
          generalize cntN (S.take (k + 1)) p.word = cq at *
          go_wp2
          go_roundw
          case rel => exact ⟨k + 1, os, by omega, by go_num, HW, hown2, hm2, hbx2, b2⟩
          case measure => simp [intOf]; omega
      · have hki : ¬ (k : Int) < (S.length : Int) := by omega
        have hke : S.take k = S := List.take_of_length_le (by omega)
        rw [hke] at hm HOS
        have HX := Lib.hid (show sugF l h n = (sortG (sleB S) os).take n.toNat by rw [HE.out, HOS.out])
        have HSO := Lib.hid (sortWords_c S os w1.heap.size (w1.heap.size + 1) (.slice Ao no co) (w1.heap.size + 2) wr hown (by omega) hm z9 hbl (by omega) (by omega))
        have hnc : no ≤ co := (hown.toSl strS).len_.2.1
        have hnl : (sortG (sleB S) os).length = no := by rw [(sortG_perm _).length_eq, hno.out]
        obtain ⟨t, ht⟩ : ∃ t, min n.toNat no = t := ⟨_, rfl⟩
        have hmi : min n (no : Int) = (t : Int) := by omega
        have hrun2 := fun W : World => run_fst (A := Ao) (n := no) (c := co) (t := t) (by omega) W
        have HTK := Lib.hid (show (sortG (sleB S) os).take n.toNat = (sortG (sleB S) os).take t by
          rw [← ht]
          rcases Nat.le_total n.toNat no with h9 | h9
          · rw [Nat.min_eq_left h9]
          · rw [Nat.min_eq_right h9, List.take_of_length_le (by omega), List.take_of_length_le (by omega)])
        have htl : t ≤ (sortG (sleB S) os).length := by omega
        have HNL := Lib.hid hnl
        clear hown hm hke hno hnl ht z9
        have z9 : wr.cell? ⟨w1.heap.size + 1, 0, none⟩ = some (.map (some w1.heap.size)) := by rw [Lib.cell_of_heap hbx]; rfl
        go_wp2_with fail
        refine HSO.out.mono ?_
        rintro e w9 ⟨rfl, hown9, hg9⟩
        have b9 := b1.trans ((bw.grown hg9 bw.size (fun j hj => by have := (hlo j hj).1; omega)).mono b1.size)
        have hown9 := hown9.take_ strS htl
        rw [← HTK.out, ← HX.out] at hown9
        have hbs := b1.size
        clear htl
        go_wp2
        go_ret
        exact ⟨_, rfl, hown9.base_le (by omega), b9⟩
end Go.Proofs.YtngodakkdhdmjaaGreatDoor
