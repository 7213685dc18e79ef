/- InvertComplete: the closure that finds the postings of a text, and what its count says. -/
import Derived.Test.YtpfngehledgkiaaRfG
import Derived.Test.YtpfngehledgkiaaFwI
import Derived.Test.YtpfngehledgkiaaLbR
import Derived.Test.YtpfngehledgkiaaUpd
import Derived.Test.YtpfngehledgkiaaFnd
import Derived.Test.YtpfngehledgkiaaTwQ
namespace Go.Proofs.Ytpfngehledgkiaa
open Go.RowKit

/-- a row of postings as a slice of it -/
theorem SlRep.part {α : Type} {k : Nat} {R : CRep α} {w : World} {F : Nat → Prop} {xs : List α} {b off n c : Nat} (h : SlRep k R w F xs (.slice (some ⟨b, off, none⟩) n c)) {i m : Nat} (hi : i + m ≤ xs.length) : SlRep k R w F ((xs.drop i).take m) (.slice (some ⟨b, off + i * k, none⟩) m (c - i)) := by
  obtain ⟨A', c', e, h1, h2, h3⟩ := h
  injection e with e1 e2 e3
  subst e1 e2 e3
  have hl : ((xs.drop i).take m).length = m := by rw [List.length_take, List.length_drop]; omega
  refine ⟨_, _, by rw [hl], by omega, by omega, fun j x hx => ?_⟩
  have hj := lt_of_at hx
  rw [List.getElem?_take, if_pos (by omega), List.getElem?_drop] at hx
  obtain ⟨b', off', cs, hA, hF, hr, hc⟩ := h3 (i + j) x hx
  injection hA with hA
  injection hA with hA1 hA2
  subst hA1 hA2
  refine ⟨b, off + i * k, cs, rfl, hF, hr, fun q u hu => ?_⟩
  have := hc q u hu
  rwa [show off + (i + j) * k + q = off + i * k + j * k + q by rw [Nat.add_mul]; omega] at this
theorem Post.eql (x y : Post) (w : World) : (binOp .eql 40 (.agg #[.string x.word, .int .i64 x.unit, .int .i64 x.field, .int .i64 x.place]) (.agg #[.string y.word, .int .i64 y.unit, .int .i64 y.field, .int .i64 y.place])).run Try.prog w = .ok (.bool (eqPost x y)) w := by
  have hs : ∀ (d : Nat) (xs ys : Array Value), (Op.equalIn (d + 1) 40 (.agg xs) (.agg ys)).run Try.prog w = (Op.eqFields d xs ys (Try.prog.fieldsOf 40).toList).run Try.prog w := fun d xs ys => run_equalIn_struct w d 40 xs ys (by kernel_rfl) (by kernel_rfl)
  simp only [binOp]
  simp [Op.equal, Op.maxDepth, hs 9999, Program.fieldsOf, Try.underlying40, go_sem, eqPost, str_eq]
  by_cases h0 : x.word = y.word <;> by_cases h1 : x.unit = y.unit <;> by_cases h2 : x.field = y.field <;> by_cases h3 : x.place = y.place <;> simp [h0, h1, h2, h3]
abbrev pstX (p : Post) : Obj := .cells #[.string p.word, .int .i64 p.unit, .int .i64 p.field, .int .i64 p.place] 40
theorem pstW_at {w W : World} {p : Post} (hW : Below (w.heap.size + 1) (w.alloc (pstX p)) W) : W.cell? ⟨w.heap.size, 0, none⟩ = some (.string p.word) ∧ W.cell? ⟨w.heap.size, 1, none⟩ = some (.int .i64 p.unit) ∧ W.cell? ⟨w.heap.size, 2, none⟩ = some (.int .i64 p.field) ∧ W.cell? ⟨w.heap.size, 3, none⟩ = some (.int .i64 p.place) ∧ w.heap.size < W.heap.size :=
  ⟨(hW.cell (p := ⟨w.heap.size, 0, none⟩) (by simp)).trans (by simp), (hW.cell (p := ⟨w.heap.size, 1, none⟩) (by simp)).trans (by simp), (hW.cell (p := ⟨w.heap.size, 2, none⟩) (by simp)).trans (by simp), (hW.cell (p := ⟨w.heap.size, 3, none⟩) (by simp)).trans (by simp), by have := hW.size; simp at this; omega⟩
set_option maxHeartbeats 2000000 in
theorem pindex_c (p : Post) (xs : List Post) (v : Value) (w : World) (B : Nat) (hB : B ≤ w.heap.size) (h : Posts w B xs v) :
    Calls Try.prog 54 #[v, .agg #[.string p.word, .int .i64 p.unit, .int .i64 p.field, .int .i64 p.place]] w fun e w' => e = .returned (.int .i64 (idxF (fun x => eqPost p x) xs)) ∧ Below w.heap.size w w' := by
  have b1 : Below w.heap.size w (w.alloc (pstX p)) := (Below.refl _ _).alloc (Nat.le_refl _) _
  have hb0 : Below (w.heap.size + 1) (w.alloc (pstX p)) (w.alloc (pstX p)) := Below.refl _ _
  have KC := Lib.hid (fun (W : World) (hW : Below (w.heap.size + 1) (w.alloc (pstX p)) W) => pstW_at hW)
  obtain ⟨A, c, rfl, hc1, hc2, _⟩ := id h
  have HF := Lib.hid (show idxF (fun x => eqPost p x) xs = idxG (fun x => eqPost p x) (xs.drop 0) 0 from rfl)
  go_enter Try.func54, Try.ntmps54
  go_wp2
  go_loopw [8] (fun i wr => ∃ k : Nat, k ≤ xs.length ∧ i = .int .i64 k ∧ Hid (idxF (fun x => eqPost p x) xs = idxG (fun x => eqPost p x) (xs.drop k) k) ∧ Below (w.heap.size + 1) (w.alloc (pstX p)) wr) (fun i _ => xs.length - (intOf i).toNat)
  case atStart => exact ⟨0, Nat.zero_le _, rfl, HF, hb0⟩
  case round =>
    obtain ⟨k, hk, rfl, HS, hb⟩ := hrel
    clear HF
    have bW := b1.trans (hb.mono (Nat.le_succ _))
    obtain ⟨z0, z1, z2, z3, zl⟩ := KC.out _ hb
    by_cases hlt : k < xs.length
    · obtain ⟨x, hx⟩ := get_at xs hlt
      have HD := Lib.hid (drop_at hx)
      obtain ⟨b, off, rfl, hbB, q0, q1, q2, q3⟩ := Posts.at_ (h.below pstS (bW.mono hB)) hx
      have hbw : b < wr.heap.size := by have : b < B := hbB; have := bW.size; omega
      clear hx
      have hne := fun W : World => Post.eql p x W
      cases he : eqPost p x
      · have HE := Lib.hid (show idxF (fun x => eqPost p x) xs = idxG (fun x => eqPost p x) (xs.drop (k + 1)) (k + 1) by rw [HS.out, HD.out]; simp [idxG, he])
        rw [he] at hne
        clear he
        go_wp2
        go_quiet (fail)
        go_wp2
        go_roundw
        case rel => exact ⟨k + 1, by omega, by go_num, HE, below_drewN hb _⟩
        case measure => simp [intOf]; omega
      · have HE := Lib.hid (show (k : Int) = idxF (fun x => eqPost p x) xs by rw [HS.out, HD.out]; simp [idxG, he])
        rw [he] at hne
        clear he
        go_wp2
        go_quiet (fail)
        go_wp2
        go_ret
        exact ⟨ret_int HE.out, below_drewN bW _⟩
    · go_wp2
      go_ret
      exact ⟨ret_int (by rw [HS.out, List.drop_of_length_le (by omega)]; rfl), bW⟩
theorem pcontains_c (p : Post) (xs : List Post) (v : Value) (w : World) (B : Nat) (hB : B ≤ w.heap.size) (h : Posts w B xs v) :
    Calls Try.prog 17 #[v, .agg #[.string p.word, .int .i64 p.unit, .int .i64 p.field, .int .i64 p.place]] w fun e w' => e = .returned (.bool (xs.any fun x => eqPost p x)) ∧ Below w.heap.size w w' := by
  have b1 : Below w.heap.size w (w.alloc (pstX p)) := (Below.refl _ _).alloc (Nat.le_refl _) _
  have HI := Lib.hid (pindex_c p xs v (w.alloc (pstX p)) B (Nat.le_trans hB b1.size) (h.below pstS (b1.mono hB)))
  have HE := Lib.hid (idx_any (fun x => eqPost p x) xs)
  obtain ⟨A, c, rfl, hc1, hc2, _⟩ := id h
  go_enter Try.func17, Try.ntmps17
  go_wp2_with fail
  refine HI.out.mono ?_
  rintro e w1 ⟨rfl, hb1⟩
  go_wp2
  go_ret
  exact ⟨ret_bool (by rw [← HE.out]), b1.trans (hb1.mono (by simp))⟩

/-- a posting of a right list lies among those that Find tells -/
theorem find_has {l : List Post} (h0 : chkL l = 0) {p : Post} (hp : p ∈ l) : ∃ a m : Nat, findF l p.word = ((a : Int), m) ∧ a + m ≤ l.length ∧ ((l.drop a).take m).any (fun x => eqPost p x) = true := by
  obtain ⟨-, -, hpw⟩ := chkL_zero h0
  obtain ⟨h1, -, h3, h4⟩ := find_at (strict_sorted hpw) p.word rfl
  have hf : findF l p.word = rngF (fun x : Post => decide (x.word = p.word)) l := by unfold findF; rw [if_neg (show ¬ (chkL l ≠ 0) from fun h => h h0)]
  generalize rngF (fun x : Post => decide (x.word = p.word)) l = fi at *
  obtain ⟨f, m⟩ := fi
  obtain ⟨a, ha⟩ := Int.eq_ofNat_of_zero_le (show 0 ≤ f from h3)
  subst ha
  simp only at h1 h3 h4
  refine ⟨a, m, hf, by omega, List.any_eq_true.2 ⟨p, ?_, (eqPost_iff p p).2 rfl⟩⟩
  obtain ⟨i, hi, hx⟩ := List.mem_iff_getElem.1 hp
  have hx' : l[i]? = some p := by rw [List.getElem?_eq_getElem hi, hx]
  have h5 := h1 i p hx'
  simp only [decide_true] at h5
  rw [eq_comm, Bool.and_eq_true, decide_eq_true_eq, decide_eq_true_eq] at h5
  refine List.mem_iff_getElem?.2 ⟨i - a, ?_⟩
  rw [List.getElem?_take, if_pos (by omega), List.getElem?_drop, show a + (i - a) = i by omega]
  exact hx'
theorem grown_set (W : World) (b : Nat) (v : Value) : W.grownBy (W.setCell ⟨b, 0, none⟩ v) (some b) :=
  ⟨rfl, rfl, rfl, by simp [World.setCell], fun k _ hne => Below.heap_setCell _ _ _ _ (fun e => hne (by rw [e]))⟩
abbrev cntC (n : Nat) : Obj := .cells #[.int .i64 (n : Int)] 3
theorem cnt_set {W : World} {b n m : Nat} (h : W.heap[b]? = some (cntC n)) : (W.setCell ⟨b, 0, none⟩ (.int .i64 (m : Int))).heap[b]? = some (cntC m) := by
  simp [World.setCell, Array.getElem?_modify, h]
set_option maxRecDepth 100000 in
set_option maxHeartbeats 4000000 in
theorem cfind_c (L : List Post) (vl : Value) (u n : Int) (t : ByteArray) (g5 g7 cnt : Nat) (w : World) (hl : SlRep 4 (flat Post.enc) w (fun b => b < w.heap.size ∧ b ≠ g7) L vl) (h5 : w.cell? ⟨g5, 0, none⟩ = some vl) (hg5 : g5 < w.heap.size) (h57 : g5 ≠ g7)
    (h7 : w.heap[g7]? = some (cntC cnt)) (hcn : cnt ≤ 100000000) (ht : t.size ≤ 1000000) (hL : chkL L = 0) (hm : ∀ p ∈ putF u n t, p ∈ L) :
    Calls Try.prog 14 #[.int .i64 u, .int .i64 n, .string t, .pointer (some ⟨g5, 0, none⟩), .pointer (some ⟨g7, 0, none⟩)] w fun e w' => e = .returned (.bool true) ∧ w.grownBy w' (some g7) ∧ w'.heap[g7]? = some (cntC (cnt + (wordsF t).length)) := by
  have HW := Lib.hid (words_c t w ht)
  have HWL := Lib.hid (wordsF_len t)
  have hwd : ∀ p ∈ L, p.word.size ≤ 1000000 := fun p hp => by
    obtain ⟨-, h2, -⟩ := chkL_zero hL
    have := h2 p hp
    unfold rightP at this
    simp only [Bool.and_eq_true, decide_eq_true_eq] at this
    omega
  have hlen : L.length ≤ 65536 := (chkL_zero hL).1
  have HM := Lib.hid (fun (k : Nat) (x : ByteArray) (hx : (wordsF t)[k]? = some x) => find_has hL (p := ⟨x, u, n, (k : Int)⟩) (hm _ (by
    have := putG_at u n (wordsF t) 0 k x hx
    rw [Nat.zero_add] at this
    exact List.mem_of_getElem? this)))
  have HFI := Lib.hid (fun (x : ByteArray) (W : World) (hW : Posts W W.heap.size L vl) => iFind_c L vl x W W.heap.size (Nat.le_refl _) hW hwd)
  have hg7 := heap_ltQ h7
  clear hm hwd
  generalize wordsF t = ws at *
  obtain ⟨A, c, rfl, hc1, hc2, -⟩ := id hl
  go_enter Try.func14, Try.ntmps14
  go_wp2_with fail
  refine HW.out.mono ?_
  rintro e w1 ⟨vw, rfl, hws, hb1⟩
  have hwl := hws.own_lt
  have HWS := Lib.hid (hws.toFlat strS)
  obtain ⟨Aw, nw, cw, rfl, hnw⟩ := own_form strS hws
  have hs1 := hb1.size
  have hlw := hnw.out
  have hws1 : ws.length ≤ 1000000 := Nat.le_trans HWL.out ht
  subst hlw
  clear hws HW hnw
  go_wp2
  go_loopw [17] (fun i wr => ∃ k : Nat, k ≤ ws.length ∧ i = .int .i64 k ∧ w1.grownBy wr (some g7) ∧ wr.heap[g7]? = some (cntC (cnt + k))) (fun i _ => ws.length - (intOf i).toNat)
  case atStart => exact ⟨0, Nat.zero_le _, rfl, World.grownBy.refl _ _, (hb1.block g7 hg7).trans h7⟩
  case round =>
    obtain ⟨k, hk, rfl, hgr, hcr⟩ := hrel
    have hsr := hgr.size
    by_cases hlt : k < ws.length
    · obtain ⟨x, hx⟩ := get_at ws hlt
      obtain ⟨a, m, hf, ham, han⟩ := HM.out k x hx
      have hfr : ∀ b, (Value.slice Aw ws.length cw).ownBlock = some b → wr.heap[b]? = w1.heap[b]? := fun b hb => hgr.block b (hwl b hb).2 (fun e => by injection e with e; have := (hwl b hb).1; omega)
      obtain ⟨bw, offw, rfl, hbo, q0⟩ := Strs.at_ (HWS.out.frame strS hfr) hx
      have hbw : bw < wr.heap.size := Nat.lt_of_lt_of_le (hwl bw hbo).2 hsr
      have hlr : SlRep 4 (flat Post.enc) wr (fun b => b < wr.heap.size ∧ b ≠ g7) L (.slice A L.length c) := (hl.frame pstS (fun b hb => (hgr.block b (Nat.lt_of_lt_of_le hb.1 hs1) (fun e => by injection e with e; exact hb.2 e)).trans (hb1.block b hb.1))).monoF pstS (fun b hb => ⟨Nat.lt_of_lt_of_le hb.1 (Nat.le_trans hs1 hsr), hb.2⟩)
      have hg5r : g5 < wr.heap.size := Nat.lt_of_lt_of_le hg5 (Nat.le_trans hs1 hsr)
      have z5 : wr.cell? ⟨g5, 0, none⟩ = some (.slice A L.length c) := (cell_grown hgr (p := ⟨g5, 0, none⟩) (Nat.lt_of_lt_of_le hg5 hs1) (fun e => by injection e with e; exact h57 e)).trans ((hb1.cell (p := ⟨g5, 0, none⟩) hg5).trans h5)
      have hki : (k : Int) < (ws.length : Int) := by omega
      have b6 : Below wr.heap.size wr (wr.alloc (pstX ⟨x, u, n, (k : Int)⟩)) := (Below.refl _ _).alloc (Nat.le_refl _) _
      have hb6 : Below (wr.heap.size + 1) (wr.alloc (pstX ⟨x, u, n, (k : Int)⟩)) (wr.alloc (pstX ⟨x, u, n, (k : Int)⟩)) := Below.refl _ _
      have KC := Lib.hid (fun (W : World) (hW : Below (wr.heap.size + 1) (wr.alloc (pstX ⟨x, u, n, (k : Int)⟩)) W) => pstW_at hW)
      have hlp : Posts (wr.alloc (pstX ⟨x, u, n, (k : Int)⟩)) (wr.alloc (pstX ⟨x, u, n, (k : Int)⟩)).heap.size L (.slice A L.length c) := ((hlr.monoF pstS (fun b hb => hb.1) : Posts wr wr.heap.size L (.slice A L.length c)).below pstS b6).mono pstS b6.size
      have HF1 := Lib.hid (HFI.out x _ hlp)
      rw [hf] at HF1
      clear hf hfr
      go_wp2_with fail
      refine HF1.out.mono ?_
      rintro e w2 ⟨rfl, hb2⟩
      have bX := bnd_call hb6 (by simp) hb2
      have bW := b6.trans (bX.mono (Nat.le_succ _))
      have hl2 : Posts w2 wr.heap.size L (.slice A L.length c) := (hlr.monoF pstS (fun b hb => hb.1) : Posts wr wr.heap.size L (.slice A L.length c)).below pstS bW
      have hz5 : ∀ W, Below wr.heap.size wr W → W.cell? ⟨g5, 0, none⟩ = some (.slice A L.length c) := fun W hW => (hW.cell (p := ⟨g5, 0, none⟩) hg5r).trans z5
      have HZ5 := Lib.hid hz5
      clear hz5 z5
      obtain ⟨y0, y1, y2, y3, yl⟩ := KC.out _ bX
      have y5 := HZ5.out _ bW
      have hg52 : g5 < w2.heap.size := Nat.lt_of_lt_of_le hg5r bW.size
      obtain ⟨p0, hp0⟩ := get_at L (show 0 < L.length by
        rcases Nat.eq_zero_or_pos L.length with h | h
        · have : L = [] := List.eq_nil_of_length_eq_zero h
          rw [this] at han
          simp at han
        · exact h)
      obtain ⟨bl, ol, rfl, -⟩ := Posts.at_ hl2 hp0
      clear hp0
      have HPP := Lib.hid (fun (W : World) (hW : Below w2.heap.size w2 W) => (((hl2.below pstS (hW.mono bW.size)).mono pstS (Nat.le_trans bW.size hW.size) : Posts W W.heap.size L (.slice (some ⟨bl, ol, none⟩) L.length c))).part ham)
      have hm1 : 0 < m := by
        rcases Nat.eq_zero_or_pos m with h | h
        · rw [h] at han
          simp at han
        · exact h
      have hca : ¬ c = a := by omega
      have htn : ((a : Int) + (m : Int)).toNat - a = m := by omega
      have HPC := Lib.hid (fun (W : World) (hW : Below w2.heap.size w2 W) => show Calls Try.prog 17 #[.slice (some ⟨bl, ol + a * 4, none⟩) m (c - a), .agg #[.string x, .int .i64 u, .int .i64 n, .int .i64 (k : Int)]] W fun e w' => e = .returned (.bool true) ∧ Below W.heap.size W w' by
        have := pcontains_c ⟨x, u, n, (k : Int)⟩ ((L.drop a).take m) _ W W.heap.size (Nat.le_refl _) (HPP.out W hW)
        rwa [han] at this)
      clear hm1
      have hb22 : Below w2.heap.size w2 w2.drew := (Below.refl _ _).drew
      have hwr : IntKind.i64.wrap ((a : Int) + (m : Int)) = (a : Int) + (m : Int) := IntWalk.i64_in _ (by omega)
      have hd0 : decide ((a : Int) < 0) = false := by simp
      have hd1 : decide ((m : Int) < 0) = false := by simp
      have hd2 : decide ((L.length : Int) < (a : Int) + (m : Int)) = false := by simp; omega
      have hc3 : (a : Int) ≤ (a : Int) + (m : Int) := by omega
      have hc4 : (a : Int) + (m : Int) ≤ (c : Int) := by omega
      have hc5 : (0 : Int) ≤ (a : Int) := by omega
      have hc6 : (0 : Int) ≤ (a : Int) + (m : Int) := by omega
      have KEEP := Lib.hid (fun (W : World) (hW : Below w2.heap.size w2 W) => (⟨(hW.cell (p := ⟨g5, 0, none⟩) hg52).trans y5, (hW.cell (p := ⟨wr.heap.size, 0, none⟩) yl).trans y0, (hW.cell (p := ⟨wr.heap.size, 1, none⟩) yl).trans y1, (hW.cell (p := ⟨wr.heap.size, 2, none⟩) yl).trans y2, (hW.cell (p := ⟨wr.heap.size, 3, none⟩) yl).trans y3⟩ : W.cell? ⟨g5, 0, none⟩ = some (.slice (some ⟨bl, ol, none⟩) L.length c) ∧ W.cell? ⟨wr.heap.size, 0, none⟩ = some (.string x) ∧ W.cell? ⟨wr.heap.size, 1, none⟩ = some (.int .i64 u) ∧ W.cell? ⟨wr.heap.size, 2, none⟩ = some (.int .i64 n) ∧ W.cell? ⟨wr.heap.size, 3, none⟩ = some (.int .i64 (k : Int))))
      go_wp2
      clear y0 y1 y2 y3 y5
      go_region_held3 (fun W => W.cell? ⟨g5, 0, none⟩ = some (.slice (some ⟨bl, ol, none⟩) L.length c) ∧ W.cell? ⟨wr.heap.size, 0, none⟩ = some (.string x) ∧ W.cell? ⟨wr.heap.size, 1, none⟩ = some (.int .i64 u) ∧ W.cell? ⟨wr.heap.size, 2, none⟩ = some (.int .i64 n) ∧ W.cell? ⟨wr.heap.size, 3, none⟩ = some (.int .i64 (k : Int))) (with_reducible exact KEEP.out _ hb22) (first
        | (go_at_call 17; (with_reducible refine (HPC.out _ hb22).mono ?_); rintro e w3 ⟨rfl, hb3⟩; have hb22 := bnd_call hb22 (Nat.le_refl _) hb3))
      have hb3f := bW.trans (hb22.mono bW.size)
      obtain ⟨q, hq⟩ : ∃ q : Nat, q = cnt + k := ⟨_, rfl⟩
      have hq1 : q + 1 ≤ 200000000 := by omega
      rw [← hq] at hcr
      have HQ := Lib.hid hq
      have hc3w := (hb3f.block g7 (heap_ltQ hcr)).trans hcr
      have s0 : w3.cell? ⟨g7, 0, none⟩ = some (.int .i64 (q : Int)) := by rw [Lib.cell_of_heap hc3w]; rfl
      have sf := Lib.frozen_of_heap hc3w 0
      have HC := Lib.hid (cnt_set (m := q + 1) hc3w)
      have hgf := (hgr.trans (grown_of_below hb3f (some g7))).trans (grown_set w3 g7 (.int .i64 ((q : Int) + 1)))
      clear hq
      go_wp2
      go_roundw
      case rel =>
        refine ⟨k + 1, by omega, by go_num, hgf, ?_⟩
        have := HC.out
        rwa [show cnt + (k + 1) = q + 1 by rw [HQ.out]; omega]
      case measure => simp [intOf]; omega
    · have hki : ¬ (k : Int) < (ws.length : Int) := by omega
      have hk2 : k = ws.length := by omega
      subst hk2
      go_wp2
      go_ret
      exact ⟨rfl, (grown_of_below hb1 _).trans hgr, hcr⟩
end Go.Proofs.Ytpfngehledgkiaa
