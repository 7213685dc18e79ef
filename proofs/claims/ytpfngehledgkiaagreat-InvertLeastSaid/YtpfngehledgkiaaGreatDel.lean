/- slices.DeleteFunc at postings. -/
import Derived.Test.YtpfngehledgkiaaGreatPut
import Derived.Test.YtpfngehledgkiaaGreatOwn
import Derived.Laws.CopyRow
namespace Go.Proofs.YtpfngehledgkiaaGreat
open Go.RowKit

set_option maxHeartbeats 2000000 in
theorem pstIdx1_c (F : FuncId) (c0 : Value) (p : Post → Bool) (xs : List Post) (v : Value) (w : World) (B : Nat) (hB : B ≤ w.heap.size) (h : SlRep 4 (flat Post.enc) w (fun b => b < B) xs v)
    (hF : ∀ (args : Array Value) (W : World), (callFunc F args).run Tryz.prog W = .ok (.enter F args) W)
    (hp : ∀ (x : Post) (W : World), x ∈ xs → Below w.heap.size w W → (flat Post.enc) W (fun b => b < B) x [.string x.word, .int .i64 x.unit, .int .i64 x.field, .int .i64 x.place] → Calls Tryz.prog F #[.agg #[.string x.word, .int .i64 x.unit, .int .i64 x.field, .int .i64 x.place], c0] W fun e w' => e = .returned (.bool (p x)) ∧ Below W.heap.size W w') :
    Calls Tryz.prog 86 #[v, .func (.func F) #[] #[c0]] w fun e w' => e = .returned (.int .i64 (idxF p xs)) ∧ Below w.heap.size w w' := by
  obtain ⟨A, c, rfl, hc1, hc2, _⟩ := id h
  have HP := Lib.hid hp
  clear hp
  have HF := Lib.hid (show idxF p xs = idxG p (xs.drop 0) 0 from rfl)
  go_enter Tryz.func86, Tryz.ntmps86
  go_wp2
  go_loopw [8] (fun i wr => ∃ k : Nat, k ≤ xs.length ∧ i = .int .i64 k ∧ Hid (idxF p xs = idxG p (xs.drop k) k) ∧ Below w.heap.size w wr) (fun i _ => xs.length - (intOf i).toNat)
  case atStart => exact ⟨0, Nat.zero_le _, rfl, HF, Below.refl _ _⟩
  case round =>
    obtain ⟨k, hk, rfl, HS, hb⟩ := hrel
    clear HF
    have hs := hb.size
    by_cases hlt : k < xs.length
    · obtain ⟨x, hx⟩ := get_at xs hlt
      have HD := Lib.hid (drop_at hx)
      obtain ⟨b, off, rfl, hbB, g0, g1, g2, g3⟩ := Posts.at_ (h.below pstS (hb.mono hB)) hx
      have hbw : b < wr.heap.size := by have : b < B := hbB; omega
      have HPX := Lib.hid (HP.out x  wr (List.mem_of_getElem? hx) hb  rfl)
      clear hx
      go_wp2_with fail
      refine HPX.out.mono ?_
      rintro e w1 ⟨rfl, hb1⟩
      cases hpx : p x
      · go_wp2
        go_roundw
        case rel => exact ⟨k + 1, by omega, by go_num, by show _ = _; rw [HS.out, HD.out]; simp [idxG, hpx], hb.trans (hb1.mono hs)⟩
        case measure => simp [intOf]; omega
      · go_wp2
        go_ret
        exact ⟨ret_int (by rw [HS.out, HD.out]; simp [idxG, hpx]), hb.trans (hb1.mono hs)⟩
    · go_wp2
      go_ret
      exact ⟨ret_int (by rw [HS.out, List.drop_of_length_le (by omega)]; rfl), hb⟩
section
variable {α : Type} {k : Nat} {enc : α → List Value} {e : TypeId} {base : Nat} {w : World} {xs : List α}
theorem flat_take (hR : Shape k (flat enc)) (xs : List α) (i : Nat) : ((xs.take i).map enc).flatten = ((xs.map enc).flatten).take (i * k) := by
  have hfl : ∀ ys : List α, (ys.map enc).flatten.length = ys.length * k := fun ys => flatten_len (w := default) (F := fun _ => True) hR (xs := ys) (by simp) (fun j x cs hx hcs => by rw [List.getElem?_map, hx] at hcs; injection hcs with hcs; exact hcs.symm)
  have e5 : (xs.map enc).flatten = ((xs.take i).map enc).flatten ++ ((xs.drop i).map enc).flatten := by
    rw [← List.flatten_append, ← List.map_append, List.take_append_drop]
  by_cases hi : i ≤ xs.length
  · rw [e5, List.take_left' (by rw [hfl, List.length_take, Nat.min_eq_left hi])]
  · rw [List.take_of_length_le (show xs.length ≤ i by omega), List.take_of_length_le]
    rw [hfl]
    exact Nat.mul_le_mul_right _ (by omega)
/-- clear(s[i:]) -/
theorem own_clear {P : Program} (hR : Shape k (flat enc)) {t : TypeId} (ht : P.underlying t = some (.slice e)) {z : Value} (hv : ∀ w, (zeroValue e).run P w = .ok z w) (hk : z.cells.size = k) (h1 : ∀ u ∈ z.cells.toList, u.oneCell' = true)
    {g n cap i c2 : Nat} (h : OwnRep k (flat enc) e base w xs (.slice (some ⟨g, 0, none⟩) n cap)) (hi : i < n) :
    ∃ w', (∀ ty, (Builtin.clear_ #[t] ty #[.slice (some ⟨g, i * k, none⟩) (n - i) c2]).run P w = .ok (.tuple #[]) w') ∧ OwnRep k (flat enc) e base w' (xs.take i) (.slice (some ⟨g, 0, none⟩) i cap) ∧ w.grownBy w' (some g) := by
  have hn : n = xs.length := h.len_pos hR
  rcases h.rows.2 with ⟨h0, _⟩ | ⟨g', cap', cur, hv', hbg, hg, hcap, hm, hs, htk⟩
  · cases h0
  · injection hv' with e1 e2 e3
    injection e1 with e1
    injection e1 with e1
    subst e1 e3
    rw [hn] at hi ⊢
    have hzc : (Builtin.zeroCells z.cells (xs.length - i)).toList.length = (xs.length - i) * k := by rw [Array.length_toList, size_zeroCells, hk]
    have hz1 : ∀ u ∈ (Builtin.zeroCells z.cells (xs.length - i)).toList, u.oneCell' = true := by
      intro u hu
      simp only [Builtin.zeroCells, Array.toList_map, List.mem_map, Array.toList_range, List.mem_range] at hu
      obtain ⟨j, hj, rfl⟩ := hu
      have hp : j % z.cells.size < z.cells.size := Nat.mod_lt _ (by
        rcases Nat.eq_zero_or_pos z.cells.size with h | h
        · rw [h, Nat.mul_zero] at hj
          omega
        · exact h)
      rw [getElem!_pos z.cells (j % z.cells.size) hp]
      exact h1 _ (by simp)
    have hsum : i * k + (xs.length - i) * k = xs.length * k := by
      rw [← Nat.add_mul]
      congr 1
      omega
    have hcs := Nat.mul_le_mul_right k hcap
    have hst := run_storeCells_at (P := P) g (i * k) e (Builtin.zeroCells z.cells (xs.length - i)).toList 0 cur w hg (by rw [hzc, hs]; omega) hz1
    have htl : ((cur.toList.take (i * k + 0) ++ (Builtin.zeroCells z.cells (xs.length - i)).toList ++ cur.toList.drop (i * k + 0 + (Builtin.zeroCells z.cells (xs.length - i)).toList.length)).toArray).toList.take (i * k) = cur.toList.take (i * k) := by
      change List.take (i * k) (_ ++ _ ++ _) = _
      rw [Nat.add_zero, List.append_assoc, List.take_append_of_le_length (by rw [List.length_take, Array.length_toList, hs]; omega), List.take_take, Nat.min_self]
    have hsz : (cur.toList.take (i * k + 0) ++ (Builtin.zeroCells z.cells (xs.length - i)).toList ++ cur.toList.drop (i * k + 0 + (Builtin.zeroCells z.cells (xs.length - i)).toList.length)).toArray.size = cap * k := by
      simp only [List.size_toArray, List.length_append, List.length_take, List.length_drop, hzc, Array.length_toList, hs, Nat.add_zero]
      omega
    generalize (cur.toList.take (i * k + 0) ++ (Builtin.zeroCells z.cells (xs.length - i)).toList ++ cur.toList.drop (i * k + 0 + (Builtin.zeroCells z.cells (xs.length - i)).toList.length)).toArray = nw at hst htl hsz
    have hil : (xs.take i).length = i := by rw [List.length_take]; omega
    refine ⟨w.setRow g nw, fun ty => ?_, OwnRep.of_rows ⟨?_, .inr ⟨g, cap, nw, by rw [hil], hbg, setRow_heap w g cur nw e _ hg, by rw [hil]; omega, hm, hsz, ?_⟩⟩, ⟨rfl, rfl, rfl, ?_, ?_⟩⟩
    · obtain ⟨m, hm'⟩ : ∃ m, xs.length - i = m + 1 := ⟨xs.length - i - 1, by omega⟩
      rw [hm'] at hst ⊢
      simp [Builtin.clear_, run_underlying ht, hv, hst]
    · rw [flat_take hR, List.length_take, h.rows.1, hil, Nat.min_eq_left (Nat.mul_le_mul_right _ (Nat.le_of_lt hi))]
    · rw [hil, htl, flat_take hR, ← htk, List.take_take, Nat.min_eq_left (Nat.mul_le_mul_right _ (Nat.le_of_lt hi))]
    · simp [World.setRow]
    · intro j hj hne
      have : j ≠ g := fun e => hne (by rw [e])
      simp [World.setRow, Array.getElem?_modify, Ne.symm this]
end
/-- the row, while elements are struck -/
structure DelInv (p : Post → Bool) (xs : List Post) (i j : Nat) (ys : List Post) : Prop where
  len : ys.length = xs.length
  lt : i < j
  le : j ≤ xs.length
  head : ys.take i = (xs.take j).filter fun x => !p x
  tail : ys.drop j = xs.drop j
theorem DelInv.start {p : Post → Bool} {xs : List Post} {k : Nat} {x : Post} (hk : xs[k]? = some x) (hx : p x = true) (ha : ∀ (j : Nat) y, j < k → xs[j]? = some y → p y = false) : DelInv p xs k (k + 1) xs where
  len := rfl
  lt := Nat.lt_succ_self _
  le := lt_of_at hk
  head := by
    rw [take_at hk, List.filter_append, List.filter_eq_self.2]
    · simp [hx]
    · intro y hy
      obtain ⟨j, hj⟩ := List.getElem?_of_mem hy
      have hjl := lt_of_at hj
      rw [List.length_take] at hjl
      rw [List.getElem?_take, if_pos (by omega)] at hj
      simp [ha j y (by omega) hj]
  tail := rfl
theorem DelInv.at_ {p : Post → Bool} {xs ys : List Post} {i j : Nat} {x : Post} (h : DelInv p xs i j ys) (hx : xs[j]? = some x) : ys[j]? = some x := by
  have := congrArg (fun l => l[0]?) h.tail
  simp only [List.getElem?_drop, Nat.add_zero] at this
  rw [this]
  exact hx
theorem DelInv.keep {p : Post → Bool} {xs ys : List Post} {i j : Nat} {x : Post} (h : DelInv p xs i j ys) (hx : xs[j]? = some x) (hp : p x = false) : DelInv p xs (i + 1) (j + 1) (ys.set i x) where
  len := by rw [List.length_set]; exact h.len
  lt := Nat.succ_lt_succ h.lt
  le := lt_of_at hx
  head := by
    have hi : i < ys.length := by have := h.len; have := h.lt; have := lt_of_at hx; omega
    have hset : (ys.set i x)[i]? = some x := by rw [List.getElem?_set_self hi]
    rw [take_at hset, take_at hx, List.filter_append, ← h.head, List.take_set_of_le (Nat.le_refl _)]
    simp [hp]
  tail := by
    have hd := congrArg (fun l => l.drop 1) h.tail
    simp only [List.drop_drop] at hd
    rw [List.drop_set_of_lt (by have := h.lt; omega)]
    exact hd
theorem DelInv.skip {p : Post → Bool} {xs ys : List Post} {i j : Nat} {x : Post} (h : DelInv p xs i j ys) (hx : xs[j]? = some x) (hp : p x = true) : DelInv p xs i (j + 1) ys where
  len := h.len
  lt := Nat.lt_succ_of_lt h.lt
  le := lt_of_at hx
  head := by rw [h.head, take_at hx, List.filter_append]; simp [hp]
  tail := by
    have hd := congrArg (fun l => l.drop 1) h.tail
    simpa only [List.drop_drop] using hd
theorem DelInv.done {p : Post → Bool} {xs ys : List Post} {i j : Nat} (h : DelInv p xs i j ys) (hj : ¬ j < xs.length) : ys.take i = xs.filter fun x => !p x := by
  rw [h.head, List.take_of_length_le (by omega)]
theorem own_put {e : TypeId} {base : Nat} {w : World} {ys : List Post} {g n cap i : Nat} (h : OwnRep 4 (flat Post.enc) e base w ys (.slice (some ⟨g, 0, none⟩) n cap)) (hi : i < ys.length) (x : Post) :
    OwnRep 4 (flat Post.enc) e base ((((w.setCell ⟨g, i * 4, none⟩ (.string x.word)).setCell ⟨g, i * 4 + 1, none⟩ (.int .i64 x.unit)).setCell ⟨g, i * 4 + 2, none⟩ (.int .i64 x.field)).setCell ⟨g, i * 4 + 3, none⟩ (.int .i64 x.place)) (ys.set i x) (.slice (some ⟨g, 0, none⟩) n cap) := by
  obtain ⟨y, hy⟩ := get_at ys hi
  have h1 := h.set_ pstS (i := i) (j := 0) (x := y) (x' := ⟨x.word, y.unit, y.field, y.place⟩) (u := .string x.word) hy (by omega) rfl
  have h2 := h1.set_ pstS (i := i) (j := 1) (x' := ⟨x.word, x.unit, y.field, y.place⟩) (u := .int .i64 x.unit) (List.getElem?_set_self hi) (by omega) rfl
  rw [List.set_set] at h2
  have h3 := h2.set_ pstS (i := i) (j := 2) (x' := ⟨x.word, x.unit, x.field, y.place⟩) (u := .int .i64 x.field) (List.getElem?_set_self hi) (by omega) rfl
  rw [List.set_set] at h3
  have h4 := h3.set_ pstS (i := i) (j := 3) (x' := x) (u := .int .i64 x.place) (List.getElem?_set_self hi) (by omega) rfl
  rw [List.set_set] at h4
  exact h4
theorem grown_four {w w2 : World} {g i : Nat} (h : w.grownBy w2 (some g)) (x : Post) : w.grownBy ((((w2.setCell ⟨g, i * 4, none⟩ (.string x.word)).setCell ⟨g, i * 4 + 1, none⟩ (.int .i64 x.unit)).setCell ⟨g, i * 4 + 2, none⟩ (.int .i64 x.field)).setCell ⟨g, i * 4 + 3, none⟩ (.int .i64 x.place)) (some g) := by
  refine ⟨h.os, h.tape, h.output, by simpa [World.setCell] using h.size, fun k hk hne => ?_⟩
  have : k ≠ g := fun e => hne (by rw [e])
  rw [Below.heap_setCell _ _ _ _ this, Below.heap_setCell _ _ _ _ this, Below.heap_setCell _ _ _ _ this, Below.heap_setCell _ _ _ _ this]
  exact h.block k hk hne
theorem own_frz {e : TypeId} {base : Nat} {w : World} {xs : List Post} {g n cap : Nat} (h : OwnRep 4 (flat Post.enc) e base w xs (.slice (some ⟨g, 0, none⟩) n cap)) (hne : 0 < xs.length) (o : Nat) : w.frozen? ⟨g, o, none⟩ = false := by
  obtain ⟨g', cap', h1, h2, h3, h4, h5, ⟨cur, hc⟩, -⟩ := h.open_ pstS hne
  injection h1 with h1
  injection h1 with h1
  injection h1 with h1
  subst h1
  exact Lib.frozen_of_heap hc o
theorem own_open4 {e : TypeId} {base : Nat} {w : World} {xs : List Post} {v : Value} {n : Nat} (h : OwnRep 4 (flat Post.enc) e base w xs v) (hn : xs.length = n) (hne : 0 < n) : ∃ g cap, v = .slice (some ⟨g, 0, none⟩) n cap ∧ base ≤ g ∧ g < w.heap.size ∧ n ≤ cap ∧ cap ≤ 9223372036854775807 := by
  subst hn
  obtain ⟨g, cap, h1, h2, h3, h4, h5, -⟩ := h.open_ pstS hne
  exact ⟨g, cap, h1, h2, h3, h4, h5⟩
set_option maxHeartbeats 4000000 in
theorem delP_c (F : FuncId) (c0 : Value) (p : Post → Bool) (xs : List Post) (v : Value) (base : Nat) (w : World) (h : OwnRep 4 (flat Post.enc) 43 base w xs v) (_hbase : base ≤ w.heap.size)
    (hF : ∀ (args : Array Value) (W : World), (callFunc F args).run Tryz.prog W = .ok (.enter F args) W)
    (hp : ∀ (x : Post) (W : World), w.grownBy W v.ownBlock → Calls Tryz.prog F #[pstV x, c0] W fun e w' => e = .returned (.bool (p x)) ∧ Below W.heap.size W w') :
    Calls Tryz.prog 62 #[v, .func (.func F) #[] #[c0]] w fun e w' => ∃ v', e = .returned v' ∧ OwnRep 4 (flat Post.enc) 43 base w' (xs.filter fun x => !p x) v' ∧ w.grownBy w' v.ownBlock := by
  have HI := Lib.hid (pstIdx1_c F c0 p xs v w w.heap.size (Nat.le_refl _) (h.toSl pstS) hF (fun x W _ hW _ => hp x W (grown_of_below hW _)))
  rcases idxF_cases p xs with ⟨h1, h2⟩ | ⟨k, x, h1, h2, h3, h4⟩
  · rw [h1] at HI
    have HE := Lib.hid (show (xs.filter fun x => !p x) = xs from List.filter_eq_self.2 fun x hx => by simp [h2 x hx])
    obtain ⟨A, n, c, rfl, hn⟩ := own_form pstS h
    clear h1 h2 hp
    go_enter Tryz.func62, Tryz.ntmps62
    go_wp2_with fail
    refine HI.out.mono ?_
    rintro e w1 ⟨rfl, hb1⟩
    go_wp2
    go_ret
    exact ⟨_, rfl, by rw [HE.out]; exact h.below pstS hb1, grown_of_below hb1 _⟩
  · rw [h1] at HI
    have hkl := lt_of_at h2
    have HD := Lib.hid (DelInv.start h2 h3 h4)
    obtain ⟨g, cap, rfl, hgb, hgl, hc1, hc2⟩ := own_open4 h rfl (by omega)
    have HP := Lib.hid hp
    have hne1 : ((k : Int) == -1) = false := beq_eq_false_iff_ne.2 (by omega)
    clear h1 h2 h3 h4 hp
    go_enter Tryz.func62, Tryz.ntmps62
    go_wp2_with fail
    refine HI.out.mono ?_
    rintro e w1 ⟨rfl, hb1⟩
    have hr1 := h.below pstS hb1
    have hg1 : w.grownBy w1 (some g) := grown_of_below hb1 _
    clear HI hb1 h
    go_wp2
    go_loopw [5, 6] (fun s i wr => ∃ (i0 j0 : Nat) (ys : List Post), s = .int .i64 i0 ∧ i = .int .i64 j0 ∧ Hid (DelInv p xs i0 j0 ys) ∧ OwnRep 4 (flat Post.enc) 43 base wr ys (.slice (some ⟨g, 0, none⟩) xs.length cap) ∧ w.grownBy wr (some g)) (fun _ i _ => xs.length - (intOf i).toNat)
    case atStart => exact ⟨k, k + 1, xs, rfl, by go_num, HD, hr1, hg1⟩
    case round =>
      clear hr1 hg1 HD
      obtain ⟨i0, j0, ys, rfl, rfl, HD, hr, hg⟩ := hrel
      have hd1 := HD.out.lt
      have hd2 := HD.out.le
      have hd3 := HD.out.len
      have hs := hg.size
      by_cases hlt : j0 < xs.length
      · obtain ⟨x, hx⟩ := get_at xs hlt
        have hy := HD.out.at_ hx
        obtain ⟨_, _, e9, hgB, q0, q1, q2, q3⟩ := Posts.at_ (hr.toSl pstS) hy
        cases e9
        rw [Nat.zero_add] at q0 q1 q2 q3
        have bx : Below wr.heap.size wr (wr.alloc (pstC x)) := (Below.refl _ _).alloc (Nat.le_refl _) _
        have HC := Lib.hid (HP.out x (wr.alloc (pstC x)) (hg.andThen (grown_of_below bx (some g)) (fun j hj => .inr hj)))
        have hr1 := hr.below pstS bx
        have hg1 := hg.andThen (grown_of_below bx (some g)) (fun j hj => .inr hj)
        have HX := Lib.hid hx
        clear hx hy
        cases hpx : p x
        · rw [hpx] at HC
          go_wp2_with fail
          refine HC.out.mono ?_
          rintro e w2 ⟨rfl, hb2⟩
          have hr2 := hr1.below pstS hb2
          have hg2 := hg1.andThen (grown_of_below hb2 (some g)) (fun j hj => .inr hj)
          have hgl2 := (hr2.own_lt g rfl).2
          obtain ⟨y, hyi⟩ := get_at ys (show i0 < ys.length by omega)
          obtain ⟨_, _, e9, -, p0, p1, p2, p3⟩ := Posts.at_ (hr2.toSl pstS) hyi
          cases e9
          rw [Nat.zero_add] at p0 p1 p2 p3
          have z0 : w2.cell? ⟨wr.heap.size, 0, none⟩ = some (.string x.word) := (hb2.cell (p := ⟨wr.heap.size, 0, none⟩) (by simp)).trans (by simp)
          have z1 : w2.cell? ⟨wr.heap.size, 1, none⟩ = some (.int .i64 x.unit) := (hb2.cell (p := ⟨wr.heap.size, 1, none⟩) (by simp)).trans (by simp)
          have z2 : w2.cell? ⟨wr.heap.size, 2, none⟩ = some (.int .i64 x.field) := (hb2.cell (p := ⟨wr.heap.size, 2, none⟩) (by simp)).trans (by simp)
          have z3 : w2.cell? ⟨wr.heap.size, 3, none⟩ = some (.int .i64 x.place) := (hb2.cell (p := ⟨wr.heap.size, 3, none⟩) (by simp)).trans (by simp)
          have f0 := own_frz hr2 (by omega) (i0 * 4)
          have f1 := own_frz hr2 (by omega) (i0 * 4 + 1)
          have f2 := own_frz hr2 (by omega) (i0 * 4 + 2)
          have f3 := own_frz hr2 (by omega) (i0 * 4 + 3)
          have hy0 : i0 < ys.length := by omega
          have HG := Lib.hid (grown_four hg2 x (i := i0))
          clear q0 q1 q2 q3 hyi
          go_wp2
          go_roundw
          case rel => exact ⟨i0 + 1, j0 + 1, ys.set i0 x, by go_num, by go_num, Lib.hid (HD.out.keep HX.out hpx), own_put hr2 hy0 x, HG.out⟩
          case measure => simp [intOf]; omega
        · rw [hpx] at HC
          go_wp2_with fail
          refine HC.out.mono ?_
          rintro e w2 ⟨rfl, hb2⟩
          go_wp2
          go_roundw
          case rel => exact ⟨i0, j0 + 1, ys, rfl, by go_num, Lib.hid (HD.out.skip HX.out hpx), hr1.below pstS hb2, hg1.andThen (grown_of_below hb2 (some g)) (fun j hj => .inr hj)⟩
          case measure => simp [intOf]; omega
      · have HE := Lib.hid (HD.out.done hlt)
        have hi9 : i0 < xs.length := by omega
        obtain ⟨w5, hrun, hr5, hg5⟩ := own_clear (P := Tryz.prog) pstS (t := 29) Tryz.underlying29 (z := .agg #[.string ⟨#[]⟩, .int .i64 0, .int .i64 0, .int .i64 0]) (fun w => by kernel_rfl) rfl (fun u hu => by simp [Value.cells] at hu; rcases hu with rfl | rfl | rfl | rfl <;> rfl) (c2 := cap - i0) hr hi9
        go_wp2
        go_ret
        exact ⟨_, rfl, by rw [← HE.out]; exact hr5, hg.andThen hg5 (fun j hj => .inr hj)⟩
end Go.Proofs.YtpfngehledgkiaaGreat
