/- The program: put. slices.DeleteFunc at postings. The program: Find and Prefix, over sort.Search. The program: Find, Prefix. -/
import Derived.Test.YtngodakkdhdmjaaGreatDoorIvK
import Derived.Test.YtngodakkdhdmjaaGreatDoorBas
import Derived.Laws.CopyRow
import Derived.Deep.LoopGhost
import Derived.Shelf.Abstract
namespace Go.Proofs.YtngodakkdhdmjaaGreatDoor
section
open Go.RowKit

theorem grown_of_below {w w' : World} (h : Below w.heap.size w w') (row : Option Nat) : w.grownBy w' row := ⟨h.os, h.tape, h.output, h.size, fun k hk _ => h.block k hk⟩
theorem below_of_grown {B : Nat} {w w' : World} {row : Option Nat} (h : w.grownBy w' row) (hB : B ≤ w.heap.size) (hr : ∀ k, row = some k → B ≤ k) : Below B w w' := (Below.refl B w).grown h hB hr
/-- a row's block, before and behind: the same one, or one that is new -/
def NewOr (m : Nat) (v v' : Value) : Prop := v'.ownBlock = v.ownBlock ∨ ∀ b, v'.ownBlock = some b → m ≤ b
theorem NewOr.step {m : Nat} {v v' v'' : Value} {w : World} (h : NewOr m v v') (hat : v''.ownBlock = v'.ownBlock ∨ v''.ownBlock = some w.heap.size) (hm : m ≤ w.heap.size) : NewOr m v v'' := by
  rcases hat with e | e
  · rcases h with h | h
    · exact .inl (e.trans h)
    · exact .inr (fun b hb => h b (e ▸ hb))
  · exact .inr (fun b hb => by rw [e] at hb; injection hb with hb; omega)
theorem NewOr.row {w w' : World} {v v' : Value} (h : NewOr w.heap.size v v') {w'' : World} (hg : w.grownBy w' v.ownBlock) (hg2 : w'.grownBy w'' v'.ownBlock) : w.grownBy w'' v.ownBlock :=
  hg.andThen hg2 (fun j hj => by
    rcases h with h | h
    · exact .inr (h ▸ hj)
    · exact .inl (h j hj))
theorem NewOr.mono {m m' : Nat} {v v' : Value} (h : NewOr m v v') (hm : m' ≤ m) : NewOr m' v v' := by
  rcases h with h | h
  · exact .inl h
  · exact .inr (fun b hb => Nat.le_trans hm (h b hb))
theorem NewOr.both {m : Nat} {v v' v'' : Value} (h : NewOr m v v') (h2 : NewOr m v' v'') : NewOr m v v'' := by
  rcases h2 with h2 | h2
  · rcases h with h | h
    · exact .inl (h2.trans h)
    · exact .inr (fun b hb => h b (h2 ▸ hb))
  · exact .inr h2
theorem own_form {α : Type} {k : Nat} {R : CRep α} (hR : Shape k R) {e : TypeId} {base : Nat} {w : World} {xs : List α} {v : Value} (h : OwnRep k R e base w xs v) : ∃ A n c, v = .slice A n c ∧ Hid (n = xs.length) := by
  obtain ⟨A, c, e1, -⟩ := h.toSl hR
  exact ⟨A, _, c, e1, Lib.hid rfl⟩
theorem putG_snoc {u n : Int} {ws : List ByteArray} {k : Nat} {x : ByteArray} (h : ws[k]? = some x) : (putG u n 0 ws).take (k + 1) = (putG u n 0 ws).take k ++ [⟨x, u, n, (k : Int)⟩] := by
  have := putG_at u n ws 0 k x h
  rw [Nat.zero_add] at this
  exact take_at this
set_option maxRecDepth 100000 in
set_option maxHeartbeats 4000000 in
theorem put_c (l : List Post) (v : Value) (u n : Int) (t : ByteArray) (base : Nat) (w : World) (h : OwnRep 4 (flat Post.enc) 36 base w l v) (hbase : base ≤ w.heap.size) (ht : t.size ≤ 1000000) (hl : l.length ≤ 1000000) :
    Calls Tryz.prog 97 #[v, .int .i64 u, .int .i64 n, .string t] w fun e w' => ∃ v', e = .returned v' ∧ OwnRep 4 (flat Post.enc) 36 base w' (l ++ putF u n t) v' ∧ w.grownBy w' v.ownBlock ∧ NewOr w.heap.size v v' := by
  obtain ⟨A0, c0, rfl, -⟩ := id (h.toSl pstS)
  have HW := Lib.hid (words_c t w ht)
  have HLN := Lib.hid (wordsF_len t)
  have HPF := Lib.hid (show putF u n t = putG u n 0 (wordsF t) from rfl)
  generalize putF u n t = pf at *
  generalize wordsF t = ws at *
  go_enter Tryz.func97, Tryz.ntmps97
  go_wp2_with fail
  refine HW.out.mono ?_
  rintro e w1 ⟨vw, rfl, hws, hb1⟩
  have hwl := hws.own_lt
  have hown := h.own_lt
  have HWS := Lib.hid (hws.toFlat strS)
  have hs1 := hb1.size
  have hr0 := h.keep (w' := w1) (fun b hb => hb1.block b (hown b hb).2)
  have hg1 := grown_of_below hb1 (Value.ownBlock (.slice A0 l.length c0))
  obtain ⟨Aw, cw, rfl, hw1, hw2, -⟩ := id (hws.toSl strS)
  have HLV := Lib.hid (show (l ++ (putG u n 0 ws).take 0) = l by simp)
  go_wp2
  go_loopw [0, 14] (fun s i wr => ∃ (k : Nat) (v' : Value), k ≤ ws.length ∧ i = .int .i64 k ∧ s = v' ∧ OwnRep 4 (flat Post.enc) 36 base wr (l ++ (putG u n 0 ws).take k) v' ∧ w.grownBy wr (Value.ownBlock (.slice A0 l.length c0)) ∧ NewOr w1.heap.size (.slice A0 l.length c0) v' ∧ w1.grownBy wr (Value.ownBlock (.slice A0 l.length c0))) (fun _ i _ => ws.length - (intOf i).toNat)
  case atStart => exact ⟨0, _, Nat.zero_le _, rfl, rfl, by rw [HLV.out]; exact hr0, hg1, .inl rfl, ⟨rfl, rfl, rfl, Nat.le_refl _, fun _ _ _ => rfl⟩⟩
  case round =>
    clear hr0 hg1 HLV
    obtain ⟨k, v', hk, rfl, rfl, hr, hg, hnw, hg1⟩ := hrel
    have hsr := hg1.size
    by_cases hlt : k < ws.length
    · obtain ⟨x, hx⟩ := get_at ws hlt
      have hsw : SlRep 1 (flat strEnc) wr (fun b => Value.ownBlock (.slice Aw ws.length cw) = some b) ws (.slice Aw ws.length cw) := HWS.out.frame strS (fun b hb => hg1.block b (hwl b hb).2 (fun e => by
        have := (hwl b hb).1
        have := (hown b e.symm).2
        omega))
      obtain ⟨b, off, rfl, hbB, g0⟩ := Strs.at_ hsw hx
      have hbw : b < wr.heap.size := by have := (hwl b hbB).2; omega
      have hki : (k : Int) < (ws.length : Int) := by omega
      have HT := Lib.hid (putG_snoc (u := u) (n := n) hx)
      have hb2 : Below wr.heap.size wr (wr.alloc (pstC ⟨x, u, n, (k : Int)⟩)) := (Below.refl _ _).alloc (Nat.le_refl _) _
      have hlk : (l ++ (putG u n 0 ws).take k).length ≤ 1000000 + 1000000 := by
        rw [List.length_append, List.length_take]
        have := HLN.out
        omega
      have hro := hr.own_lt
      obtain ⟨A1, c1, rfl, -⟩ := id (hr.toSl pstS)
      clear hx
      go_wp2_with (at_builtin; refine stop_intro ?_)
      refine stop_elim ?_
      refine wpList_append_rep rfl pstS pstE_ base (.tmp 19) (.tmp 25) rfl rfl (hr.below pstS hb2) rfl (ys := [⟨x, u, n, (k : Int)⟩]) (SlRep.one_new pstS (w := wr) (F := fun _ => False) (x := ⟨x, u, n, (k : Int)⟩) (cs := Post.enc ⟨x, u, n, (k : Int)⟩) rfl rfl (fun _ hb => hb.elim)) ?_ (by simp at hlk ⊢; omega) (by decide) (by have := hg.size; simp; omega) ?_
      · intro b hb
        rcases hb with hb | rfl
        · exact hb.elim
        · exact ⟨by simp, fun e => by have := (hro _ e).2; omega⟩
      intro v6 w6 hown6 hg6 hat6
      have hg7 : wr.grownBy w6 (Value.ownBlock (.slice A1 (l ++ (putG u n 0 ws).take k).length c1)) := (grown_of_below hb2 _).andThen hg6 (fun j hj => .inr hj)
      have hat7 : v6.ownBlock = Value.ownBlock (.slice A1 (l ++ (putG u n 0 ws).take k).length c1) ∨ ∀ b, v6.ownBlock = some b → wr.heap.size ≤ b := by
        rcases hat6 with e | e
        · exact .inl e
        · exact .inr (fun b hb => by rw [e] at hb; injection hb with hb; simp at hb; omega)
      have hnw6 : NewOr w1.heap.size (.slice A0 l.length c0) v6 := by
        rcases hat7 with e | e
        · rcases hnw with h | h
          · exact .inl (e.trans h)
          · exact .inr (fun b hb => h b (e ▸ hb))
        · exact .inr (fun b hb => by have := e b hb; omega)
      have hga : w.grownBy w6 (Value.ownBlock (.slice A0 l.length c0)) := hg.andThen hg7 (fun j hj => by
        rcases hnw with h | h
        · exact .inr (h ▸ hj)
        · exact .inl (by have := h j hj; omega))
      have hgb : w1.grownBy w6 (Value.ownBlock (.slice A0 l.length c0)) := hg1.andThen hg7 (fun j hj => by
        rcases hnw with h | h
        · exact .inr (h ▸ hj)
        · exact .inl (h j hj))
      have hown7 : OwnRep 4 (flat Post.enc) 36 base w6 (l ++ (putG u n 0 ws).take (k + 1)) v6 := by rw [HT.out, ← List.append_assoc]; exact hown6
      obtain ⟨A6, n6, c6, rfl, hn6⟩ := own_form pstS hown6
      have HO := Lib.hid hown7
      clear hown6 hown7 hat6 hat7 hg6 hr HT hlk
      go_wp2
      go_roundw
      case rel => exact ⟨k + 1, _, by omega, by go_num, rfl, HO.out, hga, hnw6, hgb⟩
      case measure => simp [intOf]; omega
    · have HE := Lib.hid (show l ++ (putG u n 0 ws).take k = l ++ pf by rw [HPF.out, List.take_of_length_le (by rw [putG_len]; omega)])
      rw [HE.out] at hr
      have hnw' := hnw.mono hs1
      obtain ⟨A1, n1, c1, rfl, hn1⟩ := own_form pstS hr
      clear HE
      go_wp2
      go_ret
      exact ⟨_, rfl, hr, hg, hnw'⟩
end
section
open Go.RowKit

set_option maxHeartbeats 2000000 in
theorem pstIdx1_c (F : FuncId) (c0 : Value) (p : Post → Bool) (xs : List Post) (v : Value) (w : World) (B : Nat) (hB : B ≤ w.heap.size) (h : SlRep 4 (flat Post.enc) w (fun b => b < B) xs v)
    (hF : ∀ (args : Array Value) (W : World), (callFunc F args).run Tryz.prog W = .ok (.enter F args) W)
    (hp : ∀ (x : Post) (W : World), x ∈ xs → Below w.heap.size w W → (flat Post.enc) W (fun b => b < B) x [.string x.word, .int .i64 x.unit, .int .i64 x.field, .int .i64 x.place] → Calls Tryz.prog F #[.agg #[.string x.word, .int .i64 x.unit, .int .i64 x.field, .int .i64 x.place], c0] W fun e w' => e = .returned (.bool (p x)) ∧ Below W.heap.size W w') :
    Calls Tryz.prog 78 #[v, .func (.func F) #[] #[c0]] w fun e w' => e = .returned (.int .i64 (idxF p xs)) ∧ Below w.heap.size w w' := by
  obtain ⟨A, c, rfl, hc1, hc2, _⟩ := id h
  have HP := Lib.hid hp
  clear hp
  have HF := Lib.hid (show idxF p xs = idxG p (xs.drop 0) 0 from rfl)
  go_enter Tryz.func78, Tryz.ntmps78
  go_wp2
  go_loopw [8] (fun i wr => ∃ k : Nat, k ≤ xs.length ∧ i = .int .i64 k ∧ Hid (idxF p xs = idxG p (xs.drop k) k) ∧ Below w.heap.size w wr) (fun i _ => xs.length - (intOf i).toNat)
  case atStart => exact ⟨0, Nat.zero_le _, rfl, HF, Below.refl _ _⟩
  case round =>
    obtain ⟨k, hk, rfl, HS, hb⟩ := hrel
    clear HF
    have hs := hb.size
    by_cases hlt : k < xs.length
    · obtain ⟨x, hx⟩ := get_at xs hlt
      have HD := Lib.hid (drop_at hx)
      obtain ⟨b, off, rfl, hbB, g0, g1, g2, g3⟩ := Posts.at_ (h.below pstS (hb.mono hB)) hx
      have hbw : b < wr.heap.size := by have : b < B := hbB; omega
      have HPX := Lib.hid (HP.out x  wr (List.mem_of_getElem? hx) hb  rfl)
      clear hx
      go_wp2_with fail
      refine HPX.out.mono ?_
      rintro e w1 ⟨rfl, hb1⟩
      cases hpx : p x
      · go_wp2
        go_roundw
        case rel => exact ⟨k + 1, by omega, by go_num, by show _ = _; rw [HS.out, HD.out]; simp [idxG, hpx], hb.trans (hb1.mono hs)⟩
        case measure => simp [intOf]; omega
      · go_wp2
        go_ret
        exact ⟨ret_int (by rw [HS.out, HD.out]; simp [idxG, hpx]), hb.trans (hb1.mono hs)⟩
    · go_wp2
      go_ret
      exact ⟨ret_int (by rw [HS.out, List.drop_of_length_le (by omega)]; rfl), hb⟩
section
variable {α : Type} {k : Nat} {enc : α → List Value} {e : TypeId} {base : Nat} {w : World} {xs : List α}
theorem flat_take (hR : Shape k (flat enc)) (xs : List α) (i : Nat) : ((xs.take i).map enc).flatten = ((xs.map enc).flatten).take (i * k) := by
  have hfl : ∀ ys : List α, (ys.map enc).flatten.length = ys.length * k := fun ys => flatten_len (w := default) (F := fun _ => True) hR (xs := ys) (by simp) (fun j x cs hx hcs => by rw [List.getElem?_map, hx] at hcs; injection hcs with hcs; exact hcs.symm)
  have e5 : (xs.map enc).flatten = ((xs.take i).map enc).flatten ++ ((xs.drop i).map enc).flatten := by
    rw [← List.flatten_append, ← List.map_append, List.take_append_drop]
  by_cases hi : i ≤ xs.length
  · rw [e5, List.take_left' (by rw [hfl, List.length_take, Nat.min_eq_left hi])]
  · rw [List.take_of_length_le (show xs.length ≤ i by omega), List.take_of_length_le]
    rw [hfl]
    exact Nat.mul_le_mul_right _ (by omega)
/-- clear(s[i:]) -/
theorem own_clear {P : Program} (hR : Shape k (flat enc)) {t : TypeId} (ht : P.underlying t = some (.slice e)) {z : Value} (hv : ∀ w, (zeroValue e).run P w = .ok z w) (hk : z.cells.size = k) (h1 : ∀ u ∈ z.cells.toList, u.oneCell' = true)
    {g n cap i c2 : Nat} (h : OwnRep k (flat enc) e base w xs (.slice (some ⟨g, 0, none⟩) n cap)) (hi : i < n) :
    ∃ w', (∀ ty, (Builtin.clear_ #[t] ty #[.slice (some ⟨g, i * k, none⟩) (n - i) c2]).run P w = .ok (.tuple #[]) w') ∧ OwnRep k (flat enc) e base w' (xs.take i) (.slice (some ⟨g, 0, none⟩) i cap) ∧ w.grownBy w' (some g) := by
  have hn : n = xs.length := h.len_pos hR
  rcases h.rows.2 with ⟨h0, _⟩ | ⟨g', cap', cur, hv', hbg, hg, hcap, hm, hs, htk⟩
  · cases h0
  · injection hv' with e1 e2 e3
    injection e1 with e1
    injection e1 with e1
    subst e1 e3
    rw [hn] at hi ⊢
    have hzc : (Builtin.zeroCells z.cells (xs.length - i)).toList.length = (xs.length - i) * k := by rw [Array.length_toList, size_zeroCells, hk]
    have hz1 : ∀ u ∈ (Builtin.zeroCells z.cells (xs.length - i)).toList, u.oneCell' = true := by
      intro u hu
      simp only [Builtin.zeroCells, Array.toList_map, List.mem_map, Array.toList_range, List.mem_range] at hu
      obtain ⟨j, hj, rfl⟩ := hu
      have hp : j % z.cells.size < z.cells.size := Nat.mod_lt _ (by
        rcases Nat.eq_zero_or_pos z.cells.size with h | h
        · rw [h, Nat.mul_zero] at hj
          omega
        · exact h)
      rw [getElem!_pos z.cells (j % z.cells.size) hp]
      exact h1 _ (by simp)
    have hsum : i * k + (xs.length - i) * k = xs.length * k := by
      rw [← Nat.add_mul]
      congr 1
      omega
    have hcs := Nat.mul_le_mul_right k hcap
    have hst := run_storeCells_at (P := P) g (i * k) e (Builtin.zeroCells z.cells (xs.length - i)).toList 0 cur w hg (by rw [hzc, hs]; omega) hz1
    have htl : ((cur.toList.take (i * k + 0) ++ (Builtin.zeroCells z.cells (xs.length - i)).toList ++ cur.toList.drop (i * k + 0 + (Builtin.zeroCells z.cells (xs.length - i)).toList.length)).toArray).toList.take (i * k) = cur.toList.take (i * k) := by
      change List.take (i * k) (_ ++ _ ++ _) = _
      rw [Nat.add_zero, List.append_assoc, List.take_append_of_le_length (by rw [List.length_take, Array.length_toList, hs]; omega), List.take_take, Nat.min_self]
    have hsz : (cur.toList.take (i * k + 0) ++ (Builtin.zeroCells z.cells (xs.length - i)).toList ++ cur.toList.drop (i * k + 0 + (Builtin.zeroCells z.cells (xs.length - i)).toList.length)).toArray.size = cap * k := by
      simp only [List.size_toArray, List.length_append, List.length_take, List.length_drop, hzc, Array.length_toList, hs, Nat.add_zero]
      omega
    generalize (cur.toList.take (i * k + 0) ++ (Builtin.zeroCells z.cells (xs.length - i)).toList ++ cur.toList.drop (i * k + 0 + (Builtin.zeroCells z.cells (xs.length - i)).toList.length)).toArray = nw at hst htl hsz
    have hil : (xs.take i).length = i := by rw [List.length_take]; omega
    refine ⟨w.setRow g nw, fun ty => ?_, OwnRep.of_rows ⟨?_, .inr ⟨g, cap, nw, by rw [hil], hbg, setRow_heap w g cur nw e _ hg, by rw [hil]; omega, hm, hsz, ?_⟩⟩, ⟨rfl, rfl, rfl, ?_, ?_⟩⟩
    · obtain ⟨m, hm'⟩ : ∃ m, xs.length - i = m + 1 := ⟨xs.length - i - 1, by omega⟩
      rw [hm'] at hst ⊢
      simp [Builtin.clear_, run_underlying ht, hv, hst]
    · rw [flat_take hR, List.length_take, h.rows.1, hil, Nat.min_eq_left (Nat.mul_le_mul_right _ (Nat.le_of_lt hi))]
    · rw [hil, htl, flat_take hR, ← htk, List.take_take, Nat.min_eq_left (Nat.mul_le_mul_right _ (Nat.le_of_lt hi))]
    · simp [World.setRow]
    · intro j hj hne
      have : j ≠ g := fun e => hne (by rw [e])
      simp [World.setRow, Array.getElem?_modify, Ne.symm this]
end
/-- the row, while elements are struck -/
structure DelInv (p : Post → Bool) (xs : List Post) (i j : Nat) (ys : List Post) : Prop where
  len : ys.length = xs.length
  lt : i < j
  le : j ≤ xs.length
  head : ys.take i = (xs.take j).filter fun x => !p x
  tail : ys.drop j = xs.drop j
theorem DelInv.start {p : Post → Bool} {xs : List Post} {k : Nat} {x : Post} (hk : xs[k]? = some x) (hx : p x = true) (ha : ∀ (j : Nat) y, j < k → xs[j]? = some y → p y = false) : DelInv p xs k (k + 1) xs where
  len := rfl
  lt := Nat.lt_succ_self _
  le := lt_of_at hk
  head := by
    rw [take_at hk, List.filter_append, List.filter_eq_self.2]
    · simp [hx]
    · intro y hy
      obtain ⟨j, hj⟩ := List.getElem?_of_mem hy
      have hjl := lt_of_at hj
      rw [List.length_take] at hjl
      rw [List.getElem?_take, if_pos (by omega)] at hj
      simp [ha j y (by omega) hj]
  tail := rfl
theorem DelInv.at_ {p : Post → Bool} {xs ys : List Post} {i j : Nat} {x : Post} (h : DelInv p xs i j ys) (hx : xs[j]? = some x) : ys[j]? = some x := by
  have := congrArg (fun l => l[0]?) h.tail
  simp only [List.getElem?_drop, Nat.add_zero] at this
  rw [this]
  exact hx
theorem DelInv.keep {p : Post → Bool} {xs ys : List Post} {i j : Nat} {x : Post} (h : DelInv p xs i j ys) (hx : xs[j]? = some x) (hp : p x = false) : DelInv p xs (i + 1) (j + 1) (ys.set i x) where
  len := by rw [List.length_set]; exact h.len
  lt := Nat.succ_lt_succ h.lt
  le := lt_of_at hx
  head := by
    have hi : i < ys.length := by have := h.len; have := h.lt; have := lt_of_at hx; omega
    have hset : (ys.set i x)[i]? = some x := by rw [List.getElem?_set_self hi]
    rw [take_at hset, take_at hx, List.filter_append, ← h.head, List.take_set_of_le (Nat.le_refl _)]
    simp [hp]
  tail := by
    have hd := congrArg (fun l => l.drop 1) h.tail
    simp only [List.drop_drop] at hd
    rw [List.drop_set_of_lt (by have := h.lt; omega)]
    exact hd
theorem DelInv.skip {p : Post → Bool} {xs ys : List Post} {i j : Nat} {x : Post} (h : DelInv p xs i j ys) (hx : xs[j]? = some x) (hp : p x = true) : DelInv p xs i (j + 1) ys where
  len := h.len
  lt := Nat.lt_succ_of_lt h.lt
  le := lt_of_at hx
  head := by rw [h.head, take_at hx, List.filter_append]; simp [hp]
  tail := by
    have hd := congrArg (fun l => l.drop 1) h.tail
    simpa only [List.drop_drop] using hd
theorem DelInv.done {p : Post → Bool} {xs ys : List Post} {i j : Nat} (h : DelInv p xs i j ys) (hj : ¬ j < xs.length) : ys.take i = xs.filter fun x => !p x := by
  rw [h.head, List.take_of_length_le (by omega)]
theorem own_put {e : TypeId} {base : Nat} {w : World} {ys : List Post} {g n cap i : Nat} (h : OwnRep 4 (flat Post.enc) e base w ys (.slice (some ⟨g, 0, none⟩) n cap)) (hi : i < ys.length) (x : Post) :
    OwnRep 4 (flat Post.enc) e base ((((w.setCell ⟨g, i * 4, none⟩ (.string x.word)).setCell ⟨g, i * 4 + 1, none⟩ (.int .i64 x.unit)).setCell ⟨g, i * 4 + 2, none⟩ (.int .i64 x.field)).setCell ⟨g, i * 4 + 3, none⟩ (.int .i64 x.place)) (ys.set i x) (.slice (some ⟨g, 0, none⟩) n cap) := by
  obtain ⟨y, hy⟩ := get_at ys hi
  have h1 := h.set_ pstS (i := i) (j := 0) (x := y) (x' := ⟨x.word, y.unit, y.field, y.place⟩) (u := .string x.word) hy (by omega) rfl
  have h2 := h1.set_ pstS (i := i) (j := 1) (x' := ⟨x.word, x.unit, y.field, y.place⟩) (u := .int .i64 x.unit) (List.getElem?_set_self hi) (by omega) rfl
  rw [List.set_set] at h2
  have h3 := h2.set_ pstS (i := i) (j := 2) (x' := ⟨x.word, x.unit, x.field, y.place⟩) (u := .int .i64 x.field) (List.getElem?_set_self hi) (by omega) rfl
  rw [List.set_set] at h3
  have h4 := h3.set_ pstS (i := i) (j := 3) (x' := x) (u := .int .i64 x.place) (List.getElem?_set_self hi) (by omega) rfl
  rw [List.set_set] at h4
  exact h4
theorem grown_four {w w2 : World} {g i : Nat} (h : w.grownBy w2 (some g)) (x : Post) : w.grownBy ((((w2.setCell ⟨g, i * 4, none⟩ (.string x.word)).setCell ⟨g, i * 4 + 1, none⟩ (.int .i64 x.unit)).setCell ⟨g, i * 4 + 2, none⟩ (.int .i64 x.field)).setCell ⟨g, i * 4 + 3, none⟩ (.int .i64 x.place)) (some g) := by
  refine ⟨h.os, h.tape, h.output, by simpa [World.setCell] using h.size, fun k hk hne => ?_⟩
  have : k ≠ g := fun e => hne (by rw [e])
  rw [Below.heap_setCell _ _ _ _ this, Below.heap_setCell _ _ _ _ this, Below.heap_setCell _ _ _ _ this, Below.heap_setCell _ _ _ _ this]
  exact h.block k hk hne
theorem own_frz {e : TypeId} {base : Nat} {w : World} {xs : List Post} {g n cap : Nat} (h : OwnRep 4 (flat Post.enc) e base w xs (.slice (some ⟨g, 0, none⟩) n cap)) (hne : 0 < xs.length) (o : Nat) : w.frozen? ⟨g, o, none⟩ = false := by
  obtain ⟨g', cap', h1, h2, h3, h4, h5, ⟨cur, hc⟩, -⟩ := h.open_ pstS hne
  injection h1 with h1
  injection h1 with h1
  injection h1 with h1
  subst h1
  exact Lib.frozen_of_heap hc o
theorem own_open4 {e : TypeId} {base : Nat} {w : World} {xs : List Post} {v : Value} {n : Nat} (h : OwnRep 4 (flat Post.enc) e base w xs v) (hn : xs.length = n) (hne : 0 < n) : ∃ g cap, v = .slice (some ⟨g, 0, none⟩) n cap ∧ base ≤ g ∧ g < w.heap.size ∧ n ≤ cap ∧ cap ≤ 9223372036854775807 := by
  subst hn
  obtain ⟨g, cap, h1, h2, h3, h4, h5, -⟩ := h.open_ pstS hne
  exact ⟨g, cap, h1, h2, h3, h4, h5⟩
set_option maxHeartbeats 4000000 in
theorem delP_c (F : FuncId) (c0 : Value) (p : Post → Bool) (xs : List Post) (v : Value) (base : Nat) (w : World) (h : OwnRep 4 (flat Post.enc) 36 base w xs v) (_hbase : base ≤ w.heap.size)
    (hF : ∀ (args : Array Value) (W : World), (callFunc F args).run Tryz.prog W = .ok (.enter F args) W)
    (hp : ∀ (x : Post) (W : World), w.grownBy W v.ownBlock → Calls Tryz.prog F #[pstV x, c0] W fun e w' => e = .returned (.bool (p x)) ∧ Below W.heap.size W w') :
    Calls Tryz.prog 81 #[v, .func (.func F) #[] #[c0]] w fun e w' => ∃ v', e = .returned v' ∧ OwnRep 4 (flat Post.enc) 36 base w' (xs.filter fun x => !p x) v' ∧ w.grownBy w' v.ownBlock := by
  have HI := Lib.hid (pstIdx1_c F c0 p xs v w w.heap.size (Nat.le_refl _) (h.toSl pstS) hF (fun x W _ hW _ => hp x W (grown_of_below hW _)))
  rcases idxF_cases p xs with ⟨h1, h2⟩ | ⟨k, x, h1, h2, h3, h4⟩
  · rw [h1] at HI
    have HE := Lib.hid (show (xs.filter fun x => !p x) = xs from List.filter_eq_self.2 fun x hx => by simp [h2 x hx])
    obtain ⟨A, n, c, rfl, hn⟩ := own_form pstS h
    clear h1 h2 hp
    go_enter Tryz.func81, Tryz.ntmps81
    go_wp2_with fail
    refine HI.out.mono ?_
    rintro e w1 ⟨rfl, hb1⟩
    go_wp2
    go_ret
    exact ⟨_, rfl, by rw [HE.out]; exact h.below pstS hb1, grown_of_below hb1 _⟩
  · rw [h1] at HI
    have hkl := lt_of_at h2
    have HD := Lib.hid (DelInv.start h2 h3 h4)
    obtain ⟨g, cap, rfl, hgb, hgl, hc1, hc2⟩ := own_open4 h rfl (by omega)
    have HP := Lib.hid hp
    have hne1 : ((k : Int) == -1) = false := beq_eq_false_iff_ne.2 (by omega)
    clear h1 h2 h3 h4 hp
    go_enter Tryz.func81, Tryz.ntmps81
    go_wp2_with fail
    refine HI.out.mono ?_
    rintro e w1 ⟨rfl, hb1⟩
    have hr1 := h.below pstS hb1
    have hg1 : w.grownBy w1 (some g) := grown_of_below hb1 _
    clear HI hb1 h
    go_wp2
    go_loopw [5, 6] (fun s i wr => ∃ (i0 j0 : Nat) (ys : List Post), s = .int .i64 i0 ∧ i = .int .i64 j0 ∧ Hid (DelInv p xs i0 j0 ys) ∧ OwnRep 4 (flat Post.enc) 36 base wr ys (.slice (some ⟨g, 0, none⟩) xs.length cap) ∧ w.grownBy wr (some g)) (fun _ i _ => xs.length - (intOf i).toNat)
    case atStart => exact ⟨k, k + 1, xs, rfl, by go_num, HD, hr1, hg1⟩
    case round =>
      clear hr1 hg1 HD
      obtain ⟨i0, j0, ys, rfl, rfl, HD, hr, hg⟩ := hrel
      have hd1 := HD.out.lt
      have hd2 := HD.out.le
      have hd3 := HD.out.len
      have hs := hg.size
      by_cases hlt : j0 < xs.length
      · obtain ⟨x, hx⟩ := get_at xs hlt
        have hy := HD.out.at_ hx
        obtain ⟨_, _, e9, hgB, q0, q1, q2, q3⟩ := Posts.at_ (hr.toSl pstS) hy
        cases e9
        rw [Nat.zero_add] at q0 q1 q2 q3
        have bx : Below wr.heap.size wr (wr.alloc (pstC x)) := (Below.refl _ _).alloc (Nat.le_refl _) _
        have HC := Lib.hid (HP.out x (wr.alloc (pstC x)) (hg.andThen (grown_of_below bx (some g)) (fun j hj => .inr hj)))
        have hr1 := hr.below pstS bx
        have hg1 := hg.andThen (grown_of_below bx (some g)) (fun j hj => .inr hj)
        have HX := Lib.hid hx
        clear hx hy
        cases hpx : p x
        · rw [hpx] at HC
          go_wp2_with fail
          refine HC.out.mono ?_
          rintro e w2 ⟨rfl, hb2⟩
          have hr2 := hr1.below pstS hb2
          have hg2 := hg1.andThen (grown_of_below hb2 (some g)) (fun j hj => .inr hj)
          have hgl2 := (hr2.own_lt g rfl).2
          obtain ⟨y, hyi⟩ := get_at ys (show i0 < ys.length by omega)
          obtain ⟨_, _, e9, -, p0, p1, p2, p3⟩ := Posts.at_ (hr2.toSl pstS) hyi
          cases e9
          rw [Nat.zero_add] at p0 p1 p2 p3
          have z0 : w2.cell? ⟨wr.heap.size, 0, none⟩ = some (.string x.word) := (hb2.cell (p := ⟨wr.heap.size, 0, none⟩) (by simp)).trans (by simp)
          have z1 : w2.cell? ⟨wr.heap.size, 1, none⟩ = some (.int .i64 x.unit) := (hb2.cell (p := ⟨wr.heap.size, 1, none⟩) (by simp)).trans (by simp)
          have z2 : w2.cell? ⟨wr.heap.size, 2, none⟩ = some (.int .i64 x.field) := (hb2.cell (p := ⟨wr.heap.size, 2, none⟩) (by simp)).trans (by simp)
          have z3 : w2.cell? ⟨wr.heap.size, 3, none⟩ = some (.int .i64 x.place) := (hb2.cell (p := ⟨wr.heap.size, 3, none⟩) (by simp)).trans (by simp)
          have f0 := own_frz hr2 (by omega) (i0 * 4)
          have f1 := own_frz hr2 (by omega) (i0 * 4 + 1)
          have f2 := own_frz hr2 (by omega) (i0 * 4 + 2)
          have f3 := own_frz hr2 (by omega) (i0 * 4 + 3)
          have hy0 : i0 < ys.length := by omega
          have HG := Lib.hid (grown_four hg2 x (i := i0))
          clear q0 q1 q2 q3 hyi
          go_wp2
          go_roundw
          case rel => exact ⟨i0 + 1, j0 + 1, ys.set i0 x, by go_num, by go_num, Lib.hid (HD.out.keep HX.out hpx), own_put hr2 hy0 x, HG.out⟩
          case measure => simp [intOf]; omega
        · rw [hpx] at HC
          go_wp2_with fail
          refine HC.out.mono ?_
          rintro e w2 ⟨rfl, hb2⟩
          go_wp2
          go_roundw
          case rel => exact ⟨i0, j0 + 1, ys, rfl, by go_num, Lib.hid (HD.out.skip HX.out hpx), hr1.below pstS hb2, hg1.andThen (grown_of_below hb2 (some g)) (fun j hj => .inr hj)⟩
          case measure => simp [intOf]; omega
      · have HE := Lib.hid (HD.out.done hlt)
        have hi9 : i0 < xs.length := by omega
        obtain ⟨w5, hrun, hr5, hg5⟩ := own_clear (P := Tryz.prog) pstS (t := 23) Tryz.underlying23 (z := .agg #[.string ⟨#[]⟩, .int .i64 0, .int .i64 0, .int .i64 0]) (fun w => by kernel_rfl) rfl (fun u hu => by simp [Value.cells] at hu; rcases hu with rfl | rfl | rfl | rfl <;> rfl) (c2 := cap - i0) hr hi9
        go_wp2
        go_ret
        exact ⟨_, rfl, by rw [← HE.out]; exact hr5, hg.andThen hg5 (fun j hj => .inr hj)⟩
end
section
open Go.RowKit

set_option maxRecDepth 100000 in
set_option maxHeartbeats 4000000 in
theorem search_c (g : FuncId) (c0 c1 : Value) (n m : Nat) (p : Nat → Bool) (w : World) (eg : ∀ (args : Array Value) (W : World), (callFunc g args).run Tryz.prog W = .ok (.enter g args) W) (hn : n ≤ 1000000) (hm : m ≤ n) (h1 : ∀ i, i < m → p i = false) (h2 : ∀ i, m ≤ i → i < n → p i = true)
    (hf : ∀ (W : World) (i : Nat), Below w.heap.size w W → i < n → Calls Tryz.prog g #[.int .i64 i, c0, c1] W fun e w' => e = .returned (.bool (p i)) ∧ Below W.heap.size W w') :
    Calls Tryz.prog 120 #[.int .i64 n, .func (.func g) #[] #[c0, c1]] w fun e w' => e = .returned (.int .i64 m) ∧ Below w.heap.size w w' := by
  have HF := Lib.hid hf
  have HI := Lib.hid (And.intro h1 h2)
  clear hf h1 h2
  go_enter Tryz.func120, Tryz.ntmps120
  go_wp2
  go_loopw [5, 6] (fun s5 s6 wr => ∃ (lo hi : Nat), s5 = .int .i64 lo ∧ s6 = .int .i64 hi ∧ lo ≤ m ∧ m ≤ hi ∧ hi ≤ n ∧ Below w.heap.size w wr) (fun s5 s6 _ => (intOf s6).toNat - (intOf s5).toNat)
  case atStart => exact ⟨0, n, rfl, rfl, Nat.zero_le _, hm, Nat.le_refl _, Below.refl _ _⟩
  case round =>
    obtain ⟨lo, hi, rfl, rfl, hlm, hmh, hin, hb⟩ := hrel
    by_cases hlt : lo < hi
    · have hc := HF.out wr ((lo + hi) / 2) hb (by omega)
      rw [show (((lo + hi) / 2 : Nat) : Int) = ((lo : Int) + (hi : Int)) / 2 by omega] at hc
      by_cases hq : (lo + hi) / 2 < m
      · rw [HI.out.1 _ hq] at hc
        go_wp2_with fail
        refine hc.mono ?_
        rintro e w1 ⟨rfl, hb1⟩
        go_wp2
        go_roundw
        case rel => exact ⟨(lo + hi) / 2 + 1, hi, by rw [show ((lo : Int) + (hi : Int)) / 2 + 1 = (((lo + hi) / 2 + 1 : Nat) : Int) by omega], rfl, by omega, hmh, hin, hb.trans (hb1.mono hb.size)⟩
        case measure => simp [intOf]; omega
      · rw [HI.out.2 _ (by omega) (by omega)] at hc
        go_wp2_with fail
        refine hc.mono ?_
        rintro e w1 ⟨rfl, hb1⟩
        go_wp2
        go_roundw
        case rel => exact ⟨lo, (lo + hi) / 2, rfl, by rw [show ((lo : Int) + (hi : Int)) / 2 = (((lo + hi) / 2 : Nat) : Int) by omega], hlm, by omega, by omega, hb.trans (hb1.mono hb.size)⟩
        case measure => simp [intOf]; omega
    · obtain rfl : lo = m := by omega
      go_wp2
      go_ret
      exact ⟨rfl, hb⟩
set_option maxRecDepth 100000 in
set_option maxHeartbeats 4000000 in
theorem between1_c (g : FuncId) (c0 : Value) (less : ByteArray → Bool) (l : List Post) (v : Value) (i : Nat) (a b : Nat) (w : World) (B : Nat) (hB : B ≤ w.heap.size) (h : Posts w B l v) (hi : i < l.length) (eg : ∀ (args : Array Value) (W : World), (callFunc g args).run Tryz.prog W = .ok (.enter g args) W)
    (ha : w.cell? ⟨a, 0, none⟩ = some (.func (.func g) #[] #[c0])) (hb : w.cell? ⟨b, 0, none⟩ = some v)
    (hg : ∀ (W : World) (x : ByteArray), Below w.heap.size w W → Calls Tryz.prog g #[.string x, c0] W fun e w' => e = .returned (.bool (less x)) ∧ W = w') :
    Calls Tryz.prog 121 #[.int .i64 i, .pointer (some ⟨a, 0, none⟩), .pointer (some ⟨b, 0, none⟩)] w fun e w' => e = .returned (.bool (!less ((l[i]?.map Post.word).getD ⟨#[]⟩))) ∧ Below w.heap.size w w' := by
  obtain ⟨A, c, rfl, hc1, hc2, _⟩ := id h
  obtain ⟨x, hx⟩ := get_at l hi
  obtain ⟨bb, off, rfl, hbB, g0, -⟩ := Posts.at_ h hx
  have hbw : bb < w.heap.size := by have : bb < B := hbB; omega
  have hal := World.block_lt_of_cell? w ⟨a, 0, none⟩ ha
  have hbl := World.block_lt_of_cell? w ⟨b, 0, none⟩ hb
  have HG := Lib.hid (fun (W : World) (hW : Below w.heap.size w W) => hg W x.word hW)
  have HE := Lib.hid (show (l[i]?.map Post.word).getD ⟨#[]⟩ = x.word by rw [hx]; rfl)
  rw [HE.out]
  have hki : (i : Int) < (l.length : Int) := by omega
  clear hg HE hx
  go_enter Tryz.func121, Tryz.ntmps121
  go_wp2
  go_quiet ((go_at_fn g; refine (HG.out _ (below_drewN (Below.refl _ _) _)).mono ?_; rintro e w1 ⟨rfl, rfl⟩; exact ⟨rfl, _, rfl⟩))
  go_wp2
  go_ret
  exact ⟨rfl, below_drewN (Below.refl _ _) _⟩
theorem take_at_less {f : Post → Bool} {l : List Post} {i : Nat} {x : Post} (hx : l[i]? = some x) (hi : i < (l.takeWhile f).length) : f x = true := by
  have h := List.takeWhile_append_dropWhile (p := f) (l := l)
  have : (l.takeWhile f)[i]? = some x := by
    rw [← h, List.getElem?_append_left hi] at hx
    exact hx
  exact takeWhile_all x (List.mem_of_getElem? this)
theorem drop_at_less {f : Post → Bool} {l : List Post} {i : Nat} {x : Post} (hx : l[i]? = some x) (hi : (l.takeWhile f).length ≤ i) : x ∈ l.dropWhile f := by
  have h := List.takeWhile_append_dropWhile (p := f) (l := l)
  rw [← h, List.getElem?_append_right hi] at hx
  exact List.mem_of_getElem? hx
theorem drop_is_less (f : Post → Bool) : ∀ (l : List Post), l.drop (l.takeWhile f).length = l.dropWhile f
  | [] => rfl
  | x :: r => by
    rw [List.takeWhile_cons, List.dropWhile_cons]
    split
    · rw [List.length_cons, List.drop_succ_cons]
      exact drop_is_less f r
    · rfl
def betF (less other : ByteArray → Bool) (l : List Post) : Int × Nat := if chkL l ≠ 0 then (0, 0) else prgF less other l
set_option maxRecDepth 100000 in
set_option maxHeartbeats 4000000 in
theorem between_c (g1 g2 : FuncId) (c0 : Value) (less other : ByteArray → Bool) (l : List Post) (v : Value) (w : World) (B : Nat) (hB : B ≤ w.heap.size) (h : Posts w B l v) (hw : ∀ p ∈ l, p.word.size ≤ 1000000)
    (eg1 : ∀ (args : Array Value) (W : World), (callFunc g1 args).run Tryz.prog W = .ok (.enter g1 args) W) (eg2 : ∀ (args : Array Value) (W : World), (callFunc g2 args).run Tryz.prog W = .ok (.enter g2 args) W)
    (hg1 : ∀ (W : World) (x : ByteArray), Below w.heap.size w W → Calls Tryz.prog g1 #[.string x, c0] W fun e w' => e = .returned (.bool (less x)) ∧ W = w')
    (hg2 : ∀ (W : World) (x : ByteArray), Below w.heap.size w W → Calls Tryz.prog g2 #[.string x, c0] W fun e w' => e = .returned (.bool (other x)) ∧ W = w')
    (hmono : ∀ x y : Post, ple x y → less x.word = false → less y.word = false) :
    Calls Tryz.prog 85 #[v, .func (.func g1) #[] #[c0], .func (.func g2) #[] #[c0]] w fun e w' => e = .returned (.tuple #[.int .i64 (betF less other l).1, .int .i64 ((betF less other l).2 : Nat)]) ∧ Below w.heap.size w w' := by
  obtain ⟨A, c, rfl, hc1, hc2, _⟩ := id h
  have b1 : Below w.heap.size w ((w.alloc (.cells #[.slice A l.length c] 23)).alloc (.cells #[.func (.func g1) #[] #[c0]] 129)) := ((Below.refl _ _).alloc (Nat.le_refl _) _).alloc (by simp) _
  have HCK := Lib.hid (fun (W : World) (hW : Below w.heap.size w W) => icheck_c l (.slice A l.length c) W B (Nat.le_trans hB hW.size) (h.below pstS (hW.mono hB)) hw)
  have KC := Lib.hid (fun (W : World) (hW : Below (w.heap.size + 2) ((w.alloc (.cells #[.slice A l.length c] 23)).alloc (.cells #[.func (.func g1) #[] #[c0]] 129)) W) => (⟨(hW.cell (p := ⟨w.heap.size, 0, none⟩) (by simp)).trans (by simp), (hW.cell (p := ⟨w.heap.size + 1, 0, none⟩) (by simp)).trans (by simp)⟩ : W.cell? ⟨w.heap.size, 0, none⟩ = some (.slice A l.length c) ∧ W.cell? ⟨w.heap.size + 1, 0, none⟩ = some (.func (.func g1) #[] #[c0])))
  have hb0 : Below (w.heap.size + 2) ((w.alloc (.cells #[.slice A l.length c] 23)).alloc (.cells #[.func (.func g1) #[] #[c0]] 129)) ((w.alloc (.cells #[.slice A l.length c] 23)).alloc (.cells #[.func (.func g1) #[] #[c0]] 129)) := Below.refl _ _
  by_cases hck : chkL l = 0
  · have hsrt := strict_sorted (chkL_zero hck).2.2
    have hlen := (chkL_zero hck).1
    have HBE := Lib.hid (show betF less other l = prgF less other l by unfold betF; rw [if_neg (by simpa using hck)])
    rw [hck] at HCK
    have hml : (l.takeWhile fun x => less x.word).length ≤ l.length := (List.takeWhile_sublist _).length_le
    have HSE := Lib.hid (fun (W : World) (hW : Below (w.heap.size + 2) ((w.alloc (.cells #[.slice A l.length c] 23)).alloc (.cells #[.func (.func g1) #[] #[c0]] 129)) W) => search_c 121 (.pointer (some ⟨w.heap.size + 1, 0, none⟩)) (.pointer (some ⟨w.heap.size, 0, none⟩)) l.length (l.takeWhile fun x => less x.word).length (fun i => !less ((l[i]?.map Post.word).getD ⟨#[]⟩)) W (fun args W => by kernel_rfl) (by omega) hml
      (fun i hi => by
        obtain ⟨x, hx⟩ := get_at l (show i < l.length by omega)
        have := take_at_less (f := fun x => less x.word) hx hi
        simp only [hx, Option.map_some, Option.getD_some]
        simpa using this)
      (fun i hi hin => by
        obtain ⟨x, hx⟩ := get_at l hin
        have := dropWhile_all (p := fun x : Post => less x.word) (R := ple) hmono hsrt x (drop_at_less hx hi)
        simp only [hx, Option.map_some, Option.getD_some]
        simpa using this)
      (fun W' i hW' hin => by
        have hbW := b1.trans ((hW.trans (hW'.mono (by have := hW.size; simp at this; omega))).mono (by omega))
        have hk := KC.out _ (hW.trans (hW'.mono (by have := hW.size; simp at this; omega)))
        exact between1_c g1 c0 less l (.slice A l.length c) i (w.heap.size + 1) w.heap.size W' B (Nat.le_trans hB hbW.size) (h.below pstS (hbW.mono hB)) hin eg1 hk.2 hk.1 (fun W2 x h2 => hg1 W2 x (hbW.trans (h2.mono hbW.size)))))
    have HG2 := Lib.hid hg2
    have HDR := Lib.hid (drop_is_less (fun x => less x.word) l)
    have HPR := Lib.hid (show prgF less other l = if ((l.drop (l.takeWhile fun x => less x.word).length).takeWhile fun x => !other x.word).length = 0 then (0, 0) else (((l.takeWhile fun x => less x.word).length : Int), ((l.drop (l.takeWhile fun x => less x.word).length).takeWhile fun x => !other x.word).length) by unfold prgF; rw [HDR.out])
    generalize (l.takeWhile fun x => less x.word).length = m at *
    have HXS := Lib.hid (fun (i : Nat) (x : Post) (hx : l[i]? = some x) (W : World) (hW : Below w.heap.size w W) => Posts.at_ (h.below pstS (hW.mono hB)) hx)
    clear hck hsrt HDR hg1 hg2 hmono h
    go_enter Tryz.func85, Tryz.ntmps85
    go_wp2_with fail
    refine (HCK.out _ b1).mono ?_
    rintro e w1 ⟨rfl, hb1⟩
    have hbX := bnd_call hb0 (by simp) hb1
    obtain ⟨z0, z1⟩ := KC.out _ hbX
    have zl := World.block_lt_of_cell? w1 ⟨w.heap.size, 0, none⟩ z0
    go_wp2_with fail
    refine (HSE.out _ hbX).mono ?_
    rintro e w2 ⟨rfl, hb2⟩
    have hbX := bnd_call hbX (by simp) hb2
    clear z0 z1 zl hb1 hb2 HSE HCK
    have HC0 := Lib.hid (show ((l.drop m).takeWhile fun x => !other x.word).length = 0 + ((l.drop (m + 0)).takeWhile fun x => !other x.word).length by simp)
    go_wp2
    go_loopw [9] (fun s wr => ∃ k : Nat, s = .int .i64 k ∧ m + k ≤ l.length ∧ Hid (((l.drop m).takeWhile fun x => !other x.word).length = k + ((l.drop (m + k)).takeWhile fun x => !other x.word).length) ∧ Below (w.heap.size + 2) ((w.alloc (.cells #[.slice A l.length c] 23)).alloc (.cells #[.func (.func g1) #[] #[c0]] 129)) wr) (fun s _ => l.length - (intOf s).toNat)
    case atStart => exact ⟨0, rfl, by omega, HC0, hbX⟩
    case round =>
      clear HC0 hbX
      obtain ⟨k, rfl, hk, hh, hbX⟩ := hrel
      obtain ⟨z0, z1⟩ := KC.out _ hbX
      have zl := World.block_lt_of_cell? wr ⟨w.heap.size, 0, none⟩ z0
      have Br := b1.trans (hbX.mono (by omega))
      have hw1 : IntKind.i64.wrap ((m : Int) + (k : Int)) = (m : Int) + (k : Int) := IntWalk.i64_in _ (by omega)
      by_cases hlt : m + k < l.length
      · obtain ⟨x, hx⟩ := get_at l hlt
        obtain ⟨b, off, rfl, hbB, g0, -⟩ := HXS.out _ _ hx _ Br
        have hbw : b < wr.heap.size := by have : b < B := hbB; have := Br.size; omega
        have hd := drop_at hx
        have HG := Lib.hid (HG2.out wr x.word Br)
        have hki : (m : Int) + (k : Int) < (l.length : Int) := by omega
        cases ho : other x.word
        · have HN := Lib.hid (show ((l.drop m).takeWhile fun x => !other x.word).length = (k + 1) + ((l.drop (m + (k + 1))).takeWhile fun x => !other x.word).length by
            rw [hh.out, hd, List.takeWhile_cons, if_pos (by simp [ho]), List.length_cons]
            rw [show m + (k + 1) = m + k + 1 by omega]
            omega)
          rw [ho] at HG
          clear hd hh hx ho
          go_wp2_with fail
          refine HG.out.mono ?_
          rintro e w3 ⟨rfl, rfl⟩
          go_wp2
          go_roundw
          case rel => exact ⟨k + 1, by go_num, by omega, HN, hbX⟩
          case measure => simp [intOf]; omega
        · have HN := Lib.hid (show ((l.drop m).takeWhile fun x => !other x.word).length = k by
            rw [hh.out, hd, List.takeWhile_cons, if_neg (by simp [ho])]
            rfl)
          rw [ho] at HG
          clear hd hh hx ho
          by_cases hz : k = 0
          · have HV := Lib.hid (show betF less other l = (0, 0) by rw [HBE.out, HPR.out, if_pos (by rw [HN.out]; exact hz)])
            have hz1 : ((k : Int) == 0) = true := by simp [hz]
            clear hz
            go_wp2_with fail
            refine HG.out.mono ?_
            rintro e w3 ⟨rfl, rfl⟩
            go_wp2
            go_ret2
            exact ⟨by rw [HV.out]; rfl, Br⟩
          · have HV := Lib.hid (show betF less other l = ((m : Int), k) by rw [HBE.out, HPR.out, if_neg (by rw [HN.out]; exact hz), HN.out])
            have hz1 : ((k : Int) == 0) = false := by simp; omega
            clear hz
            go_wp2_with fail
            refine HG.out.mono ?_
            rintro e w3 ⟨rfl, rfl⟩
            go_wp2
            go_ret2
            exact ⟨by rw [HV.out]; rfl, Br⟩
      · have HN := Lib.hid (show ((l.drop m).takeWhile fun x => !other x.word).length = k by
            rw [hh.out, List.drop_of_length_le (by omega)]
            rfl)
        have hki : ¬ (m : Int) + (k : Int) < (l.length : Int) := by omega
        clear hh
        by_cases hz : k = 0
        · have HV := Lib.hid (show betF less other l = (0, 0) by rw [HBE.out, HPR.out, if_pos (by rw [HN.out]; exact hz)])
          have hz1 : ((k : Int) == 0) = true := by simp [hz]
          clear hz
          go_wp2
          go_ret2
          exact ⟨by rw [HV.out]; rfl, Br⟩
        · have HV := Lib.hid (show betF less other l = ((m : Int), k) by rw [HBE.out, HPR.out, if_neg (by rw [HN.out]; exact hz), HN.out])
          have hz1 : ((k : Int) == 0) = false := by simp; omega
          clear hz
          go_wp2
          go_ret2
          exact ⟨by rw [HV.out]; rfl, Br⟩
  · have HBE := Lib.hid (show betF less other l = (0, 0) by unfold betF; rw [if_pos hck])
    have hn : (chkL l != 0) = true := by simpa using hck
    clear hck
    go_enter Tryz.func85, Tryz.ntmps85
    go_wp2_with fail
    refine (HCK.out _ b1).mono ?_
    rintro e w1 ⟨rfl, hb1⟩
    go_wp2
    go_ret2
    exact ⟨by rw [HBE.out]; rfl, b1.trans (hb1.mono (by simp; omega))⟩
end
section
open Go.RowKit

theorem pfxB_big {h s : ByteArray} (hs : s.size < h.size) : pfxB h s = false := by
  cases e : pfxB h s
  · rfl
  · have := List.IsPrefix.length_le (List.isPrefixOf_iff_prefix.1 e)
    rw [Array.length_toList, Array.length_toList] at this
    have h1 : h.data.size = h.size := rfl
    have h2 : s.data.size = s.size := rfl
    omega
theorem pfxB_is {h s : ByteArray} : pfxB h s = decide (s.extract 0 h.size = h) := by
  rw [Bool.eq_iff_iff, decide_eq_true_iff]
  unfold pfxB
  rw [List.isPrefixOf_iff_prefix]
  have e1 : (s.extract 0 h.size).data.toList = s.data.toList.take h.size := by
    rw [ByteArray.data_extract, Array.toList_extract]
    simp
  constructor
  · intro hp
    obtain ⟨t, ht⟩ := hp
    apply ByteArray.ext
    apply Array.toList_inj.1
    rw [e1, ← ht, List.take_append_of_le_length (by rw [Array.length_toList]; exact Nat.le_refl _), List.take_of_length_le (by rw [Array.length_toList]; exact Nat.le_refl _)]
  · intro e
    rw [← e, e1]
    exact List.take_prefix _ _
theorem hasPrefix_c (s h : ByteArray) (w : World) : Calls Tryz.prog 88 #[.string s, .string h] w fun e w' => e = .returned (.bool (pfxB h s)) ∧ w = w' := by
  have HL : Hid (Calls Tryz.prog 122 #[.string s, .string h] w fun e w' => e = .returned (.bool (pfxB h s)) ∧ w = w') := Lib.hid (by
    by_cases hlt : s.size < h.size
    · have HE := Lib.hid (pfxB_big hlt)
      have hd : ¬ (h.size : Int) ≤ (s.size : Int) := by omega
      go_enter Tryz.func122, Tryz.ntmps122
      go_wp2
      go_ret
      exact ⟨ret_bool HE.out.symm, rfl⟩
    · have HE := Lib.hid (pfxB_is (h := h) (s := s))
      have hd : (h.size : Int) ≤ (s.size : Int) := by omega
      go_enter Tryz.func122, Tryz.ntmps122
      go_wp2
      go_ret
      refine ⟨ret_bool ?_, rfl⟩
      rw [HE.out]
      first | rfl | (rw [← str_eq]; done) | (rw [str_eq]; done))
  go_enter Tryz.func88, Tryz.ntmps88
  go_wp2_with fail
  refine HL.out.mono ?_
  rintro e w1 ⟨rfl, rfl⟩
  go_wp2
  go_ret
  exact ⟨rfl, rfl⟩
theorem prefix1_less_c (x word : ByteArray) (g : Nat) (w : World) (h : w.cell? ⟨g, 0, none⟩ = some (.string word)) : Calls Tryz.prog 86 #[.string x, .pointer (some ⟨g, 0, none⟩)] w fun e w' => e = .returned (.bool (lessB x word)) ∧ w = w' := by
  have HE := Lib.hid (show lessB x word = Op.bytesLess x.toList word.toList from rfl)
  have hl := World.block_lt_of_cell? w ⟨g, 0, none⟩ h
  go_enter Tryz.func86, Tryz.ntmps86
  go_wp2
  go_ret
  exact ⟨ret_bool HE.out.symm, rfl⟩
theorem prefix2_other_c (x word : ByteArray) (g : Nat) (w : World) (h : w.cell? ⟨g, 0, none⟩ = some (.string word)) : Calls Tryz.prog 87 #[.string x, .pointer (some ⟨g, 0, none⟩)] w fun e w' => e = .returned (.bool (!pfxB word x)) ∧ w = w' := by
  have HP := Lib.hid (hasPrefix_c x word w)
  have hl := World.block_lt_of_cell? w ⟨g, 0, none⟩ h
  go_enter Tryz.func87, Tryz.ntmps87
  go_wp2_with fail
  refine HP.out.mono ?_
  rintro e w1 ⟨rfl, rfl⟩
  go_wp2
  go_ret
  exact ⟨rfl, rfl⟩
/-- what Find and Prefix return -/
def findF (l : List Post) (w : ByteArray) : Int × Nat := if chkL l ≠ 0 then (0, 0) else rngF (fun x => decide (x.word = w)) l
def prefF_ (l : List Post) (w : ByteArray) : Int × Nat := if chkL l ≠ 0 then (0, 0) else rngF (fun x => pfxB w x.word) l
theorem betF_find (l : List Post) (w : ByteArray) : betF (fun x => lessB x w) (fun x => !decide (x = w)) l = findF l w := by
  unfold betF findF
  split
  · rfl
  · rename_i h
    have h' : chkL l = 0 := by simpa using h
    have e : (fun x => !decide (x = w)) = (fun x : ByteArray => decide (x ≠ w)) := by funext x; simp
    rw [e, find_eq (strict_sorted (chkL_zero h').2.2)]
theorem betF_prefix (l : List Post) (w : ByteArray) : betF (fun x => lessB x w) (fun x => !pfxB w x) l = prefF_ l w := by
  unfold betF prefF_
  split
  · rfl
  · rename_i h
    have h' : chkL l = 0 := by simpa using h
    rw [prefix_eq (strict_sorted (chkL_zero h').2.2)]
theorem less_mono (w : ByteArray) (x y : Post) (h : ple x y) (h1 : lessB x.word w = false) : lessB y.word w = false := less_le (ple_word h) h1
theorem iPrefix_c (l : List Post) (v : Value) (word : ByteArray) (w : World) (B : Nat) (hB : B ≤ w.heap.size) (h : Posts w B l v) (hw : ∀ p ∈ l, p.word.size ≤ 1000000) :
    Calls Tryz.prog 39 #[v, .string word] w fun e w' => e = .returned (.tuple #[.int .i64 (prefF_ l word).1, .int .i64 ((prefF_ l word).2 : Nat)]) ∧ Below w.heap.size w w' := by
  have b1 : Below w.heap.size w (w.alloc (.cells #[.string word] 9)) := (Below.refl _ _).alloc (Nat.le_refl _) _
  have HB := Lib.hid (between_c 86 87 (.pointer (some ⟨w.heap.size, 0, none⟩)) (fun x => lessB x word) (fun x => !pfxB word x) l v (w.alloc (.cells #[.string word] 9)) B (Nat.le_trans hB b1.size) (h.below pstS (b1.mono hB)) hw (fun _ _ => by kernel_rfl) (fun _ _ => by kernel_rfl)
    (fun W x hW => prefix1_less_c x word w.heap.size W ((hW.cell (p := ⟨w.heap.size, 0, none⟩) (by simp)).trans (by simp)))
    (fun W x hW => prefix2_other_c x word w.heap.size W ((hW.cell (p := ⟨w.heap.size, 0, none⟩) (by simp)).trans (by simp)))
    (less_mono word))
  rw [betF_prefix] at HB
  obtain ⟨A, c, rfl, -⟩ := id h
  go_enter Tryz.func39, Tryz.ntmps39
  go_wp2_with fail
  refine HB.out.mono ?_
  rintro e w1 ⟨rfl, hb1⟩
  go_wp2
  go_ret2
  exact ⟨rfl, b1.trans (hb1.mono (by simp))⟩
end
end Go.Proofs.YtngodakkdhdmjaaGreatDoor
