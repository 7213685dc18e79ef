/- The program: Find. -/
import Derived.Test.YtenaifmkejmdaaaGreatDoorAwT
namespace Go.Proofs.YtenaifmkejmdaaaGreatDoor
open Go.RowKit

theorem chkG_neg : ∀ (r : List Item) (i : Nat) (q : Option Int) (fs : List Int), (chkG i q fs r).2 = 0 → (chkG i q fs r).1 = -1
  | [], _, _, _, _ => rfl
  | x :: r, i, q, fs, h => by
    rw [chkG_cons] at h ⊢
    by_cases h1 : itemE x ≠ 0
    · rw [if_pos h1] at h; exact absurd h h1
    · rw [if_neg h1] at h ⊢
      by_cases h2 : (q.any fun n => decide (x.number ≤ n)) = true
      · rw [if_pos h2] at h; cases h
      · rw [if_neg h2] at h ⊢
        by_cases h3 : x.file ∈ fs
        · rw [if_pos h3] at h; cases h
        · rw [if_neg h3] at h ⊢
          exact chkG_neg r _ _ _ h
theorem chkF_right {l : TL} (h : rightB l = true) : chkF l = (-1, 0) := by
  have h2 : (chkF l).2 = 0 := by simpa [rightB] using h
  have h1 : (chkF l).1 = -1 := by
    unfold chkF at h2 ⊢
    split
    · rfl
    · split
      · rfl
      · split
        · rfl
        · rename_i a b c
          rw [if_neg a, if_neg b, if_neg c] at h2
          exact chkG_neg _ _ _ _ h2
  exact Prod.ext h1 h2
theorem chkF_wrong {l : TL} (h : rightB l = false) : (chkF l).2 ≠ 0 := by simpa [rightB] using h
theorem few_len {l : TL} (h : fewT l = true) : l.items.length ≤ 129 := by
  unfold fewT at h
  rw [Bool.and_eq_true] at h
  have h1 := h.1
  rcases Nat.lt_or_ge 12 l.items.length with h2 | h2
  · simp [h2] at h1; omega
  · omega
abbrev anyF (m : Int) (l : List Item) : Bool := l.any fun x => decide (x.first = m)
abbrev anyL (m : Int) (l : List Item) : Bool := l.any fun x => decide (x.last = m)
theorem anyF_snoc {l : List Item} {k : Nat} {x : Item} (m : Int) (h : l[k]? = some x) : anyF m (l.take (k + 1)) = (anyF m (l.take k) || decide (x.first = m)) := by rw [take_at h]; simp [anyF]
theorem anyL_snoc {l : List Item} {k : Nat} {x : Item} (m : Int) (h : l[k]? = some x) : anyL m (l.take (k + 1)) = (anyL m (l.take k) || decide (x.last = m)) := by rw [take_at h]; simp [anyL]
theorem any_min {l : TL} (h : rightB l = true) : anyF (totA l) l.items = true ∧ anyL (totB l) l.items = true ∧ ∀ x ∈ l.items, totA l ≤ x.first ∧ x.last ≤ totB l := by
  have hok := right_ok h
  have e1 : totA l = minG (fst0 l) l.items := by unfold totA; rw [h]; rfl
  have e2 : totB l = maxG (lst0 l) l.items := by unfold totB; rw [h]; rfl
  obtain ⟨x0, hx0⟩ := get_at l.items (List.length_pos_iff.2 hok.ne)
  have hf : fst0 l = x0.first ∧ lst0 l = x0.last := by unfold fst0 lst0; rw [List.head?_eq_getElem?, hx0]; exact ⟨rfl, rfl⟩
  have hm := List.mem_of_getElem? hx0
  refine ⟨?_, ?_, fun x hx => ⟨by rw [e1]; exact (minG_le _ _).2 x hx, by rw [e2]; exact (maxG_le _ _).2 x hx⟩⟩
  · rw [List.any_eq_true]
    rcases minG_hit l.items (fst0 l) with h | ⟨x, hx, h⟩
    · exact ⟨x0, hm, by simp only [decide_eq_true_eq]; rw [e1, h, hf.1]⟩
    · exact ⟨x, hx, by simp only [decide_eq_true_eq]; rw [e1, h]⟩
  · rw [List.any_eq_true]
    rcases maxG_hit l.items (lst0 l) with h | ⟨x, hx, h⟩
    · exact ⟨x0, hm, by simp only [decide_eq_true_eq]; rw [e2, h, hf.2]⟩
    · exact ⟨x, hx, by simp only [decide_eq_true_eq]; rw [e2, h]⟩
theorem up_box {w W : World} {l : TL} {v : Value} (hX : Below (w.heap.size + 1) (w.alloc (tlC l v)) W) : Below w.heap.size w W := ((Below.refl _ _).alloc (Nat.le_refl _) _ : Below w.heap.size w (w.alloc (tlC l v))).trans (hX.mono (Nat.le_succ _))
theorem beq_dec (a b : Int) : (a == b) = decide (a = b) := by rw [Bool.eq_iff_iff]; simp

theorem rin_c (n lo hi : Int) (w : World) : Calls Tryz.prog 38 #[.int .i64 n, .int .i64 lo, .int .i64 hi] w fun e w' => e = .returned (.bool (inB n lo hi)) ∧ w = w' := by
  by_cases h1 : lo ≤ n
  · by_cases h2 : n ≤ hi
    · have HE := Lib.hid (show inB n lo hi = true by simp [inB, h1, h2])
      go_enter Tryz.func38, Tryz.ntmps38
      go_wp2
      go_ret
      exact ⟨ret_bool HE.out.symm, rfl⟩
    · have HE := Lib.hid (show inB n lo hi = false by simp [inB, h2])
      have h3 : hi < n := by omega
      go_enter Tryz.func38, Tryz.ntmps38
      go_wp2
      go_ret
      exact ⟨ret_bool HE.out.symm, rfl⟩
  · have HE := Lib.hid (show inB n lo hi = false by simp [inB, h1])
    have h3 : n < lo := by omega
    go_enter Tryz.func38, Tryz.ntmps38
    go_wp2
    go_ret
    exact ⟨ret_bool HE.out.symm, rfl⟩
def datB (a b : Int) : Bool := decide (0 ≤ a) && decide (a ≤ b) && decide (b ≤ 1048575)
theorem risDating_c (a b : Int) (w : World) : Calls Tryz.prog 73 #[.agg #[.int .i64 a, .int .i64 b]] w fun e w' => e = .returned (.bool (datB a b)) ∧ Below w.heap.size w w' := by
  have b0 : Below w.heap.size w (w.alloc (datC a b)) := (Below.refl _ _).alloc (Nat.le_refl _) _
  obtain ⟨q0, q1, -, -, ql⟩ := dat_cells (heap_newA w (datC a b))
  by_cases h1 : 0 ≤ a
  · by_cases h2 : a ≤ b
    · by_cases h3 : b ≤ 1048575
      · have HE := Lib.hid (show datB a b = true by simp [datB, h1, h2, h3])
        go_enter Tryz.func73, Tryz.ntmps73
        go_wp2
        go_ret
        exact ⟨ret_bool HE.out.symm, b0⟩
      · have HE := Lib.hid (show datB a b = false by simp [datB, h3])
        have h4 : 1048575 < b := by omega
        go_enter Tryz.func73, Tryz.ntmps73
        go_wp2
        go_ret
        exact ⟨ret_bool HE.out.symm, b0⟩
    · have HE := Lib.hid (show datB a b = false by simp [datB, h2])
      have h4 : b < a := by omega
      go_enter Tryz.func73, Tryz.ntmps73
      go_wp2
      go_ret
      exact ⟨ret_bool HE.out.symm, b0⟩
  · have HE := Lib.hid (show datB a b = false by simp [datB, h1])
    have h4 : a < 0 := by omega
    go_enter Tryz.func73, Tryz.ntmps73
    go_wp2
    go_ret
    exact ⟨ret_bool HE.out.symm, b0⟩
def prvB (l : List UInt8) : Nat → Option UInt8
  | 0 => none
  | k + 1 => l[k]?
theorem byte_at {s : ByteArray} {k : Nat} (h : k < s.size) : s.data.toList[k]? = some (s[k]'h) := by
  have h' : k < s.data.toList.length := by rw [Array.length_toList]; exact h
  rw [List.getElem?_eq_getElem h']
  rfl
theorem namG_at {s : ByteArray} {k : Nat} (h : k < s.size) : namG (prvB s.data.toList k) (s.data.toList.drop k) = (prB (s[k]'h) && !(decide (prvB s.data.toList k = some 32) && decide ((s[k]'h) = 32)) && namG (prvB s.data.toList (k + 1)) (s.data.toList.drop (k + 1))) := by
  rw [drop_at (byte_at h), show prvB s.data.toList (k + 1) = some (s[k]'h) from byte_at h, namG]
theorem prvB_at {s : ByteArray} {k : Nat} (h0 : 0 < k) (h : k - 1 < s.size) : prvB s.data.toList k = some (s[k - 1]'h) := by
  obtain ⟨j, rfl⟩ : ∃ j, k = j + 1 := ⟨k - 1, by omega⟩
  exact byte_at (s := s) (k := j) (by omega)
theorem prB_of {b : UInt8} (h1 : 32 ≤ (b.toNat : Int)) (h2 : (b.toNat : Int) ≤ 126) : prB b = true := by unfold prB; simp; omega
theorem prB_lo {b : UInt8} (h : (b.toNat : Int) < 32) : prB b = false := by unfold prB; simp; omega
theorem prB_hi {b : UInt8} (h : 126 < (b.toNat : Int)) : prB b = false := by unfold prB; simp; omega
theorem beq_byte {b : UInt8} (h : ((b.toNat : Int) == 32) = true) : b = 32 := byte_of (by simpa using h)
theorem bne_byte {b : UInt8} (h : ((b.toNat : Int) == 32) = false) : b ≠ 32 := byte_ne (by simpa using h)
set_option maxRecDepth 100000 in
set_option maxHeartbeats 2000000 in
theorem risName_c (s : ByteArray) (w : World) : Calls Tryz.prog 74 #[.string s] w fun e w' => e = .returned (.bool (nameB s)) ∧ w = w' := by
  have HE := Lib.hid (nameB_ref s)
  by_cases h1 : s.size < 1
  · have HX := Lib.hid (show nameB s = false by rw [HE.out]; simp; omega)
    have h1' : (s.size : Int) < 1 := by omega
    clear h1 HE
    go_enter Tryz.func74, Tryz.ntmps74
    go_wp2
    go_ret
    exact ⟨ret_bool HX.out.symm, rfl⟩
  · by_cases h2 : 64 < s.size
    · have HX := Lib.hid (show nameB s = false by rw [HE.out]; simp; omega)
      have h1' : ¬ (s.size : Int) < 1 := by omega
      have h2' : (64 : Int) < s.size := by omega
      clear h1 h2 HE
      go_enter Tryz.func74, Tryz.ntmps74
      go_wp2
      go_ret
      exact ⟨ret_bool HX.out.symm, rfl⟩
    · have h1' : ¬ (s.size : Int) < 1 := by omega
      have h2' : ¬ (64 : Int) < s.size := by omega
      have HX := Lib.hid (show 0 < s.size by omega)
      have h0' : (0 : Int) < s.size := by omega
      have hs64 : s.size ≤ 64 := by omega
      clear h1 h2
      go_enter Tryz.func74, Tryz.ntmps74
      go_wp2_with fail
      · rename_i hp hq
        go_ret
        refine ⟨ret_bool ?_, rfl⟩
        rw [HE.out, head_at hp, show s[0] = 32 from byte_of hq]
        simp
      · rename_i hp hq hr ht
        go_ret
        refine ⟨ret_bool ?_, rfl⟩
        rw [HE.out, last_at (Nat.sub_lt HX.out (by decide)), show s[s.size - 1] = 32 from beq_byte ht]
        simp
      · rename_i hp hq hr ht K' hK'
        have HN := Lib.hid (show nameB s = namG none s.data.toList by
          rw [HE.out, head_at hp, last_at (Nat.sub_lt HX.out (by decide))]
          have e1 : decide (some s[0] = some 32) = false := by simpa using byte_ne hq
          have e2 : decide (some (s[s.size - 1]'(Nat.sub_lt HX.out (by decide))) = some 32) = false := by simpa using bne_byte ht
          have e3 : decide (1 ≤ s.size) = true := by simp; omega
          have e4 : decide (s.size ≤ 64) = true := by simp; omega
          rw [e1, e2, e3, e4]
          simp)
        clear hq ht
        go_loopw [3] (fun i wr => ∃ k : Nat, k ≤ s.size ∧ i = .int .i64 k ∧ Hid (nameB s = namG (prvB s.data.toList k) (s.data.toList.drop k)) ∧ wr = w) (fun i _ => s.size - (intOf i).toNat)
        case atStart => exact ⟨0, Nat.zero_le _, rfl, HN, rfl⟩
        case round =>
          obtain ⟨k, hk, rfl, HS, rfl⟩ := hrel
          by_cases hlt : k < s.size
          · have hki : (k : Int) < (s.size : Int) := by omega
            have HN := Lib.hid (HS.out.trans (namG_at hlt))
            have HP := Lib.hid (fun (h0 : 0 < k) => prvB_at (s := s) h0 (by omega))
            have HP0 := Lib.hid (fun (h0 : ¬ 0 < k) => (show prvB s.data.toList k = none by rw [show k = 0 from by omega]; rfl))
            have hw : IntKind.i64.wrap ((k : Int) + 1) = (k : Int) + 1 := IntWalk.i64_in _ (by omega)
            have hm : k < s.size := hlt
            clear HS
            go_wp2_with fail
            · rename_i q1
              go_ret
              exact ⟨ret_bool (by rw [HN.out, prB_lo q1]; simp), rfl⟩
            · rename_i q1 q2
              go_ret
              exact ⟨ret_bool (by rw [HN.out, prB_hi q1]; simp), rfl⟩
            · rename_i q1 q2 q3 q4 q5 q6
              go_ret
              exact ⟨ret_bool (by rw [HN.out, HP.out q1, beq_byte q6, byte_of q2]; simp), rfl⟩
            · rename_i q1 q2 q3 q4 q5 q6
              have HQ := Lib.hid (HN.out.trans (show _ = namG (prvB s.data.toList (k + 1)) (s.data.toList.drop (k + 1)) by rw [HP.out q1, prB_of q3 q4]; simp [bne_byte q6]))
              exact ⟨⟨k + 1, by omega, by go_num, HQ, by first | rfl | trivial⟩, by simp [intOf]; omega⟩
            · rename_i q1 q2 q3 q4
              have HQ := Lib.hid (HN.out.trans (show _ = namG (prvB s.data.toList (k + 1)) (s.data.toList.drop (k + 1)) by rw [prB_of (by omega) (by omega)]; simp [byte_ne q4]))
              exact ⟨⟨k + 1, by omega, by go_num, HQ, by first | rfl | trivial⟩, by simp [intOf]; omega⟩
            · rename_i q1 q2 q3
              have HQ := Lib.hid (HN.out.trans (show _ = namG (prvB s.data.toList (k + 1)) (s.data.toList.drop (k + 1)) by rw [HP0.out q3, prB_of (by omega) (by omega)]; simp))
              exact ⟨⟨k + 1, by omega, by go_num, HQ, by first | rfl | trivial⟩, by simp [intOf]; omega⟩
          · have hki : ¬ (k : Int) < (s.size : Int) := by omega
            have HQ := Lib.hid (show nameB s = true by rw [HS.out, List.drop_of_length_le (by rw [Array.length_toList]; show s.size ≤ k; omega)]; unfold namG; rfl)
            clear HS
            go_wp2_with fail
            go_ret
            exact ⟨ret_bool HQ.out.symm, rfl⟩

def filsB (l : List Item) (i : Nat) (f : Int) : Bool := (l.take i).any fun y => decide (y.file = f)
def itE (l : List Item) (i : Nat) (x : Item) : Int := if itemE x ≠ 0 then itemE x else if ((prvN l i).any fun n => decide (x.number ≤ n)) = true then 5 else if filsB l i x.file = true then 6 else 0
theorem itE_1 {l : List Item} {i : Nat} {x : Item} (h : itemE x ≠ 0) : itE l i x = itemE x := by unfold itE; rw [if_pos h]
theorem itE_2 {l : List Item} {i : Nat} {x : Item} (h : itemE x = 0) (h2 : ((prvN l i).any fun n => decide (x.number ≤ n)) = true) : itE l i x = 5 := by unfold itE; rw [if_neg (fun e => e h), if_pos h2]
theorem itE_3 {l : List Item} {i : Nat} {x : Item} (h : itemE x = 0) (h2 : ((prvN l i).any fun n => decide (x.number ≤ n)) = false) : itE l i x = if filsB l i x.file = true then 6 else 0 := by unfold itE; rw [if_neg (fun e => e h), if_neg (by rw [h2]; simp)]
theorem chk_step {l : List Item} {i : Nat} {x : Item} (hx : l[i]? = some x) : chkG i (prvN l i) ((l.take i).map Item.file) (l.drop i) = if itE l i x ≠ 0 then ((i : Int), itE l i x) else chkG (i + 1) (prvN l (i + 1)) ((l.take (i + 1)).map Item.file) (l.drop (i + 1)) := by
  rw [drop_at hx, chkG_cons]
  have hm : (x.file ∈ (l.take i).map Item.file) ↔ filsB l i x.file = true := by
    unfold filsB
    rw [List.mem_map, List.any_eq_true]
    simp
  have hp : prvN l (i + 1) = some x.number := by show l[i]?.map Item.number = _; rw [hx]; rfl
  have ht : (l.take (i + 1)).map Item.file = (l.take i).map Item.file ++ [x.file] := by rw [take_at hx, List.map_append]; rfl
  by_cases h1 : itemE x ≠ 0
  · rw [if_pos h1, itE_1 h1, if_pos h1]
  · have h1' : itemE x = 0 := by simpa using h1
    rw [if_neg h1]
    cases h2 : ((prvN l i).any fun n => decide (x.number ≤ n)) with
    | true => rw [if_pos rfl, itE_2 h1' h2]; rfl
    | false =>
      rw [if_neg (by simp), itE_3 h1' h2]
      by_cases h3 : filsB l i x.file = true
      · rw [if_pos (hm.2 h3), if_pos h3]; rfl
      · rw [if_neg (fun e => h3 (hm.1 e)), if_neg h3, hp, ht]; rfl
abbrev riW (w : World) (l : TL) (v : Value) (x : Item) : World := (w.alloc (tlC l v)).alloc (itmC x)
theorem riW_at {w W : World} {l : TL} {v : Value} {x : Item} (hW : Below (w.heap.size + 2) (riW w l v x) W) : (W.cell? ⟨w.heap.size, 3, none⟩ = some v ∧ W.cell? ⟨w.heap.size + 1, 0, none⟩ = some (.int .i64 x.number) ∧ W.cell? ⟨w.heap.size + 1, 1, none⟩ = some (.int .i64 x.file) ∧ W.cell? ⟨w.heap.size + 1, 2, none⟩ = some (.string x.title) ∧ W.cell? ⟨w.heap.size + 1, 3, none⟩ = some (.int .i64 x.first) ∧ W.cell? ⟨w.heap.size + 1, 4, none⟩ = some (.int .i64 x.last) ∧ W.cell? ⟨w.heap.size + 1, 5, none⟩ = some (.int .i64 x.pages) ∧ W.cell? ⟨w.heap.size + 1, 6, none⟩ = some (.string x.digest)) ∧ w.heap.size + 1 < W.heap.size := by
  have h0 : (riW w l v x).heap[w.heap.size]? = some (tlC l v) := (Below.heap_alloc _ _ _ (by simp)).trans (heap_newA w _)
  have h1 : (riW w l v x).heap[w.heap.size + 1]? = some (itmC x) := by
    have := heap_newA (w.alloc (tlC l v)) (itmC x)
    rwa [show (w.alloc (tlC l v)).heap.size = w.heap.size + 1 by simp] at this
  have k0 := (hW.block _ (by omega)).trans h0
  have k1 := (hW.block _ (by omega)).trans h1
  obtain ⟨i0, i1, i2, i3, i4, i5, i6⟩ := itm_at k1
  exact ⟨⟨(tl_cells k0).2.2.2.1, i0, i1, i2, i3, i4, i5, i6⟩, heap_ltA k1⟩
set_option maxRecDepth 100000 in
set_option maxHeartbeats 8000000 in
theorem ritem_c (l : TL) (v : Value) (i : Nat) (x : Item) (hx : l.items[i]? = some x) (w : World) (B : Nat) (hB : B ≤ w.heap.size) (h : TLRep w B l v) :
    Calls Tryz.prog 52 #[tlV l v, .int .i64 i] w fun e w' => e = .returned (.int .i64 (itE l.items i x)) ∧ Below w.heap.size w w' := by
  have b0 : Below w.heap.size w (riW w l v x) := ((Below.refl _ _).alloc (Nat.le_refl _) _).alloc (by simp) _
  have hbX : Below (w.heap.size + 2) (riW w l v x) (riW w l v x) := Below.refl _ _
  have KC := Lib.hid (fun (W : World) (hW : Below (w.heap.size + 2) (riW w l v x) W) => riW_at hW)
  obtain ⟨A, c, rfl, hlc, hcm, -⟩ := id h
  have HIT := Lib.hid (fun (k : Nat) (y : Item) (hy : l.items[k]? = some y) (W : World) (hW : Below w.heap.size w W) => Items.at_ (h.below itmS (hW.mono hB)) hy)
  obtain ⟨b, off, rfl, hbB, g0, g1, g2, g3, g4, g5, g6⟩ := HIT.out i x hx w (Below.refl _ _)
  have hil := lt_of_at hx
  have hii : (i : Int) < (l.items.length : Int) := by omega
  have hbw : b < w.heap.size := by have : b < B := hbB; omega
  have HE := Lib.hid (show itemE x = if (inB x.number 1 9999 && inB x.file 1 1073741824 && inB x.pages 1 100000 && datB x.first x.last) = false then 2 else if nameB x.title = false then 4 else if x.digest.size ≠ 32 then 1 else 0 from rfl)
  have HI := Lib.hid (And.intro (@itE_1 l.items i x) (And.intro (@itE_2 l.items i x) (@itE_3 l.items i x)))
  clear hx
  go_enter Tryz.func52, Tryz.ntmps52
  go_wp2_with fail
  refine (rin_c x.number 1 9999 _).mono ?_
  rintro e w0 ⟨rfl, rfl⟩
  obtain ⟨⟨k3, k4, k5, k6, k7, k8, k9, kA⟩, kl⟩ := KC.out _ hbX
  cases n0 : inB x.number 1 9999
  · have HX := Lib.hid (show itE l.items i x = 2 by
      have e : itemE x = 2 := by rw [HE.out]; simp [n0]
      rw [HI.out.1 (by rw [e]; decide), e])
    go_wp2
    go_ret
    exact ⟨ret_int HX.out.symm, b0.trans (hbX.mono (Nat.le_add_right _ _))⟩
  · go_wp2_with fail
    refine (rin_c x.file 1 1073741824 _).mono ?_
    rintro e w1 ⟨rfl, rfl⟩
    cases n1 : inB x.file 1 1073741824
    · have HX := Lib.hid (show itE l.items i x = 2 by
        have e : itemE x = 2 := by rw [HE.out]; simp [n1]
        rw [HI.out.1 (by rw [e]; decide), e])
      go_wp2
      go_ret
      exact ⟨ret_int HX.out.symm, b0.trans (hbX.mono (Nat.le_add_right _ _))⟩
    · go_wp2_with fail
      refine (rin_c x.pages 1 100000 _).mono ?_
      rintro e w2 ⟨rfl, rfl⟩
      cases n2 : inB x.pages 1 100000
      · have HX := Lib.hid (show itE l.items i x = 2 by
          have e : itemE x = 2 := by rw [HE.out]; simp [n2]
          rw [HI.out.1 (by rw [e]; decide), e])
        go_wp2
        go_ret
        exact ⟨ret_int HX.out.symm, b0.trans (hbX.mono (Nat.le_add_right _ _))⟩
      · go_wp2_with fail
        refine (risDating_c x.first x.last _).mono ?_
        rintro e w3 ⟨rfl, hb3⟩
        have hbX := bnd_call hbX (by simp) hb3
        clear hb3 k3 k4 k5 k6 k7 k8 k9 kA kl
        obtain ⟨⟨k3, k4, k5, k6, k7, k8, k9, kA⟩, kl⟩ := KC.out _ hbX
        cases n3 : datB x.first x.last
        · have HX := Lib.hid (show itE l.items i x = 2 by
            have e : itemE x = 2 := by rw [HE.out]; simp [n3]
            rw [HI.out.1 (by rw [e]; decide), e])
          go_wp2
          go_ret
          exact ⟨ret_int HX.out.symm, b0.trans (hbX.mono (Nat.le_add_right _ _))⟩
        · go_wp2_with fail
          refine (risName_c x.title _).mono ?_
          rintro e w4 ⟨rfl, rfl⟩
          cases n4 : nameB x.title
          · have HX := Lib.hid (show itE l.items i x = 4 by
              have e : itemE x = 4 := by rw [HE.out]; simp [n0, n1, n2, n3, n4]
              rw [HI.out.1 (by rw [e]; decide), e])
            go_wp2
            go_ret
            exact ⟨ret_int HX.out.symm, b0.trans (hbX.mono (Nat.le_add_right _ _))⟩
          · by_cases n5 : x.digest.size = 32
            · have m5 : ((x.digest.size : Int) != 32) = false := by simp; omega
              have HZ := Lib.hid (show itemE x = 0 by rw [HE.out]; simp [n0, n1, n2, n3, n4, n5])
              have HI2 := Lib.hid (And.intro (HI.out.2.1 HZ.out) (HI.out.2.2 HZ.out))
              clear n0 n1 n2 n3 n4 n5
              have hbw3 : b < w3.heap.size := by have := (b0.trans (hbX.mono (Nat.le_add_right _ _))).size; omega
              have HL : ∀ (W : World), Below w3.heap.size w3 W → (∀ m, prvN l.items i = some m → x.number > m) → Hid (itE l.items i x = if filsB l.items i x.file = true then 6 else 0) := fun W hW hm => Lib.hid (HI2.out.2 (by
                cases hq : prvN l.items i with
                | none => rfl
                | some m => have := hm m hq; simp; omega))
              rcases Nat.eq_zero_or_pos i with hi0 | hi0
              · subst hi0
                have HF := HL w3 (Below.refl _ _) (fun m hm => by cases hm)
                clear HL HI2 HI
                go_wp2
                go_quiet (fail)
                go_wp2
                go_loopw [6] (fun q wr => ∃ k : Nat, k ≤ 0 ∧ q = .int .i64 k ∧ Hid (filsB l.items (0) x.file = ((l.items.take (0)).drop k).any fun y => decide (y.file = x.file)) ∧ Below w3.heap.size w3 wr) (fun q _ => 0 - (intOf q).toNat)
                case atStart => exact ⟨0, Nat.zero_le _, rfl, Lib.hid rfl, below_drewN (Below.refl _ _) _⟩
                case round =>
                  obtain ⟨k, hk, rfl, HS, hbr⟩ := hrel
                  have hbXr := hbX.trans (hbr.mono (by have := hbX.size; simp at this; omega))
                  clear k3 k4 k5 k6 k7 k8 k9 kA kl
                  obtain ⟨⟨k3, k4, k5, k6, k7, k8, k9, kA⟩, kl⟩ := KC.out _ hbXr
                  by_cases hlt2 : k < 0
                  · exact absurd hlt2 (Nat.not_lt_zero _)
                  · have HX := Lib.hid (show itE l.items (0) x = 0 by rw [HF.out, HS.out, List.drop_of_length_le (by rw [List.length_take]; omega)]; simp)
                    have hki : ¬ (k : Int) < (((0 : Nat) : Int)) := by omega
                    clear HS
                    go_wp2
                    go_ret
                    exact ⟨ret_int HX.out.symm, b0.trans (hbXr.mono (Nat.le_add_right _ _))⟩
              · obtain ⟨j, rfl⟩ : ∃ j, i = j + 1 := ⟨i - 1, by omega⟩
                obtain ⟨y, hy⟩ := get_at l.items (i := j) (by omega)
                have hq : prvN l.items (j + 1) = some y.number := by show l.items[j]?.map Item.number = _; rw [hy]; rfl
                obtain ⟨_, _, e9, _, q0, q1, q2, q3, q4, q5, q6⟩ := HIT.out j y hy _ (b0.trans (hbX.mono (Nat.le_add_right _ _)))
                cases e9
                have hj1 : (0 : Int) < (j : Int) + 1 := by omega
                have hwj : IntKind.i64.wrap ((j : Int) + 1 - 1) = (j : Int) := by rw [show (j : Int) + 1 - 1 = j by omega]; exact IntWalk.i64_in _ (by omega)
                by_cases hle : x.number ≤ y.number
                · have HX := Lib.hid (HI2.out.1 (by rw [hq]; simpa using hle))
                  clear HL HI2 HI hy hq
                  go_wp2
                  go_quiet (fail)
                  go_wp2
                  go_ret
                  exact ⟨ret_int HX.out.symm, b0.trans ((hbX.trans ((below_drewN (Below.refl _ _) _ : Below w3.heap.size w3 _).mono (by have := hbX.size; simp at this; omega))).mono (Nat.le_add_right _ _))⟩
                · have HF := HL w3 (Below.refl _ _) (fun m hm => by rw [hq] at hm; injection hm with hm; omega)
                  clear HL HI2 HI hy hq
                  go_wp2
                  go_quiet (fail)
                  go_wp2
                  go_loopw [6] (fun q wr => ∃ k : Nat, k ≤ j + 1 ∧ q = .int .i64 k ∧ Hid (filsB l.items (j + 1) x.file = ((l.items.take (j + 1)).drop k).any fun y => decide (y.file = x.file)) ∧ Below w3.heap.size w3 wr) (fun q _ => j + 1 - (intOf q).toNat)
                  case atStart => exact ⟨0, Nat.zero_le _, rfl, Lib.hid rfl, below_drewN (Below.refl _ _) _⟩
                  case round =>
                    obtain ⟨k, hk, rfl, HS, hbr⟩ := hrel
                    have hbXr := hbX.trans (hbr.mono (by have := hbX.size; simp at this; omega))
                    clear k3 k4 k5 k6 k7 k8 k9 kA kl
                    obtain ⟨⟨k3, k4, k5, k6, k7, k8, k9, kA⟩, kl⟩ := KC.out _ hbXr
                    by_cases hlt2 : k < j + 1
                    · obtain ⟨y2, hy2⟩ := get_at l.items (i := k) (by omega)
                      have HD := Lib.hid (drop_at (show (l.items.take (j + 1))[k]? = some y2 by rw [List.getElem?_take_of_lt hlt2]; exact hy2))
                      obtain ⟨_, _, e9, _, p0, p1, p2, p3, p4, p5, p6⟩ := HIT.out k y2 hy2 _ (b0.trans (hbXr.mono (Nat.le_add_right _ _)))
                      cases e9
                      have hki : (k : Int) < (((j + 1 : Nat) : Int)) := by omega
                      have hkl : (k : Int) < (l.items.length : Int) := by omega
                      have hbwr : b < wr.heap.size := by have := hbr.size; omega
                      have hw : IntKind.i64.wrap ((k : Int) + 1) = (k : Int) + 1 := IntWalk.i64_in _ (by omega)
                      have HBR := Lib.hid hbr
                      clear hy2 hbr
                      by_cases hf : y2.file = x.file
                      · have HX := Lib.hid (show itE l.items (j + 1) x = 6 by rw [HF.out, HS.out, HD.out]; simp [hf])
                        have hfe : (y2.file == x.file) = true := by simpa using hf
                        clear hf HS HD
                        go_wp2
                        go_quiet (fail)
                        go_wp2
                        go_ret
                        exact ⟨ret_int HX.out.symm, b0.trans ((hbXr.trans ((below_drewN (Below.refl _ _) _ : Below wr.heap.size wr _).mono (by have := hbXr.size; simp at this; omega))).mono (Nat.le_add_right _ _))⟩
                      · have HN := Lib.hid (HS.out.trans (show _ = ((l.items.take (j + 1)).drop (k + 1)).any (fun y => decide (y.file = x.file)) by rw [HD.out]; simp [hf]))
                        have hfe : (y2.file == x.file) = false := by simpa using hf
                        clear hf HS HD
                        go_wp2
                        go_quiet (fail)
                        go_wp2
                        go_roundw
                        case rel => exact ⟨k + 1, by omega, by go_num, HN, below_drewN HBR.out _⟩
                        case measure => simp [intOf]; omega
                    · have HX := Lib.hid (show itE l.items (j + 1) x = 0 by rw [HF.out, HS.out, List.drop_of_length_le (by rw [List.length_take]; omega)]; simp)
                      have hki : ¬ (k : Int) < (((j + 1 : Nat) : Int)) := by omega
                      clear HS
                      go_wp2
                      go_ret
                      exact ⟨ret_int HX.out.symm, b0.trans (hbXr.mono (Nat.le_add_right _ _))⟩
            · have m5 : ((x.digest.size : Int) != 32) = true := by simp; omega
              have HX := Lib.hid (show itE l.items i x = 1 by
                have e : itemE x = 1 := by rw [HE.out]; simp [n0, n1, n2, n3, n4, n5]
                rw [HI.out.1 (by rw [e]; decide), e])
              go_wp2
              go_ret
              exact ⟨ret_int HX.out.symm, b0.trans (hbX.mono (Nat.le_add_right _ _))⟩

set_option maxRecDepth 100000 in
set_option maxHeartbeats 8000000 in
theorem rcheck_c (l : TL) (v : Value) (w : World) (B : Nat) (hB : B ≤ w.heap.size) (h : TLRep w B l v) :
    Calls Tryz.prog 22 #[tlV l v] w fun e w' => e = .returned (chkP l) ∧ Below w.heap.size w w' := by
  have b0 : Below w.heap.size w (w.alloc (tlC l v)) := (Below.refl _ _).alloc (Nat.le_refl _) _
  have hb0 : Below (w.heap.size + 1) (w.alloc (tlC l v)) (w.alloc (tlC l v)) := Below.refl _ _
  have KC := Lib.hid (fun (W : World) (hW : Below (w.heap.size + 1) (w.alloc (tlC l v)) W) => tlW_at hW)
  obtain ⟨A, c, rfl, hc1, hc2, -⟩ := id h
  have HE := Lib.hid (show chkF l = if headB l = false then (-1, 2) else if l.items = [] then (-1, 9) else if 128 < l.items.length then (-1, 8) else chkG 0 none [] l.items from rfl)
  have HH := Lib.hid (show headB l = (inB l.id 1 1073741824 && inB l.office 1 1073741824 && inB l.day 0 1048575) from rfl)
  cases h0 : inB l.id 1 1073741824
  · have HX := Lib.hid (show chkF l = (-1, 2) by rw [HE.out, if_pos (by rw [HH.out]; simp [h0])])
    clear HE HH
    go_enter Tryz.func22, Tryz.ntmps22
    go_wp2_with fail
    refine (rin_c l.id 1 1073741824 _).mono ?_
    rintro e w1 ⟨rfl, rfl⟩
    rw [h0]
    go_wp2
    go_ret2
    exact ⟨ret_chk HX.out, b0⟩
  · skip
    cases h1 : inB l.office 1 1073741824
    · have HX := Lib.hid (show chkF l = (-1, 2) by rw [HE.out, if_pos (by rw [HH.out]; simp [h0, h1])])
      clear HE HH
      go_enter Tryz.func22, Tryz.ntmps22
      go_wp2_with fail
      refine (rin_c l.id 1 1073741824 _).mono ?_
      rintro e w1 ⟨rfl, rfl⟩
      rw [h0]
      go_wp2_with fail
      refine (rin_c l.office 1 1073741824 _).mono ?_
      rintro e w2 ⟨rfl, rfl⟩
      rw [h1]
      go_wp2
      go_ret2
      exact ⟨ret_chk HX.out, b0⟩
    · skip
      cases h2 : inB l.day 0 1048575
      · have HX := Lib.hid (show chkF l = (-1, 2) by rw [HE.out, if_pos (by rw [HH.out]; simp [h0, h1, h2])])
        clear HE HH
        go_enter Tryz.func22, Tryz.ntmps22
        go_wp2_with fail
        refine (rin_c l.id 1 1073741824 _).mono ?_
        rintro e w1 ⟨rfl, rfl⟩
        rw [h0]
        go_wp2_with fail
        refine (rin_c l.office 1 1073741824 _).mono ?_
        rintro e w2 ⟨rfl, rfl⟩
        rw [h1]
        go_wp2_with fail
        refine (rin_c l.day 0 1048575 _).mono ?_
        rintro e w3 ⟨rfl, rfl⟩
        rw [h2]
        go_wp2
        go_ret2
        exact ⟨ret_chk HX.out, b0⟩
      · skip
        have HD := Lib.hid (show headB l = true by rw [HH.out]; simp [h0, h1, h2])
        rw [if_neg (by rw [HD.out]; decide)] at HE
        by_cases hn : l.items = []
        · have HX := Lib.hid (show chkF l = (-1, 9) by rw [HE.out, if_pos hn])
          have hl0 : ((l.items.length : Int) == 0) = true := by rw [hn]; rfl
          clear HE HH HD hn
          go_enter Tryz.func22, Tryz.ntmps22
          go_wp2_with fail
          refine (rin_c l.id 1 1073741824 _).mono ?_
          rintro e w1 ⟨rfl, rfl⟩
          rw [h0]
          go_wp2_with fail
          refine (rin_c l.office 1 1073741824 _).mono ?_
          rintro e w2 ⟨rfl, rfl⟩
          rw [h1]
          go_wp2_with fail
          refine (rin_c l.day 0 1048575 _).mono ?_
          rintro e w3 ⟨rfl, rfl⟩
          rw [h2]
          go_wp2
          go_ret2
          exact ⟨ret_chk HX.out, b0⟩
        · have hl0 : ((l.items.length : Int) == 0) = false := by
            have := List.length_pos_iff.2 hn
            simp; omega
          rw [if_neg hn] at HE
          clear hn
          by_cases hbig : 128 < l.items.length
          · have HX := Lib.hid (show chkF l = (-1, 8) by rw [HE.out, if_pos hbig])
            have hg : (128 : Int) < l.items.length := by omega
            clear HE HH HD hbig
            go_enter Tryz.func22, Tryz.ntmps22
            go_wp2_with fail
            refine (rin_c l.id 1 1073741824 _).mono ?_
            rintro e w1 ⟨rfl, rfl⟩
            rw [h0]
            go_wp2_with fail
            refine (rin_c l.office 1 1073741824 _).mono ?_
            rintro e w2 ⟨rfl, rfl⟩
            rw [h1]
            go_wp2_with fail
            refine (rin_c l.day 0 1048575 _).mono ?_
            rintro e w3 ⟨rfl, rfl⟩
            rw [h2]
            go_wp2
            go_ret2
            exact ⟨ret_chk HX.out, b0⟩
          · have hg : ¬ (128 : Int) < l.items.length := by omega
            rw [if_neg hbig] at HE
            have H0 := Lib.hid (show chkF l = chkG 0 (prvN l.items 0) ((l.items.take 0).map Item.file) (l.items.drop 0) from HE.out)
            clear HE HH HD
            go_enter Tryz.func22, Tryz.ntmps22
            go_wp2_with fail
            refine (rin_c l.id 1 1073741824 _).mono ?_
            rintro e w1 ⟨rfl, rfl⟩
            rw [h0]
            go_wp2_with fail
            refine (rin_c l.office 1 1073741824 _).mono ?_
            rintro e w2 ⟨rfl, rfl⟩
            rw [h1]
            go_wp2_with fail
            refine (rin_c l.day 0 1048575 _).mono ?_
            rintro e w3 ⟨rfl, rfl⟩
            rw [h2]
            go_wp2
            go_loopw [4] (fun i wr => ∃ k : Nat, k ≤ l.items.length ∧ i = .int .i64 k ∧ Hid (chkF l = chkG k (prvN l.items k) ((l.items.take k).map Item.file) (l.items.drop k)) ∧ Below (w.heap.size + 1) (w.alloc (tlC l (.slice A l.items.length c))) wr) (fun i _ => l.items.length - (intOf i).toNat)
            case atStart => exact ⟨0, Nat.zero_le _, rfl, H0, hb0⟩
            case round =>
              clear H0
              obtain ⟨k, hk, rfl, HS, hb⟩ := hrel
              have bW := b0.trans (hb.mono (Nat.le_succ _))
              obtain ⟨z0, z1, z2, z3, zl⟩ := KC.out _ hb
              have hbs := bW.size
              by_cases hlt : k < l.items.length
              · obtain ⟨x, hx⟩ := get_at l.items hlt
                have HRI := Lib.hid (ritem_c l (.slice A l.items.length c) k x hx wr B (Nat.le_trans hB hbs) (h.below itmS (bW.mono hB)))
                have HN := Lib.hid (HS.out.trans (chk_step hx))
                have hki : (k : Int) < (l.items.length : Int) := by omega
                have hw : IntKind.i64.wrap ((k : Int) + 1) = (k : Int) + 1 := IntWalk.i64_in _ (by omega)
                clear HS hx
                go_wp2_with fail
                refine HRI.out.mono ?_
                rintro e w4 ⟨rfl, hb4⟩
                have hbN := bnd_call hb (by simp) hb4
                by_cases he : itE l.items k x = 0
                · have HN2 := Lib.hid (HN.out.trans (if_neg (fun e => e he)))
                  have he2 : (itE l.items k x != 0) = false := by simp [he]
                  clear HN he
                  go_wp2
                  go_roundw
                  case rel => exact ⟨k + 1, by omega, by go_num, HN2, hbN⟩
                  case measure => simp [intOf]; omega
                · have HN2 := Lib.hid (HN.out.trans (if_pos he))
                  have he2 : (itE l.items k x != 0) = true := by simpa using he
                  clear HN he
                  go_wp2
                  go_ret2
                  exact ⟨ret_chk HN2.out, b0.trans (hbN.mono (Nat.le_succ _))⟩
              · have HX := Lib.hid (show chkF l = (-1, 0) by rw [HS.out, List.drop_of_length_le (by omega)]; rfl)
                have hki : ¬ (k : Int) < (l.items.length : Int) := by omega
                go_wp2
                go_ret2
                exact ⟨ret_chk HX.out, bW⟩
theorem rright_c (l : TL) (v : Value) (w : World) (B : Nat) (hB : B ≤ w.heap.size) (h : TLRep w B l v) :
    Calls Tryz.prog 32 #[tlV l v] w fun e w' => e = .returned (.bool (rightB l)) ∧ Below w.heap.size w w' := by
  have b0 : Below w.heap.size w (w.alloc (tlC l v)) := (Below.refl _ _).alloc (Nat.le_refl _) _
  have HC := Lib.hid (rcheck_c l v (w.alloc (tlC l v)) B (Nat.le_trans hB b0.size) (h.below itmS (b0.mono hB)))
  obtain ⟨A, c, rfl, -⟩ := id h
  have HE := Lib.hid (show rightB l = decide ((chkF l).2 = 0) from rfl)
  go_enter Tryz.func32, Tryz.ntmps32
  go_wp2_with fail
  refine HC.out.mono ?_
  rintro e w1 ⟨rfl, hb1⟩
  go_wp2
  go_ret
  exact ⟨ret_bool (by rw [HE.out]; rfl), b0.trans (hb1.mono (by simp))⟩
/-- what Find returns: the item (or the empty one), and whether there is one -/
def fndI (l : List Item) (n : Int) : Item := (findO l n).getD zItem
def fndB (l : List Item) (n : Int) : Bool := (findO l n).isSome
theorem findO_cons (x : Item) (r : List Item) (n : Int) : findO (x :: r) n = if x.number = n then some x else findO r n := by
  unfold findO
  rw [List.find?_cons]
  by_cases h : x.number = n
  · simp [h]
  · rw [if_neg h, decide_eq_false h]
abbrev rfW (w : World) (l : TL) (v : Value) : World := (w.alloc (tlC l v)).alloc (itmC zItem)
theorem rfW_at {w W : World} {l : TL} {v : Value} (hW : Below (w.heap.size + 2) (rfW w l v) W) : (W.cell? ⟨w.heap.size, 3, none⟩ = some v ∧ w.heap.size < W.heap.size) ∧ W.heap[w.heap.size + 1]? = some (itmC zItem) := by
  have h0 : (rfW w l v).heap[w.heap.size]? = some (tlC l v) := (Below.heap_alloc _ _ _ (by simp)).trans (heap_newA w _)
  have h1 : (rfW w l v).heap[w.heap.size + 1]? = some (itmC zItem) := by
    have := heap_newA (w.alloc (tlC l v)) (itmC zItem)
    rwa [show (w.alloc (tlC l v)).heap.size = w.heap.size + 1 by simp] at this
  have k0 := (hW.block _ (by omega)).trans h0
  exact ⟨⟨(tl_cells k0).2.2.2.1, heap_ltA k0⟩, (hW.block _ (by omega)).trans h1⟩
set_option maxRecDepth 100000 in
set_option maxHeartbeats 4000000 in
theorem rfind_c (l : TL) (v : Value) (n : Int) (w : World) (B : Nat) (hB : B ≤ w.heap.size) (h : TLRep w B l v) :
    Calls Tryz.prog 24 #[tlV l v, .int .i64 n] w fun e w' => e = .returned (.tuple #[itmV (fndI l.items n), .bool (fndB l.items n)]) ∧ Below w.heap.size w w' := by
  have b0 : Below w.heap.size w (rfW w l v) := ((Below.refl _ _).alloc (Nat.le_refl _) _).alloc (by simp) _
  have hb0 : Below (w.heap.size + 2) (rfW w l v) (rfW w l v) := Below.refl _ _
  obtain ⟨zi, hzi⟩ : ∃ z, zItem = z := ⟨_, rfl⟩
  have KC := Lib.hid (fun (W : World) (hW : Below (w.heap.size + 2) (rfW w l v) W) => (by have := rfW_at hW; rwa [hzi] at this : (W.cell? ⟨w.heap.size, 3, none⟩ = some v ∧ w.heap.size < W.heap.size) ∧ W.heap[w.heap.size + 1]? = some (itmC zi)))
  have HZI := Lib.hid hzi
  clear hzi
  obtain ⟨A, c, rfl, hlc, hcm, -⟩ := id h
  have HIT := Lib.hid (fun (k : Nat) (y : Item) (hy : l.items[k]? = some y) (W : World) (hW : Below w.heap.size w W) => Items.at_ (h.below itmS (hW.mono hB)) hy)
  have H0 := Lib.hid (show findO l.items n = findO (l.items.drop 0) n from rfl)
  go_enter Tryz.func24, Tryz.ntmps24
  go_wp2
  go_loopw [6] (fun i wr => ∃ k : Nat, k ≤ l.items.length ∧ i = .int .i64 k ∧ Hid (findO l.items n = findO (l.items.drop k) n) ∧ rfW w l (.slice A l.items.length c) = wr) (fun i _ => l.items.length - (intOf i).toNat)
  case atStart => exact ⟨0, Nat.zero_le _, rfl, H0, rfl⟩
  case round =>
    clear H0
    obtain ⟨k, hk, rfl, HS, hwr⟩ := hrel
    have hb : Below (w.heap.size + 2) (rfW w l (.slice A l.items.length c)) wr := by rw [← hwr]; exact hb0
    have HWR := Lib.hid hwr
    clear hwr
    have bW := b0.trans (hb.mono (Nat.le_add_right _ _))
    obtain ⟨⟨z3, zl⟩, hz⟩ := KC.out _ hb
    by_cases hlt : k < l.items.length
    · obtain ⟨x, hx⟩ := get_at l.items hlt
      obtain ⟨b, off, rfl, hbB, g0, g1, g2, g3, g4, g5, g6⟩ := HIT.out k x hx _ bW
      have hbw : b < wr.heap.size := by have : b < B := hbB; have := bW.size; omega
      have hki : (k : Int) < (l.items.length : Int) := by omega
      have hw : IntKind.i64.wrap ((k : Int) + 1) = (k : Int) + 1 := IntWalk.i64_in _ (by omega)
      have HN := Lib.hid (HS.out.trans (show _ = if x.number = n then some x else findO (l.items.drop (k + 1)) n by rw [drop_at hx, findO_cons]))
      clear HS hx
      by_cases hn : x.number = n
      · have HX := Lib.hid (HN.out.trans (if_pos hn))
        have hnb : (x.number == n) = true := by simpa using hn
        obtain ⟨⟨c0, f0, c1, f1, c2, f2, c3, f3, c4, f4, c5, f5, c6, f6⟩, r0, r1, r2, r3, r4, r5, r6⟩ := pI_facts x hz
        have HF := Lib.hid (pI_below (b := w.heap.size + 1) x bW (Nat.le_succ _))
        clear hn hz
        go_wp2
        refine bodyPost_ret (v := .tuple #[itmV x, .bool true]) (by simp [results, Tryz.results24, go_sem, r0, r1, r2, r3, r4, r5, r6]) rfl ⟨by unfold fndI fndB; rw [HX.out]; rfl, HF.out⟩
      · have HX := Lib.hid (HN.out.trans (if_neg hn))
        have hnb : (x.number == n) = false := by simpa using hn
        clear hn hz
        go_wp2
        go_roundw
        case rel => exact ⟨k + 1, by omega, by go_num, HX, HWR.out⟩
        case measure => simp [intOf]; omega
    · have HX := Lib.hid (show findO l.items n = none by rw [HS.out, List.drop_of_length_le (by omega)]; rfl)
      have hki : ¬ (k : Int) < (l.items.length : Int) := by omega
      obtain ⟨⟨c0, f0, c1, f1, c2, f2, c3, f3, c4, f4, c5, f5, c6, f6⟩, r0, r1, r2, r3, r4, r5, r6⟩ := pI_facts (⟨0, 0, ⟨#[]⟩, 0, 0, 0, ⟨#[]⟩⟩ : Item) hz
      have HF := Lib.hid (pI_below (b := w.heap.size + 1) (⟨0, 0, ⟨#[]⟩, 0, 0, 0, ⟨#[]⟩⟩ : Item) bW (Nat.le_succ _))
      clear hz
      go_wp2
      refine bodyPost_ret (v := .tuple #[itmV ⟨0, 0, ⟨#[]⟩, 0, 0, 0, ⟨#[]⟩⟩, .bool false]) (by simp [results, Tryz.results24, go_sem, r0, r1, r2, r3, r4, r5, r6]) rfl ⟨by unfold fndI fndB; rw [HX.out]; rfl, HF.out⟩

theorem find1_c (x : Item) (n : Int) (g : Nat) (w : World) (h0 : w.cell? ⟨g, 0, none⟩ = some (.int .i64 n)) (hg : g < w.heap.size) :
    Calls Tryz.prog 54 #[itmV x, .pointer (some ⟨g, 0, none⟩)] w fun e w' => e = .returned (.bool (decide (x.number = n))) ∧ Below w.heap.size w w' := by
  have b1 : Below w.heap.size w (w.alloc (itmC x)) := (Below.refl _ _).alloc (Nat.le_refl _) _
  have hE := Lib.hid (beq_dec x.number n)
  go_enter Tryz.func54, Tryz.ntmps54
  go_wp2
  go_ret
  exact ⟨ret_bool hE.out, b1⟩
theorem idxG_find (n : Int) : ∀ (l : List Item) (i : Nat), (findO l n = none ∧ idxG (fun x : Item => decide (x.number = n)) l i = -1) ∨ ∃ k x, l[k]? = some x ∧ findO l n = some x ∧ idxG (fun x : Item => decide (x.number = n)) l i = ((i + k : Nat) : Int)
  | [], i => .inl ⟨rfl, rfl⟩
  | y :: r, i => by
    rw [findO_cons]
    unfold idxG
    by_cases h : y.number = n
    · right
      refine ⟨0, y, rfl, if_pos h, ?_⟩
      simp [h]
    · rcases idxG_find n r (i + 1) with ⟨h1, h2⟩ | ⟨k, x, h1, h2, h3⟩
      · left
        refine ⟨by rw [if_neg h, h1], ?_⟩
        simp [h, h2]
      · right
        refine ⟨k + 1, x, h1, by rw [if_neg h, h2], ?_⟩
        simp [h, h3]
        omega
abbrev fdW (w : World) (l : TL) (v : Value) (n : Int) : World := ((w.alloc (tlC l v)).alloc (.cells #[.int .i64 n] 3)).alloc (itmC zItem)
theorem fdW_at {w W : World} {l : TL} {v : Value} {n : Int} (hW : Below (w.heap.size + 3) (fdW w l v n) W) : (W.cell? ⟨w.heap.size, 3, none⟩ = some v ∧ W.cell? ⟨w.heap.size + 1, 0, none⟩ = some (.int .i64 n) ∧ w.heap.size < W.heap.size ∧ w.heap.size + 1 < W.heap.size) ∧ W.heap[w.heap.size + 2]? = some (itmC zItem) := by
  have h0 : (fdW w l v n).heap[w.heap.size]? = some (tlC l v) := (Below.heap_alloc _ _ _ (by simp; omega)).trans ((Below.heap_alloc _ _ _ (by simp)).trans (heap_newA w _))
  have h1 : (fdW w l v n).heap[w.heap.size + 1]? = some (.cells #[.int .i64 n] 3) := by
    have := heap_newA (w.alloc (tlC l v)) (.cells #[.int .i64 n] 3)
    rw [show (w.alloc (tlC l v)).heap.size = w.heap.size + 1 by simp] at this
    exact (Below.heap_alloc _ _ _ (by simp)).trans this
  have h2 : (fdW w l v n).heap[w.heap.size + 2]? = some (itmC zItem) := by
    have := heap_newA ((w.alloc (tlC l v)).alloc (.cells #[.int .i64 n] 3)) (itmC zItem)
    rwa [show ((w.alloc (tlC l v)).alloc (.cells #[.int .i64 n] 3)).heap.size = w.heap.size + 2 by simp] at this
  have k0 := (hW.block _ (by omega)).trans h0
  have k1 := (hW.block _ (by omega)).trans h1
  exact ⟨⟨(tl_cells k0).2.2.2.1, by rw [Lib.cell_of_heap k1]; rfl, heap_ltA k0, heap_ltA k1⟩, (hW.block _ (by omega)).trans h2⟩
set_option maxRecDepth 100000 in
set_option maxHeartbeats 4000000 in
theorem find_c (l : TL) (v : Value) (n : Int) (w : World) (B : Nat) (hB : B ≤ w.heap.size) (h : TLRep w B l v) :
    Calls Tryz.prog 23 #[tlV l v, .int .i64 n] w fun e w' => e = .returned (.tuple #[itmV (fndI l.items n), .bool (fndB l.items n)]) ∧ Below w.heap.size w w' := by
  have b0 : Below w.heap.size w (fdW w l v n) := (((Below.refl _ _).alloc (Nat.le_refl _) _).alloc (by simp) _).alloc (by simp; omega) _
  have hb0 : Below (w.heap.size + 3) (fdW w l v n) (fdW w l v n) := Below.refl _ _
  have hsz : (fdW w l v n).heap.size = w.heap.size + 3 := by simp
  have HIX := Lib.hid (itmIdx1_c 54 (.pointer (some ⟨w.heap.size + 1, 0, none⟩)) (fun x => decide (x.number = n)) l.items v (fdW w l v n) B (Nat.le_trans hB b0.size) (h.below itmS (b0.mono hB)) (fun _ _ => by kernel_rfl) (fun x W _ hW => find1_c x n (w.heap.size + 1) W (fdW_at (by rw [hsz] at hW; exact hW)).1.2.1 (fdW_at (by rw [hsz] at hW; exact hW)).1.2.2.2))
  obtain ⟨zi, hzi⟩ : ∃ z, zItem = z := ⟨_, rfl⟩
  have KC := Lib.hid (fun (W : World) (hW : Below (w.heap.size + 3) (fdW w l v n) W) => (by have := fdW_at hW; rw [hzi] at this; exact ⟨⟨this.1.1, this.1.2.2.1⟩, this.2⟩ : (W.cell? ⟨w.heap.size, 3, none⟩ = some v ∧ w.heap.size < W.heap.size) ∧ W.heap[w.heap.size + 2]? = some (itmC zi)))
  clear hzi
  obtain ⟨A, c, rfl, hlc, hcm, -⟩ := id h
  have HIT := Lib.hid (fun (k : Nat) (y : Item) (hy : l.items[k]? = some y) (W : World) (hW : Below w.heap.size w W) => Items.at_ (h.below itmS (hW.mono hB)) hy)
  have HFN := Lib.hid (idxG_find n l.items 0)
  unfold idxF at HIX
  go_enter Tryz.func23, Tryz.ntmps23
  go_wp2_with fail
  refine HIX.out.mono ?_
  rintro e w1 ⟨rfl, hb1⟩
  have hb := bnd_call hb0 (by simp) hb1
  have bW := b0.trans (hb.mono (Nat.le_add_right _ _))
  obtain ⟨⟨z3, zl⟩, hz⟩ := KC.out _ hb
  clear hb1 HIX
  rcases HFN.out with ⟨h1, h2⟩ | ⟨k, x, h1, h2, h3⟩
  · have HX := Lib.hid h1
    rw [h2]
    obtain ⟨⟨c0, f0, c1, f1, c2, f2, c3, f3, c4, f4, c5, f5, c6, f6⟩, r0, r1, r2, r3, r4, r5, r6⟩ := pI_facts (⟨0, 0, ⟨#[]⟩, 0, 0, 0, ⟨#[]⟩⟩ : Item) hz
    have HF := Lib.hid (pI_below (b := w.heap.size + 2) (⟨0, 0, ⟨#[]⟩, 0, 0, 0, ⟨#[]⟩⟩ : Item) bW (Nat.le_add_right _ _))
    clear h1 h2 hz
    go_wp2
    refine bodyPost_ret (v := .tuple #[itmV ⟨0, 0, ⟨#[]⟩, 0, 0, 0, ⟨#[]⟩⟩, .bool false]) (by simp [results, Tryz.results23, go_sem, r0, r1, r2, r3, r4, r5, r6]) rfl ⟨by unfold fndI fndB; rw [HX.out]; rfl, HF.out⟩
  · have HX := Lib.hid h2
    rw [h3]
    simp only [Nat.zero_add]
    obtain ⟨b, off, rfl, hbB, g0, g1, g2, g3, g4, g5, g6⟩ := HIT.out k x h1 _ bW
    have hbw : b < w1.heap.size := by have : b < B := hbB; have := bW.size; omega
    have hkl := lt_of_at h1
    have hki : (k : Int) < (l.items.length : Int) := by omega
    have hk0 : decide ((k : Int) < 0) = false := by simp
    obtain ⟨⟨c0, f0, c1, f1, c2, f2, c3, f3, c4, f4, c5, f5, c6, f6⟩, r0, r1, r2, r3, r4, r5, r6⟩ := pI_facts x hz
    have HF := Lib.hid (pI_below (b := w.heap.size + 2) x bW (Nat.le_add_right _ _))
    clear h1 h2 h3 hz
    go_wp2
    refine bodyPost_ret (v := .tuple #[itmV x, .bool true]) (by simp [results, Tryz.results23, go_sem, r0, r1, r2, r3, r4, r5, r6]) rfl ⟨by unfold fndI fndB; rw [HX.out]; rfl, HF.out⟩
end Go.Proofs.YtenaifmkejmdaaaGreatDoor
