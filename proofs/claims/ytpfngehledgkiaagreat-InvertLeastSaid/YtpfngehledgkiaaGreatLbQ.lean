/- The program: Clone, Equal at postings; Concat at sheets; merged. -/
import Derived.Test.YtpfngehledgkiaaGreatOf
namespace Go.Proofs.YtpfngehledgkiaaGreat
open Go.RowKit

set_option maxHeartbeats 1000000 in
theorem clonePosts_c (xs : List Post) (v : Value) (w : World) (B : Nat) (hB : B ≤ w.heap.size) (h : SlRep 4 (flat Post.enc) w (fun b => b < B) xs v) (hn : xs.length ≤ 100000) :
    Calls Tryz.prog 17 #[v] w fun e w' => ∃ v', e = .returned v' ∧ OwnRep 4 (flat Post.enc) 43 w.heap.size w' xs v' ∧ Below w.heap.size w w' := by
  obtain ⟨A, c, rfl, hc1, hc2, _⟩ := id h
  have HN := Lib.hid hn
  clear hn
  rcases A with _ | ad
  · obtain ⟨rfl, -⟩ := h.none_nil
    clear h
    have hq := fun (W : World) => Lib.run_eql_slice_nil (P := Tryz.prog) W 29 43 none 0 c 0 0 Tryz.underlying29
    go_enter Tryz.func17, Tryz.ntmps17
    go_wp2
    go_ret
    exact ⟨_, rfl, OwnRep.nil_, Below.refl _ _⟩
  · have hq := fun (W : World) => Lib.run_eql_slice_nil (P := Tryz.prog) W 29 43 (some ad) xs.length c 0 0 Tryz.underlying29
    go_enter Tryz.func17, Tryz.ntmps17
    go_wp2_with (at_builtin; refine stop_intro ?_)
    refine stop_elim ?_
    refine wpList_append_rep rfl pstS pstE_ w.heap.size (.tmp 5) (.tmp 6) rfl rfl (OwnRep.empty_new ?hg ?hb) rfl (ys := xs) (F := fun b => b < B) ?src ?F ?n (by decide) ?hbase ?_
    case hb => exact Nat.le_refl _
    case hg => rfl
    case src => exact h.below pstS ((Below.refl _ _).alloc hB _)
    case F => intro b' (hb' : b' < B); exact ⟨by simp only [World.size_alloc]; omega, show some w.heap.size ≠ some b' by simp; omega⟩
    case hbase => simp only [World.size_alloc]; omega
    case n => have hn := HN.out; simp; omega
    intro v1 w1 hown1 hg1 hat1
    rw [List.nil_append] at hown1
    change World.grownBy _ w1 (some w.heap.size) at hg1
    have hb1 : Below w.heap.size w w1 := ((Below.refl _ _).alloc (Nat.le_refl _) _).grown hg1 (by simp only [World.size_alloc]; omega) (fun k hk => by injection hk; omega)
    go_wp2
    go_ret
    exact ⟨_, rfl, hown1, hb1⟩

def eqPost (x y : Post) : Bool := decide (x.word = y.word) && decide (x.unit = y.unit) && decide (x.field = y.field) && decide (x.place = y.place)
theorem eqPost_iff (x y : Post) : eqPost x y = true ↔ x = y := by
  cases x; cases y
  simp [eqPost, and_assoc]
theorem Post.neq (x y : Post) (w : World) : (binOp .neq 43 (.agg #[.string x.word, .int .i64 x.unit, .int .i64 x.field, .int .i64 x.place]) (.agg #[.string y.word, .int .i64 y.unit, .int .i64 y.field, .int .i64 y.place])).run Tryz.prog w = .ok (.bool (!eqPost x y)) w := by
  have hs : ∀ (d : Nat) (xs ys : Array Value), (Op.equalIn (d + 1) 43 (.agg xs) (.agg ys)).run Tryz.prog w = (Op.eqFields d xs ys (Tryz.prog.fieldsOf 43).toList).run Tryz.prog w := fun d xs ys => run_equalIn_struct w d 43 xs ys (by kernel_rfl) (by kernel_rfl)
  simp only [binOp]
  simp [Op.equal, Op.maxDepth, hs 9999, Program.fieldsOf, Tryz.underlying43, go_sem, eqPost, str_eq]
  by_cases h0 : x.word = y.word <;> by_cases h1 : x.unit = y.unit <;> by_cases h2 : x.field = y.field <;> by_cases h3 : x.place = y.place <;> simp [h0, h1, h2, h3]
set_option maxHeartbeats 2000000 in
theorem equalPosts_c (xs ys : List Post) (v v' : Value) (w : World) (B : Nat) (hB : B ≤ w.heap.size) (h : SlRep 4 (flat Post.enc) w (fun b => b < B) xs v) (h' : SlRep 4 (flat Post.enc) w (fun b => b < B) ys v') :
    Calls Tryz.prog 27 #[v, v'] w fun e w' => e = .returned (.bool (eqL eqPost xs ys)) ∧ ∃ n, w' = w.drewN n := by
  obtain ⟨A, c, rfl, hc1, hc2, _⟩ := id h
  obtain ⟨A', c', rfl, hd1, hd2, _⟩ := id h'
  by_cases hl : xs.length = ys.length
  · have HL := Lib.hid hl
    have hl1 : ((xs.length : Int) != (ys.length : Int)) = false := by simp [hl]
    have hl2 : ((xs.length : Int) == (ys.length : Int)) = true := by simp [hl]
    have hl3 : (xs.length : Int) ≤ ys.length := by omega
    clear hl
    have HF := Lib.hid (show eqL eqPost xs ys = eqL eqPost (xs.drop 0) (ys.drop 0) from rfl)
    go_enter Tryz.func27, Tryz.ntmps27
    go_wp2
    go_loopw [13] (fun i wr => ∃ k : Nat, k ≤ xs.length ∧ i = .int .i64 k ∧ Hid (eqL eqPost xs ys = eqL eqPost (xs.drop k) (ys.drop k)) ∧ ∃ n, wr = w.drewN n) (fun i _ => xs.length - (intOf i).toNat)
    case atStart => exact ⟨0, Nat.zero_le _, rfl, HF, 0, rfl⟩
    case round =>
      obtain ⟨k, hk, rfl, HS, nd, rfl⟩ := hrel
      clear HF
      by_cases hlt : k < xs.length
      · have hlt' : k < ys.length := by have := HL.out; omega
        obtain ⟨x, hx⟩ := get_at xs hlt
        obtain ⟨y, hy⟩ := get_at ys hlt'
        have HD := Lib.hid (drop_at hx)
        have HD' := Lib.hid (drop_at hy)
        obtain ⟨b, off, rfl, hbB, g0, g1, g2, g3⟩ := Posts.at_ h hx
        obtain ⟨b', off', rfl, hbB', q0, q1, q2, q3⟩ := Posts.at_ h' hy
        have hbw : b < w.heap.size := by have : b < B := hbB; omega
        have hbw' : b' < w.heap.size := by have : b' < B := hbB'; omega
        clear hx hy hl1 hl2
        have hne := fun W : World => Post.neq x y W
        cases he : eqPost x y
        · have HE := Lib.hid (show eqL eqPost xs ys = false by rw [HS.out, HD.out, HD'.out]; simp [eqL, he])
          rw [he] at hne; simp only [Bool.not_false] at hne
          clear he
          go_wp2
          go_quiet (fail)
          go_wp2
          go_ret
          exact ⟨ret_bool HE.out.symm, _, World.drewN_drewN _ _ _⟩
        · have HE := Lib.hid (show eqL eqPost xs ys = eqL eqPost (xs.drop (k + 1)) (ys.drop (k + 1)) by rw [HS.out, HD.out, HD'.out]; simp [eqL, he])
          rw [he] at hne; simp only [Bool.not_true] at hne
          clear he
          go_wp2
          go_quiet (fail)
          go_wp2
          go_roundw
          case rel => exact ⟨k + 1, by omega, by go_num, HE, _, rfl⟩
          case measure => simp [intOf]; omega
      · go_wp2
        go_ret
        exact ⟨ret_bool (by rw [HS.out, List.drop_of_length_le (by omega), List.drop_of_length_le (by have := HL.out; omega)]; rfl), _, rfl⟩
  · have HE := Lib.hid (eqL_len eqPost xs ys hl)
    have hl1 : ((xs.length : Int) != (ys.length : Int)) = true := by simpa using fun h => hl (by omega)
    have hl2 : ((xs.length : Int) == (ys.length : Int)) = false := by simpa using fun h => hl (by omega)
    go_enter Tryz.func27, Tryz.ntmps27
    go_wp2
    go_ret
    exact ⟨ret_bool HE.out.symm, 0, rfl⟩
/-- slices.Grow of the nil slice -/
theorem growNil_c (n : Nat) (w : World) (hn : n ≤ 2000) :
    Calls Tryz.prog 70 #[.slice none 0 0, .int .i64 n] w fun e w' => ∃ v, e = .returned v ∧ OwnRep 6 shtR 50 w.heap.size w' ([] : List Sheet) v ∧ Below w.heap.size w w' := by
  by_cases h0 : n = 0
  · subst h0
    have hc := Any8.slices_Grow_room Tryz.growSht none 0 0 0 w (Nat.le_refl _) (by omega) (by omega) (Nat.le_refl _)
    change Calls Tryz.prog 70 _ _ _ at hc
    refine hc.mono ?_
    rintro e w' ⟨rfl, rfl⟩
    exact ⟨_, rfl, OwnRep.nil_, Below.refl _ _⟩
  · obtain ⟨i, h1, h2, h3, h4⟩ := info_parts (P := Tryz.prog) (e := 50) (z := .agg #[.int .i64 0, .int .i64 0, .int .i64 0, .string ⟨#[]⟩, .string ⟨#[]⟩, .slice none 0 0]) (size := 6) (bytes := 80) (by kernel_rfl)
    have hc := Any8.slices_Grow_grow Tryz.growSht i _ h1 h2 (by rw [h3]; omega) none 0 0 n [] w (Nat.le_refl _) (by omega) (by rw [h4]; omega) (by omega) (by simp) (fun _ => rfl) (fun a ha => by cases ha)
    change Calls Tryz.prog 70 _ _ _ at hc
    refine hc.mono ?_
    rintro e w' ⟨rfl, rfl⟩
    refine ⟨_, rfl, ?_, ((Below.refl _ _).drew).alloc (Nat.le_refl _) _⟩
    have hG := grownCap_ge w (0 + n) 0 (Tryz.growSht_ren.t 25)
    have hM := grownCap_le_maxLen w (0 + n) 0 (Tryz.growSht_ren.t 25) (by unfold maxLen; omega)
    refine ⟨[], rfl, fun j x cs hx => by simp at hx, by simp, .inr ⟨w.heap.size, _, _, rfl, Nat.le_refl _, by show (w.heap.push _)[w.heap.size]? = _; exact Array.getElem?_push_size, Nat.zero_le _, hM, ?_, by simp⟩⟩
    simp only [Array.size_append, size_zeroCells, List.size_toArray, List.length_nil]
    generalize grownCap w (0 + n) 0 (Tryz.growSht_ren.t 25) = G at *
    have : (Value.cells (.agg #[.int .i64 0, .int .i64 0, .int .i64 0, .string ⟨#[]⟩, .string ⟨#[]⟩, .slice none 0 0])).size = 6 := rfl
    rw [this]
    omega
set_option maxRecDepth 100000 in
set_option maxHeartbeats 4000000 in
/-- slices.Concat of two lists of sheets -/
theorem concatSh_c (xs ys : List Sheet) (v v' : Value) (g : Nat) (w : World) (B : Nat) (hB : B ≤ w.heap.size) (h : Sheets w B xs v) (h' : Sheets w B ys v') (hn : xs.length ≤ 1000) (hm : ys.length ≤ 1000) (z0 : w.cell? ⟨g, 0, none⟩ = some v) (z1 : w.cell? ⟨g, 1, none⟩ = some v') :
    Calls Tryz.prog 24 #[.slice (some ⟨g, 0, none⟩) 2 2] w fun e w' => ∃ v', e = .returned v' ∧ OwnRep 6 shtR 50 w.heap.size w' (xs ++ ys) v' ∧ Below w.heap.size w w' := by
  obtain ⟨A, c, rfl, hc1, hc2, _⟩ := id h
  obtain ⟨A', c', rfl, hd1, hd2, _⟩ := id h'
  have hgl := World.block_lt_of_cell? w ⟨g, 0, none⟩ z0
  have hq1 : ¬ ((xs.length : Int) < 0) := by omega
  have hq2 : ¬ ((xs.length : Int) + (ys.length : Int) < 0) := by omega
  have hw2 : IntKind.i64.wrap ((xs.length : Int) + (ys.length : Int)) = (xs.length : Int) + (ys.length : Int) := IntWalk.i64_in _ (by omega)
  have HG := Lib.hid (growNil_c (xs.length + ys.length) w (by omega))
  go_enter Tryz.func24, Tryz.ntmps24
  go_wp2
  refine wp_loop_rounds 3 ?_
  rw [rounds_succ]
  go_wp2_with fail
  rw [rounds_succ]
  go_wp2_with fail
  rw [rounds_succ]
  go_wp2_with fail
  refine HG.out.mono ?_
  rintro e w1 ⟨vg, rfl, hown, hb1⟩
  have y0 := (hb1.cell (p := ⟨g, 0, none⟩) hgl).trans z0
  have y1 := (hb1.cell (p := ⟨g, 1, none⟩) hgl).trans z1
  have yl := Nat.lt_of_lt_of_le hgl hb1.size
  have hlo := hown.own_lt
  have hs1 := hb1.size
  obtain ⟨Ag, ng, cg, rfl, hng⟩ := own_form shtS hown
  go_wp2
  refine wp_loop_rounds 3 ?_
  rw [rounds_succ]
  go_wp2_with (at_builtin; refine stop_intro ?_)
  refine stop_elim ?_
  refine wpList_append_rep rfl shtS shtE_ w.heap.size (.tmp 31) (.tmp 32) rfl rfl hown rfl (ys := xs) (h.below shtS (hb1.mono hB)) (fun b (hb : b < B) => ⟨by omega, fun e => by have := (hlo b e).1; omega⟩) (by simp; omega) (by decide) hs1 ?_
  intro v2 w2 hown2 hg2 hat2
  have hb2 := hb1.grown hg2 hs1 (fun j hj => (hlo j hj).1)
  have y0 := (hb2.cell (p := ⟨g, 0, none⟩) hgl).trans z0
  have y1 := (hb2.cell (p := ⟨g, 1, none⟩) hgl).trans z1
  have yl := Nat.lt_of_lt_of_le hgl hb2.size
  have hlo2 := hown2.own_lt
  have hs2 := hb2.size
  rw [List.nil_append] at hown2
  obtain ⟨Ah, nh, ch, rfl, hnh⟩ := own_form shtS hown2
  go_wp2
  rw [rounds_succ]
  go_wp2_with (at_builtin; refine stop_intro ?_)
  refine stop_elim ?_
  refine wpList_append_rep rfl shtS shtE_ w.heap.size (.tmp 31) (.tmp 32) rfl rfl hown2 rfl (ys := ys) (h'.below shtS (hb2.mono hB)) (fun b (hb : b < B) => ⟨by omega, fun e => by have := (hlo2 b e).1; omega⟩) (by omega) (by decide) hs2 ?_
  intro v3 w3 hown3 hg3 hat3
  have hb3 := hb2.grown hg3 hs2 (fun j hj => (hlo2 j hj).1)
  obtain ⟨Ai, ni, ci, rfl, hni⟩ := own_form shtS hown3
  go_wp2
  rw [rounds_succ]
  go_wp2
  go_ret
  exact ⟨_, rfl, hown3, hb3⟩

theorem beq_strTS {a b : ByteArray} (h : a = b) : (a.toList == b.toList) = true := by rw [str_eq, decide_eq_true h]
theorem beq_strFS {a b : ByteArray} (h : a ≠ b) : (a.toList == b.toList) = false := by rw [str_eq, decide_eq_false h]
theorem bne_intS {a b : Int} (h : a ≠ b) : (a != b) = true := by simpa using h
theorem eqPost_refl (l : List Post) : eqL eqPost l l = true := by
  induction l with
  | nil => rfl
  | cons x l ih =>
    show (eqPost x x && eqL eqPost l l) = true
    rw [ih, (eqPost_iff x x).2 rfl]
    rfl
set_option maxHeartbeats 2000000 in
theorem rsame5_c (xs ys : List Post) (v v' : Value) (w : World) (B : Nat) (hB : B ≤ w.heap.size) (h : SlRep 4 (flat Post.enc) w (fun b => b < B) xs v) (h' : SlRep 4 (flat Post.enc) w (fun b => b < B) ys v') :
    Calls Tryz.prog 12 #[v, v'] w fun e w' => e = .returned (.bool (eqL eqPost xs ys)) ∧ Below w.heap.size w w' := by
  obtain ⟨A, c, rfl, hc1, hc2, _⟩ := id h
  obtain ⟨A', c', rfl, hd1, hd2, _⟩ := id h'
  by_cases hl : xs.length = ys.length
  · have HL := Lib.hid hl
    have hl1 : ((xs.length : Int) != (ys.length : Int)) = false := by simp [hl]
    have hl2 : ((xs.length : Int) == (ys.length : Int)) = true := by simp [hl]
    clear hl
    have HF := Lib.hid (show eqL eqPost xs ys = eqL eqPost (xs.drop 0) (ys.drop 0) from rfl)
    go_enter Tryz.func12, Tryz.ntmps12
    go_wp2
    go_loopw [5] (fun i wr => ∃ k : Nat, k ≤ xs.length ∧ i = .int .i64 k ∧ Hid (eqL eqPost xs ys = eqL eqPost (xs.drop k) (ys.drop k)) ∧ Below w.heap.size w wr) (fun i _ => xs.length - (intOf i).toNat)
    case atStart => exact ⟨0, Nat.zero_le _, rfl, HF, Below.refl _ _⟩
    case round =>
      obtain ⟨k, hk, rfl, HS, hb⟩ := hrel
      have hbs := hb.size
      clear HF
      by_cases hlt : k < xs.length
      · have hlt' : k < ys.length := by have := HL.out; omega
        obtain ⟨x, hx⟩ := get_at xs hlt
        obtain ⟨y, hy⟩ := get_at ys hlt'
        have HD := Lib.hid (drop_at hx)
        have HD' := Lib.hid (drop_at hy)
        obtain ⟨b, off, rfl, hbB, g0, g1, g2, g3⟩ := Posts.at_ (h.below pstS (hb.mono hB)) hx
        obtain ⟨b', off', rfl, hbB', q0, q1, q2, q3⟩ := Posts.at_ (h'.below pstS (hb.mono hB)) hy
        have hbw : b < wr.heap.size := by have : b < B := hbB; omega
        have hbw' : b' < wr.heap.size := by have : b' < B := hbB'; omega
        have hki : (k : Int) < (xs.length : Int) := by omega
        have hki' : (k : Int) < (ys.length : Int) := by omega
        have hne := fun W : World => Post.neq x y W
        clear hx hy
        cases hxy : eqPost x y
        · rw [hxy] at hne
          simp only [Bool.not_false] at hne
          go_wp2
          go_quiet (fail)
          go_wp2
          go_ret
          exact ⟨ret_bool (by rw [HS.out, HD.out, HD'.out]; simp [eqL, hxy]), below_drewN hb nq⟩
        · rw [hxy] at hne
          simp only [Bool.not_true] at hne
          go_wp2
          go_quiet (fail)
          go_wp2
          go_roundw
          case rel => exact ⟨k + 1, by omega, by go_num, by show _ = _; rw [HS.out, HD.out, HD'.out]; simp [eqL, hxy], below_drewN hb nq⟩
          case measure => simp [intOf]; omega
      · have hlt' : ¬ k < ys.length := by have := HL.out; omega
        go_wp2
        go_ret
        exact ⟨ret_bool (by rw [HS.out, List.drop_of_length_le (by omega), List.drop_of_length_le (by omega)]; rfl), hb⟩
  · have HE := Lib.hid (eqL_len eqPost xs ys hl)
    have hl1 : ((xs.length : Int) != (ys.length : Int)) = true := bne_intS (by omega)
    have hl2 : ((xs.length : Int) == (ys.length : Int)) = false := by rw [beq_eq_false_iff_ne]; omega
    clear hl
    go_enter Tryz.func12, Tryz.ntmps12
    go_wp2
    go_ret
    exact ⟨ret_bool HE.out.symm, Below.refl _ _⟩
end Go.Proofs.YtpfngehledgkiaaGreat
