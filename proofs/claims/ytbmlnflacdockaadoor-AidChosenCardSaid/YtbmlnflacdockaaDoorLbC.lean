/- What AidChosen calls: its closures, slices.Index and slices.Contains on facts, and the length of a map. -/
import Derived.Test.YtbmlnflacdockaaDoorPlG
import Derived.Test.YtbmlnflacdockaaDoorMaps
namespace Go.Proofs.YtbmlnflacdockaaDoor
open Go.RowKit

theorem chosen1_c (u : Int) (g : Nat) (x : Sheet) (vf : Value) (hvf : ∃ A n c, vf = .slice A n c) (w : World) (h0 : w.cell? ⟨g, 0, none⟩ = some (.int .i64 u)) (hg : g < w.heap.size) :
    Calls Tryd.prog 21 #[.agg #[.int .i64 x.unit, .int .i64 x.parent, .int .i64 x.level, .string x.mark, .string x.title, vf], .pointer (some ⟨g, 0, none⟩)] w fun e w' => e = .returned (.bool (decide (x.unit = u))) ∧ Below w.heap.size w w' := by
  obtain ⟨A, n, c, rfl⟩ := hvf
  by_cases hxu : x.unit = u
  · have he : (x.unit == u) = true := by simp [hxu]
    have HE := Lib.hid (show decide (x.unit = u) = true by simp [hxu])
    clear hxu
    go_enter Tryd.func21, Tryd.ntmps21
    go_wp2
    go_ret
    exact ⟨ret_bool HE.out.symm, (Below.refl _ _).alloc (Nat.le_refl _) _⟩
  · have he : (x.unit == u) = false := by simpa using hxu
    have HE := Lib.hid (show decide (x.unit = u) = false by simp [hxu])
    clear hxu
    go_enter Tryd.func21, Tryd.ntmps21
    go_wp2
    go_ret
    exact ⟨ret_bool HE.out.symm, (Below.refl _ _).alloc (Nat.le_refl _) _⟩
set_option maxHeartbeats 1000000 in
theorem indexSc_c (c0 : Value) (p : Sheet → Bool) (xs : List Sheet) (v : Value) (w : World) (B : Nat) (hB : B ≤ w.heap.size) (h : SlRep 6 shtR w (fun b => b < B) xs v)
    (hp : ∀ (x : Sheet) (vf : Value) (W : World), Below w.heap.size w W → (∃ A n c, vf = .slice A n c) → Calls Tryd.prog 21 #[.agg #[.int .i64 x.unit, .int .i64 x.parent, .int .i64 x.level, .string x.mark, .string x.title, vf], c0] W fun e w' => e = .returned (.bool (p x)) ∧ Below W.heap.size W w') :
    Calls Tryd.prog 20 #[v, .func (.func 21) #[] #[c0]] w fun e w' => e = .returned (.int .i64 (idxF p xs)) ∧ Below w.heap.size w w' := by
  obtain ⟨A, c, rfl, hc1, hc2, _⟩ := id h
  have HP := Lib.hid hp
  clear hp
  have HF := Lib.hid (show idxF p xs = idxG p (xs.drop 0) 0 from rfl)
  go_enter Tryd.func20, Tryd.ntmps20
  go_wp2
  go_loopw [8] (fun i wr => ∃ k : Nat, k ≤ xs.length ∧ i = .int .i64 k ∧ Hid (idxF p xs = idxG p (xs.drop k) k) ∧ Below w.heap.size w wr) (fun i _ => xs.length - (intOf i).toNat)
  case atStart => exact ⟨0, Nat.zero_le _, rfl, HF, Below.refl _ _⟩
  case round =>
    obtain ⟨k, hk, rfl, HS, hb⟩ := hrel
    clear HF
    have hs := hb.size
    by_cases hlt : k < xs.length
    · obtain ⟨x, hx⟩ := get_at xs hlt
      have HD := Lib.hid (drop_at hx)
      obtain ⟨b, off, vf, rfl, hbB, g0, g1, g2, g3, g4, g5, hvf⟩ := Sheets.at_ (h.below shtS (hb.mono hB)) hx
      have hbw : b < wr.heap.size := by have : b < B := hbB; omega
      clear hx
      go_wp2_with fail
      refine (HP.out x vf wr hb (have ⟨_, _, e9, _⟩ := hvf; ⟨_, _, _, e9⟩)).mono ?_
      rintro e w1 ⟨rfl, hb1⟩
      cases hpx : p x
      · go_wp2
        go_roundw
        case rel => exact ⟨k + 1, by omega, by go_num, by show _ = _; rw [HS.out, HD.out]; simp [idxG, hpx], hb.trans (hb1.mono hs)⟩
        case measure => simp [intOf]; omega
      · go_wp2
        go_ret
        exact ⟨ret_int (by rw [HS.out, HD.out]; simp [idxG, hpx]), hb.trans (hb1.mono hs)⟩
    · go_wp2
      go_ret
      exact ⟨ret_int (by rw [HS.out, List.drop_of_length_le (by omega)]; rfl), hb⟩
theorem chosen2_c (ls : List ByteArray) (s x : ByteArray) (v1 : Value) (gl gc : Nat) (w : World) (B : Nat) (hB : B ≤ w.heap.size) (h : SlRep 1 (flat strEnc) w (fun b => b < B) ls v1) (hl : w.cell? ⟨gl, 0, none⟩ = some (.string s)) (hc : w.cell? ⟨gc, 0, none⟩ = some v1) :
    Calls Tryd.prog 24 #[.string x, .pointer (some ⟨gl, 0, none⟩), .pointer (some ⟨gc, 0, none⟩)] w fun e w' => e = .returned (.int .i64 (rkF ls s x)) ∧ Below w.heap.size w w' := by
  have hF : ∀ b, b < B → b < w.heap.size := fun b hb => by omega
  obtain ⟨A, c, rfl, hc1, hc2, _⟩ := id h
  have hlw := World.block_lt_of_cell? w ⟨gl, 0, none⟩ hl
  have hcw := World.block_lt_of_cell? w ⟨gc, 0, none⟩ hc
  have HI := Lib.hid (sindex_c x ls (.slice A ls.length c) w (fun b => b < B) hF h)
  by_cases hxs : x = s
  · have he : x.toList = s.toList := by rw [hxs]
    have he2 : (x.toList == s.toList) = true := by simp [he]
    have HX := Lib.hid (show rkF ls s x = -1 by unfold rkF; rw [if_pos hxs])
    clear hxs
    go_enter Tryd.func24, Tryd.ntmps24
    go_wp2
    go_ret
    exact ⟨ret_int HX.out.symm, Below.refl _ _⟩
  · have he : ¬ x.toList = s.toList := by rw [str_iff]; exact hxs
    have he2 : (x.toList == s.toList) = false := by simp [he]
    have HX := Lib.hid (show rkF ls s x = rankF ls x by unfold rkF; rw [if_neg hxs])
    clear hxs
    go_enter Tryd.func24, Tryd.ntmps24
    go_wp2_with fail
    refine HI.out.mono ?_
    rintro e w1 ⟨rfl, rfl⟩
    go_wp2
    go_ret
    exact ⟨ret_int (by rw [HX.out]; rfl), Below.refl _ _⟩
def eqFact (x y : Fact) : Bool := decide (x.el = y.el) && decide (x.lang = y.lang) && decide (x.text = y.text)
theorem eqFact_iff {x y : Fact} : eqFact x y = true ↔ x = y := by
  cases x; cases y
  simp [eqFact, and_assoc]
theorem Fact.eql (x y : Fact) (w : World) : (binOp .eql 56 (.agg #[.int .i64 x.el, .string x.lang, .string x.text]) (.agg #[.int .i64 y.el, .string y.lang, .string y.text])).run Tryd.prog w = .ok (.bool (eqFact x y)) w := by
  have hs : ∀ (d : Nat) (xs ys : Array Value), (Op.equalIn (d + 1) 56 (.agg xs) (.agg ys)).run Tryd.prog w = (Op.eqFields d xs ys (Tryd.prog.fieldsOf 56).toList).run Tryd.prog w := fun d xs ys => run_equalIn_struct w d 56 xs ys (by kernel_rfl) (by kernel_rfl)
  simp only [binOp]
  simp [Op.equal, Op.maxDepth, hs 9999, Program.fieldsOf, Tryd.underlying56, go_sem, eqFact, str_eq]
  by_cases h0 : x.el = y.el <;> by_cases h1 : x.lang = y.lang <;> by_cases h2 : x.text = y.text <;> simp [h0, h1, h2]
theorem below_al (m : Fact) (w : World) {w' : World} (h : ∃ n, w' = (w.alloc (.cells #[.int .i64 m.el, .string m.lang, .string m.text] 56)).drewN n) : Below w.heap.size w w' := ((Below.refl w.heap.size w).alloc (Nat.le_refl _) _).trans (below_of_drew _ h)
set_option maxHeartbeats 1000000 in
theorem findex_c (m : Fact) (xs : List Fact) (v : Value) (w : World) (F : Nat → Prop) (hF : ∀ b, F b → b < w.heap.size) (h : SlRep 3 (flat Fact.enc) w F xs v) :
    Calls Tryd.prog 51 #[v, .agg #[.int .i64 m.el, .string m.lang, .string m.text]] w fun e w' => e = .returned (.int .i64 (idxF (fun x => eqFact m x) xs)) ∧ Below w.heap.size w w' := by
  obtain ⟨A, c, rfl, hc1, hc2, _⟩ := id h
  have HF := Lib.hid (show idxF (fun x => eqFact m x) xs = idxG (fun x => eqFact m x) (xs.drop 0) 0 from rfl)
  go_enter Tryd.func51, Tryd.ntmps51
  go_wp2
  go_loopw [8] (fun i wr => ∃ k : Nat, k ≤ xs.length ∧ i = .int .i64 k ∧ Hid (idxF (fun x => eqFact m x) xs = idxG (fun x => eqFact m x) (xs.drop k) k) ∧ ∃ n, wr = (w.alloc (.cells #[.int .i64 m.el, .string m.lang, .string m.text] 56)).drewN n) (fun i _ => xs.length - (intOf i).toNat)
  case atStart => exact ⟨0, Nat.zero_le _, rfl, HF, 0, rfl⟩
  case round =>
    obtain ⟨k, hk, rfl, HS, nd, rfl⟩ := hrel
    clear HF
    by_cases hlt : k < xs.length
    · obtain ⟨x, hx⟩ := get_at xs hlt
      have HD := Lib.hid (drop_at hx)
      obtain ⟨b, off, rfl, hbB, g0, g1, g2⟩ := Facts.at_ h hx
      have hbw : b < w.heap.size := hF b hbB
      clear hx
      by_cases hxm : x = m
      · have he := fun W : World => Fact.eql m x W
        have hxe : eqFact m x = true := eqFact_iff.2 hxm.symm
        rw [hxe] at he
        have HX := Lib.hid hxe
        clear hxm hxe
        go_wp2
        go_quiet (fail)
        go_wp2
        go_ret
        exact ⟨ret_int (by rw [HS.out, HD.out]; simp [idxG, HX.out]), below_al m w ⟨_, World.drewN_drewN _ _ _⟩⟩
      · have he := fun W : World => Fact.eql m x W
        have hxe : eqFact m x = false := by rw [Bool.eq_false_iff]; exact fun h => hxm (eqFact_iff.1 h).symm
        rw [hxe] at he
        have HX := Lib.hid hxe
        clear hxm hxe
        go_wp2
        go_quiet (fail)
        go_wp2
        go_roundw
        case rel => exact ⟨k + 1, by omega, by go_num, by show _ = _; rw [HS.out, HD.out]; simp [idxG, HX.out], _, rfl⟩
        case measure => simp [intOf]; omega
    · go_wp2
      go_ret
      exact ⟨ret_int (by rw [HS.out, List.drop_of_length_le (by omega)]; rfl), below_al m w ⟨_, rfl⟩⟩
theorem fcontains_c (m : Fact) (xs : List Fact) (v : Value) (w : World) (F : Nat → Prop) (hF : ∀ b, F b → b < w.heap.size) (h : SlRep 3 (flat Fact.enc) w F xs v) :
    Calls Tryd.prog 26 #[v, .agg #[.int .i64 m.el, .string m.lang, .string m.text]] w fun e w' => e = .returned (.bool (xs.any fun x => eqFact m x)) ∧ Below w.heap.size w w' := by
  obtain ⟨A, c, rfl, hc1, hc2, _⟩ := id h
  have HE := Lib.hid (idx_any (fun x => eqFact m x) xs)
  go_enter Tryd.func26, Tryd.ntmps26
  go_wp2_with fail
  have b1 : Below w.heap.size w (w.alloc (.cells #[.int .i64 m.el, .string m.lang, .string m.text] 56)) := (Below.refl _ _).alloc (Nat.le_refl _) _
  refine (findex_c m xs _ (w.alloc (.cells #[.int .i64 m.el, .string m.lang, .string m.text] 56)) F (fun b hb => by have := hF b hb; simp; omega) (h.frame fctS (fun b hb => Below.heap_alloc _ _ _ (hF b hb)))).mono ?_
  rintro e w1 ⟨rfl, hb1⟩
  go_wp2
  go_ret
  exact ⟨ret_bool (by rw [← HE.out]), b1.trans (hb1.mono (by simp))⟩
end Go.Proofs.YtbmlnflacdockaaDoor
