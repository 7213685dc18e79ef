/- The reference of chapter 47: Has, letters, languages, before, in, Index. -/
import Derived.Test.YtbmlnflacdockaaGreatDoorPrA
import Derived.Test.YtbmlnflacdockaaGreatDoorPlA
import Derived.Test.YtbmlnflacdockaaGreatDoorPlC
namespace Go.Proofs.YtbmlnflacdockaaGreatDoor
open Go.RowKit

theorem rhas_c (l : List ByteArray) (s : ByteArray) (v : Value) (w : World) (F : Nat → Prop) (hF : ∀ b, F b → b < w.heap.size) (h : SlRep 1 (flat strEnc) w F l v) :
    Calls Tryz.prog 37 #[v, .string s] w fun e w' => e = .returned (.bool (hasS l s)) ∧ w = w' := by
  obtain ⟨A, c, rfl, hc1, hc2, _⟩ := id h
  have HE := Lib.hid (show hasS l s = (l.drop 0).any (fun x => decide (x = s)) from rfl)
  go_enter Tryz.func37, Tryz.ntmps37
  go_wp2
  go_loop [5] (fun i => ∃ k : Nat, k ≤ l.length ∧ i = .int .i64 k ∧ Hid (hasS l s = (l.drop k).any (fun x => decide (x = s)))) (fun i => l.length - (intOf i).toNat)
  case atStart => exact ⟨0, Nat.zero_le _, rfl, HE⟩
  case round =>
    clear HE
    obtain ⟨k, hk, rfl, HS⟩ := hrel
    by_cases hlt : k < l.length
    · obtain ⟨x, hx⟩ := get_at l hlt
      have HD := Lib.hid (drop_at hx)
      obtain ⟨b, off, rfl, hbB, g0⟩ := Strs.at_ h hx
      have hbw : b < w.heap.size := hF b hbB
      clear hx
      by_cases hxm : x = s
      · have he : x.toList = s.toList := by rw [hxm]
        have he2 : (x.toList == s.toList) = true := by simp [he]
        have HX := Lib.hid (show hasS l s = true by rw [HS.out, HD.out]; simp [hxm])
        clear hxm
        go_wp2
        go_ret
        exact ⟨ret_bool HX.out.symm, rfl⟩
      · have he : ¬ x.toList = s.toList := by rw [str_iff]; exact hxm
        have he2 : (x.toList == s.toList) = false := by simp [he]
        have HX := Lib.hid (show hasS l s = (l.drop (k + 1)).any (fun x => decide (x = s)) by rw [HS.out, HD.out]; simp [hxm])
        clear hxm
        go_wp2
        go_round
        case rel => exact ⟨k + 1, by omega, by go_num, HX⟩
        case measure => simp [intOf]; omega
    · have HX := Lib.hid (show hasS l s = false by rw [HS.out, List.drop_of_length_le (by omega)]; rfl)
      go_wp2
      go_ret
      exact ⟨ret_bool HX.out.symm, rfl⟩
theorem rin_c (l : List Int) (u : Int) (v : Value) (w : World) (F : Nat → Prop) (hF : ∀ b, F b → b < w.heap.size) (h : SlRep 1 (flat intEnc) w F l v) :
    Calls Tryz.prog 39 #[v, .int .i64 u] w fun e w' => e = .returned (.bool (inB l u)) ∧ w = w' := by
  obtain ⟨A, c, rfl, hc1, hc2, _⟩ := id h
  have HE := Lib.hid (show inB l u = (l.drop 0).any (fun x => decide (x = u)) from rfl)
  go_enter Tryz.func39, Tryz.ntmps39
  go_wp2
  go_loop [5] (fun i => ∃ k : Nat, k ≤ l.length ∧ i = .int .i64 k ∧ Hid (inB l u = (l.drop k).any (fun x => decide (x = u)))) (fun i => l.length - (intOf i).toNat)
  case atStart => exact ⟨0, Nat.zero_le _, rfl, HE⟩
  case round =>
    clear HE
    obtain ⟨k, hk, rfl, HS⟩ := hrel
    by_cases hlt : k < l.length
    · obtain ⟨x, hx⟩ := get_at l hlt
      have HD := Lib.hid (drop_at hx)
      obtain ⟨b, off, rfl, hbB, g0⟩ := Ints.at_ h hx
      have hbw : b < w.heap.size := hF b hbB
      clear hx
      by_cases hxm : x = u
      · have he2 : (x == u) = true := by simp [hxm]
        have HX := Lib.hid (show inB l u = true by rw [HS.out, HD.out]; simp [hxm])
        clear hxm
        go_wp2
        go_ret
        exact ⟨ret_bool HX.out.symm, rfl⟩
      · have he2 : (x == u) = false := by simp [hxm]
        have HX := Lib.hid (show inB l u = (l.drop (k + 1)).any (fun x => decide (x = u)) by rw [HS.out, HD.out]; simp [hxm])
        clear hxm
        go_wp2
        go_round
        case rel => exact ⟨k + 1, by omega, by go_num, HX⟩
        case measure => simp [intOf]; omega
    · have HX := Lib.hid (show inB l u = false by rw [HS.out, List.drop_of_length_le (by omega)]; rfl)
      go_wp2
      go_ret
      exact ⟨ret_bool HX.out.symm, rfl⟩
theorem rletters_c (s : ByteArray) (w : World) : Calls Tryz.prog 79 #[.string s] w fun e w' => e = .returned (.bool (letB s)) ∧ w = w' := by
  by_cases hs : s.size = 2
  · obtain ⟨a, b, rfl⟩ : ∃ a b : UInt8, s = ⟨#[a, b]⟩ := by
      obtain ⟨⟨l⟩⟩ := s
      match l, hs with
      | [a, b], _ => exact ⟨a, b, rfl⟩
    clear hs
    have e0 : (⟨#[a, b]⟩ : ByteArray)[0]'(Nat.zero_lt_succ 1) = a := rfl
    have e1 : (⟨#[a, b]⟩ : ByteArray)[1]'(Nat.lt_succ_self 1) = b := rfl
    have HE := Lib.hid (show letB ⟨#[a, b]⟩ = (decide (97 ≤ a.toNat) && decide (a.toNat ≤ 122) && decide (97 ≤ b.toNat) && decide (b.toNat ≤ 122)) from rfl)
    go_enter Tryz.func79, Tryz.ntmps79
    go_wp2
    all_goals
      go_ret
      refine ⟨ret_bool ?_, rfl⟩
      rw [HE.out]
      simp only [e0, e1] at *
      rw [Bool.eq_iff_iff]
      simp only [Bool.and_eq_true, decide_eq_true_eq, Bool.false_eq_true, false_iff]
      omega
  · have HE := Lib.hid (show letB s = false by
      obtain ⟨⟨l⟩⟩ := s
      match l, hs with
      | [], _ => rfl
      | [_], _ => rfl
      | _ :: _ :: _ :: _, _ => rfl)
    have h2 : ((s.size : Int) == 2) = false := by simp; omega
    clear hs
    go_enter Tryz.func79, Tryz.ntmps79
    go_wp2
    go_ret
    exact ⟨ret_bool HE.out.symm, rfl⟩
theorem rbefore_c (e : Int) (s : ByteArray) (f : Int) (t : ByteArray) (w : World) : Calls Tryz.prog 80 #[.int .i64 e, .string s, .int .i64 f, .string t] w fun r w' => r = .returned (.bool (bfB e s f t)) ∧ w = w' := by
  by_cases h1 : e < f
  · have d1 : decide (e < f) = true := decide_eq_true h1
    have HE := Lib.hid (show bfB e s f t = true by unfold bfB; rw [d1]; rfl)
    clear h1
    go_enter Tryz.func80, Tryz.ntmps80
    go_wp2
    go_ret
    exact ⟨ret_bool HE.out.symm, rfl⟩
  · have d1 : decide (e < f) = false := decide_eq_false h1
    by_cases h2 : e = f
    · have d2 : (e == f) = true := by simp [h2]
      have HE := Lib.hid (show bfB e s f t = Op.bytesLess s.toList t.toList by unfold bfB; rw [d1, decide_eq_true h2]; rfl)
      clear h1 h2
      go_enter Tryz.func80, Tryz.ntmps80
      go_wp2
      all_goals
        go_ret
        exact ⟨ret_bool (by rw [HE.out]), rfl⟩
    · have d2 : (e == f) = false := by simp [h2]
      have HE := Lib.hid (show bfB e s f t = false by unfold bfB; rw [d1, decide_eq_false h2]; rfl)
      clear h1 h2
      go_enter Tryz.func80, Tryz.ntmps80
      go_wp2
      go_ret
      exact ⟨ret_bool HE.out.symm, rfl⟩
set_option maxHeartbeats 2000000 in
theorem rlanguages_c (xs : List ByteArray) (v : Value) (w : World) (F : Nat → Prop) (hF : ∀ b, F b → b < w.heap.size) (h : SlRep 1 (flat strEnc) w F xs v) :
    Calls Tryz.prog 46 #[v] w fun e w' => e = .returned (.int .i64 (langE xs)) ∧ Below w.heap.size w w' := by
  obtain ⟨A, ca, rfl, hc1, hc2, _⟩ := id h
  by_cases hs : xs.length < 1
  · have HE := Lib.hid (show langE xs = 2 by unfold langE; rw [if_pos (.inl hs)])
    have hd1 : decide ((xs.length : Int) < 1) = true := by simp; omega
    clear hs
    go_enter Tryz.func46, Tryz.ntmps46
    go_wp2
    go_ret
    exact ⟨ret_int HE.out.symm, Below.refl _ _⟩
  · have hd1 : decide ((xs.length : Int) < 1) = false := by simp; omega
    by_cases hs8 : 8 < xs.length
    · have HE := Lib.hid (show langE xs = 2 by unfold langE; rw [if_pos (.inr hs8)])
      have hd2 : decide ((8 : Int) < (xs.length : Int)) = true := by simp; omega
      clear hs hs8
      go_enter Tryz.func46, Tryz.ntmps46
      go_wp2
      go_ret
      exact ⟨ret_int HE.out.symm, Below.refl _ _⟩
    · have HE := Lib.hid (show langE xs = langG (xs.take 0) (xs.drop 0) by unfold langE; rw [if_neg (by omega)]; simp)
      have hd2 : decide ((8 : Int) < (xs.length : Int)) = false := by simp; omega
      clear hs
      go_enter Tryz.func46, Tryz.ntmps46
      go_wp2
      go_loopw [3] (fun i wr => ∃ k : Nat, k ≤ xs.length ∧ i = .int .i64 k ∧ Hid (langE xs = langG (xs.take k) (xs.drop k)) ∧ ∃ n, wr = w.drewN n) (fun i _ => xs.length - (intOf i).toNat)
      case atStart => exact ⟨0, Nat.zero_le _, rfl, HE, 0, rfl⟩
      case round =>
        clear HE
        obtain ⟨k, hk, rfl, HS, nd, rfl⟩ := hrel
        have hb : Below w.heap.size w (w.drewN nd) := below_of_drew _ ⟨nd, rfl⟩
        by_cases hlt : k < xs.length
        · obtain ⟨x, hx⟩ := get_at xs hlt
          have HD := Lib.hid (drop_at hx)
          have HT := Lib.hid (take_at hx)
          obtain ⟨b, off, rfl, hbB, g0⟩ := Strs.at_ h hx
          have hbw : b < w.heap.size := hF b hbB
          have HTW := Lib.hid (rletters_c x)
          have HC := Lib.hid (fun (W : World) (hW : W.heap = w.heap) => rhas_c (xs.take k) x (.slice (some ⟨b, off, none⟩) k ca) W F (fun b hb => by rw [hW]; exact hF b hb) ((h.take_ hk).frame strS (fun _ _ => by rw [hW])))
          have hki : (k : Int) ≤ (xs.length : Int) := by omega
          have hkc : (k : Int) ≤ (ca : Int) := by omega
          clear hx
          cases hl : letB x
          · have HE := Lib.hid (show langE xs = 4 by rw [HS.out, HD.out, langG_cons, if_pos hl])
            rw [hl] at HTW
            clear hl
            go_wp2_with fail
            refine (HTW.out _).mono ?_
            rintro e w1 ⟨rfl, rfl⟩
            go_wp2
            go_ret
            exact ⟨ret_int HE.out.symm, hb⟩
          · rw [hl] at HTW
            cases hh : hasS (xs.take k) x
            · have HE := Lib.hid (show langE xs = langG (xs.take (k + 1)) (xs.drop (k + 1)) by rw [HS.out, HD.out, langG_cons, if_neg (by simp [hl]), if_neg (by simp [hh]), HT.out])
              rw [hh] at HC
              clear hl hh
              go_wp2_with fail
              refine (HTW.out _).mono ?_
              rintro e w1 ⟨rfl, rfl⟩
              go_wp2
              go_quiet ((go_at_call 37; refine (HC.out _ (by simp)).mono ?_; rintro e w1 ⟨rfl, rfl⟩; exact ⟨rfl, _, rfl⟩))
              go_wp2
              go_roundw
              case rel => exact ⟨k + 1, by omega, by go_num, HE, _, rfl⟩
              case measure => simp [intOf]; omega
            · have HE := Lib.hid (show langE xs = 6 by rw [HS.out, HD.out, langG_cons, if_neg (by simp [hl]), if_pos hh])
              rw [hh] at HC
              clear hl hh
              go_wp2_with fail
              refine (HTW.out _).mono ?_
              rintro e w1 ⟨rfl, rfl⟩
              go_wp2
              go_quiet ((go_at_call 37; refine (HC.out _ (by simp)).mono ?_; rintro e w1 ⟨rfl, rfl⟩; exact ⟨rfl, _, rfl⟩))
              go_wp2
              go_ret
              exact ⟨ret_int HE.out.symm, below_of_drew _ ⟨_, World.drewN_drewN _ _ _⟩⟩
        · have HE := Lib.hid (show langE xs = 0 by rw [HS.out, List.drop_of_length_le (by omega)]; rfl)
          go_wp2
          go_ret
          exact ⟨ret_int HE.out.symm, hb⟩
set_option maxHeartbeats 1000000 in
theorem rindex_c (c : Cat) (n : Nat) (u : Int) (v1 v2 v3 : Value) (w : World) (B : Nat) (hB : B ≤ w.heap.size) (h : Sheets w B c.sheets v3) (hn : n ≤ c.sheets.length) :
    Calls Tryz.prog 38 #[.agg #[v1, v2, v3], .int .i64 n, .int .i64 u] w fun e w' => e = .returned (.int .i64 (shtIx (c.sheets.take n) u)) ∧ Below w.heap.size w w' := by
  have b1 : Below w.heap.size w (w.alloc (catC v1 v2 v3)) := (Below.refl _ _).alloc (Nat.le_refl _) _
  have h1 := h.below shtS (b1.mono hB)
  obtain ⟨A, ca, rfl, hc1, hc2, _⟩ := id h1
  have HE := Lib.hid (show shtIx (c.sheets.take n) u = idxG (fun s => decide (s.unit = u)) ((c.sheets.take n).drop 0) 0 from rfl)
  have hnl : (c.sheets.take n).length = n := by rw [List.length_take]; omega
  have HNL := Lib.hid hnl
  clear hnl
  go_enter Tryz.func38, Tryz.ntmps38
  go_wp2
  go_loop [7] (fun i => ∃ k : Nat, k ≤ n ∧ i = .int .i64 k ∧ Hid (shtIx (c.sheets.take n) u = idxG (fun s => decide (s.unit = u)) ((c.sheets.take n).drop k) k)) (fun i => n - (intOf i).toNat)
  case atStart => exact ⟨0, Nat.zero_le _, rfl, HE⟩
  case round =>
    clear HE
    obtain ⟨k, hk, rfl, HS⟩ := hrel
    by_cases hlt : k < n
    · obtain ⟨x, hx⟩ := get_at c.sheets (show k < c.sheets.length by omega)
      have HD := Lib.hid (drop_at (show (c.sheets.take n)[k]? = some x by rw [List.getElem?_take, if_pos hlt]; exact hx))
      obtain ⟨b, off, vf, rfl, hbB, g0, g1, g2, g3, g4, g5, hvf⟩ := Sheets.at_ h1 hx
      have hbw : b < (w.alloc (catC v1 v2 (.slice (some ⟨b, off, none⟩) c.sheets.length ca))).heap.size := by have : b < B := hbB; simp; omega
      have hkl : (k : Int) < (c.sheets.length : Int) := by omega
      clear hx g1 g2 g3 g4 g5
      by_cases hxm : x.unit = u
      · have he2 : (x.unit == u) = true := by simp [hxm]
        have HX := Lib.hid (show shtIx (c.sheets.take n) u = k by rw [HS.out, HD.out]; simp [idxG, hxm])
        clear hxm
        go_wp2
        go_ret
        exact ⟨ret_int HX.out.symm, b1⟩
      · have he2 : (x.unit == u) = false := by simp [hxm]
        have HX := Lib.hid (show shtIx (c.sheets.take n) u = idxG (fun s => decide (s.unit = u)) ((c.sheets.take n).drop (k + 1)) (k + 1) by rw [HS.out, HD.out]; simp [idxG, hxm])
        clear hxm
        go_wp2
        go_round
        case rel => exact ⟨k + 1, by omega, by go_num, HX⟩
        case measure => simp [intOf]; omega
    · have HX := Lib.hid (show shtIx (c.sheets.take n) u = -1 by rw [HS.out, List.drop_of_length_le (by have := HNL.out; omega)]; rfl)
      go_wp2
      go_ret
      exact ⟨ret_int HX.out.symm, b1⟩
end Go.Proofs.YtbmlnflacdockaaGreatDoor
