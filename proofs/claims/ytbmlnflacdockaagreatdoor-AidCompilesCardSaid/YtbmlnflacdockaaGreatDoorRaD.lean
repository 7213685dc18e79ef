/- The reference of chapter 47: right, prefer, Prefer; the program's Prefer; slices.Equal on strings. -/
import Derived.Test.YtbmlnflacdockaaGreatDoorPrA
import Derived.Test.YtbmlnflacdockaaGreatDoorPlA
import Derived.Test.YtbmlnflacdockaaGreatDoorPlC
import Derived.Test.YtbmlnflacdockaaGreatDoorGenB
import Derived.Test.YtbmlnflacdockaaGreatDoorPrC
import Derived.Test.YtbmlnflacdockaaGreatDoorPrI
namespace Go.Proofs.YtbmlnflacdockaaGreatDoor
open Go.RowKit

theorem rhas_c (l : List ByteArray) (s : ByteArray) (v : Value) (w : World) (F : Nat → Prop) (hF : ∀ b, F b → b < w.heap.size) (h : SlRep 1 (flat strEnc) w F l v) :
    Calls Tryz.prog 37 #[v, .string s] w fun e w' => e = .returned (.bool (hasS l s)) ∧ w = w' := by
  obtain ⟨A, c, rfl, hc1, hc2, _⟩ := id h
  have HE := Lib.hid (show hasS l s = (l.drop 0).any (fun x => decide (x = s)) from rfl)
  go_enter Tryz.func37, Tryz.ntmps37
  go_wp2
  go_loop [5] (fun i => ∃ k : Nat, k ≤ l.length ∧ i = .int .i64 k ∧ Hid (hasS l s = (l.drop k).any (fun x => decide (x = s)))) (fun i => l.length - (intOf i).toNat)
  case atStart => exact ⟨0, Nat.zero_le _, rfl, HE⟩
  case round =>
    clear HE
    obtain ⟨k, hk, rfl, HS⟩ := hrel
    by_cases hlt : k < l.length
    · obtain ⟨x, hx⟩ := get_at l hlt
      have HD := Lib.hid (drop_at hx)
      obtain ⟨b, off, rfl, hbB, g0⟩ := Strs.at_ h hx
      have hbw : b < w.heap.size := hF b hbB
      clear hx
      by_cases hxm : x = s
      · have he : x.toList = s.toList := by rw [hxm]
        have he2 : (x.toList == s.toList) = true := by simp [he]
        have HX := Lib.hid (show hasS l s = true by rw [HS.out, HD.out]; simp [hxm])
        clear hxm
        go_wp2
        go_ret
        exact ⟨ret_bool HX.out.symm, rfl⟩
      · have he : ¬ x.toList = s.toList := by rw [str_iff]; exact hxm
        have he2 : (x.toList == s.toList) = false := by simp [he]
        have HX := Lib.hid (show hasS l s = (l.drop (k + 1)).any (fun x => decide (x = s)) by rw [HS.out, HD.out]; simp [hxm])
        clear hxm
        go_wp2
        go_round
        case rel => exact ⟨k + 1, by omega, by go_num, HX⟩
        case measure => simp [intOf]; omega
    · have HX := Lib.hid (show hasS l s = false by rw [HS.out, List.drop_of_length_le (by omega)]; rfl)
      go_wp2
      go_ret
      exact ⟨ret_bool HX.out.symm, rfl⟩
theorem rin_c (l : List Int) (u : Int) (v : Value) (w : World) (F : Nat → Prop) (hF : ∀ b, F b → b < w.heap.size) (h : SlRep 1 (flat intEnc) w F l v) :
    Calls Tryz.prog 39 #[v, .int .i64 u] w fun e w' => e = .returned (.bool (inB l u)) ∧ w = w' := by
  obtain ⟨A, c, rfl, hc1, hc2, _⟩ := id h
  have HE := Lib.hid (show inB l u = (l.drop 0).any (fun x => decide (x = u)) from rfl)
  go_enter Tryz.func39, Tryz.ntmps39
  go_wp2
  go_loop [5] (fun i => ∃ k : Nat, k ≤ l.length ∧ i = .int .i64 k ∧ Hid (inB l u = (l.drop k).any (fun x => decide (x = u)))) (fun i => l.length - (intOf i).toNat)
  case atStart => exact ⟨0, Nat.zero_le _, rfl, HE⟩
  case round =>
    clear HE
    obtain ⟨k, hk, rfl, HS⟩ := hrel
    by_cases hlt : k < l.length
    · obtain ⟨x, hx⟩ := get_at l hlt
      have HD := Lib.hid (drop_at hx)
      obtain ⟨b, off, rfl, hbB, g0⟩ := Ints.at_ h hx
      have hbw : b < w.heap.size := hF b hbB
      clear hx
      by_cases hxm : x = u
      · have he2 : (x == u) = true := by simp [hxm]
        have HX := Lib.hid (show inB l u = true by rw [HS.out, HD.out]; simp [hxm])
        clear hxm
        go_wp2
        go_ret
        exact ⟨ret_bool HX.out.symm, rfl⟩
      · have he2 : (x == u) = false := by simp [hxm]
        have HX := Lib.hid (show inB l u = (l.drop (k + 1)).any (fun x => decide (x = u)) by rw [HS.out, HD.out]; simp [hxm])
        clear hxm
        go_wp2
        go_round
        case rel => exact ⟨k + 1, by omega, by go_num, HX⟩
        case measure => simp [intOf]; omega
    · have HX := Lib.hid (show inB l u = false by rw [HS.out, List.drop_of_length_le (by omega)]; rfl)
      go_wp2
      go_ret
      exact ⟨ret_bool HX.out.symm, rfl⟩
theorem rletters_c (s : ByteArray) (w : World) : Calls Tryz.prog 79 #[.string s] w fun e w' => e = .returned (.bool (letB s)) ∧ w = w' := by
  by_cases hs : s.size = 2
  · obtain ⟨a, b, rfl⟩ : ∃ a b : UInt8, s = ⟨#[a, b]⟩ := by
      obtain ⟨⟨l⟩⟩ := s
      match l, hs with
      | [a, b], _ => exact ⟨a, b, rfl⟩
    clear hs
    have e0 : (⟨#[a, b]⟩ : ByteArray)[0]'(Nat.zero_lt_succ 1) = a := rfl
    have e1 : (⟨#[a, b]⟩ : ByteArray)[1]'(Nat.lt_succ_self 1) = b := rfl
    have HE := Lib.hid (show letB ⟨#[a, b]⟩ = (decide (97 ≤ a.toNat) && decide (a.toNat ≤ 122) && decide (97 ≤ b.toNat) && decide (b.toNat ≤ 122)) from rfl)
    go_enter Tryz.func79, Tryz.ntmps79
    go_wp2
    all_goals
      go_ret
      refine ⟨ret_bool ?_, rfl⟩
      rw [HE.out]
      simp only [e0, e1] at *
      rw [Bool.eq_iff_iff]
      simp only [Bool.and_eq_true, decide_eq_true_eq, Bool.false_eq_true, false_iff]
      omega
  · have HE := Lib.hid (show letB s = false by
      obtain ⟨⟨l⟩⟩ := s
      match l, hs with
      | [], _ => rfl
      | [_], _ => rfl
      | _ :: _ :: _ :: _, _ => rfl)
    have h2 : ((s.size : Int) == 2) = false := by simp; omega
    clear hs
    go_enter Tryz.func79, Tryz.ntmps79
    go_wp2
    go_ret
    exact ⟨ret_bool HE.out.symm, rfl⟩
theorem rbefore_c (e : Int) (s : ByteArray) (f : Int) (t : ByteArray) (w : World) : Calls Tryz.prog 80 #[.int .i64 e, .string s, .int .i64 f, .string t] w fun r w' => r = .returned (.bool (bfB e s f t)) ∧ w = w' := by
  by_cases h1 : e < f
  · have d1 : decide (e < f) = true := decide_eq_true h1
    have HE := Lib.hid (show bfB e s f t = true by unfold bfB; rw [d1]; rfl)
    clear h1
    go_enter Tryz.func80, Tryz.ntmps80
    go_wp2
    go_ret
    exact ⟨ret_bool HE.out.symm, rfl⟩
  · have d1 : decide (e < f) = false := decide_eq_false h1
    by_cases h2 : e = f
    · have d2 : (e == f) = true := by simp [h2]
      have HE := Lib.hid (show bfB e s f t = Op.bytesLess s.toList t.toList by unfold bfB; rw [d1, decide_eq_true h2]; rfl)
      clear h1 h2
      go_enter Tryz.func80, Tryz.ntmps80
      go_wp2
      all_goals
        go_ret
        exact ⟨ret_bool (by rw [HE.out]), rfl⟩
    · have d2 : (e == f) = false := by simp [h2]
      have HE := Lib.hid (show bfB e s f t = false by unfold bfB; rw [d1, decide_eq_false h2]; rfl)
      clear h1 h2
      go_enter Tryz.func80, Tryz.ntmps80
      go_wp2
      go_ret
      exact ⟨ret_bool HE.out.symm, rfl⟩
set_option maxHeartbeats 2000000 in
theorem rlanguages_c (xs : List ByteArray) (v : Value) (w : World) (F : Nat → Prop) (hF : ∀ b, F b → b < w.heap.size) (h : SlRep 1 (flat strEnc) w F xs v) :
    Calls Tryz.prog 46 #[v] w fun e w' => e = .returned (.int .i64 (langE xs)) ∧ Below w.heap.size w w' := by
  obtain ⟨A, ca, rfl, hc1, hc2, _⟩ := id h
  by_cases hs : xs.length < 1
  · have HE := Lib.hid (show langE xs = 2 by unfold langE; rw [if_pos (.inl hs)])
    have hd1 : decide ((xs.length : Int) < 1) = true := by simp; omega
    clear hs
    go_enter Tryz.func46, Tryz.ntmps46
    go_wp2
    go_ret
    exact ⟨ret_int HE.out.symm, Below.refl _ _⟩
  · have hd1 : decide ((xs.length : Int) < 1) = false := by simp; omega
    by_cases hs8 : 8 < xs.length
    · have HE := Lib.hid (show langE xs = 2 by unfold langE; rw [if_pos (.inr hs8)])
      have hd2 : decide ((8 : Int) < (xs.length : Int)) = true := by simp; omega
      clear hs hs8
      go_enter Tryz.func46, Tryz.ntmps46
      go_wp2
      go_ret
      exact ⟨ret_int HE.out.symm, Below.refl _ _⟩
    · have HE := Lib.hid (show langE xs = langG (xs.take 0) (xs.drop 0) by unfold langE; rw [if_neg (by omega)]; simp)
      have hd2 : decide ((8 : Int) < (xs.length : Int)) = false := by simp; omega
      clear hs
      go_enter Tryz.func46, Tryz.ntmps46
      go_wp2
      go_loopw [3] (fun i wr => ∃ k : Nat, k ≤ xs.length ∧ i = .int .i64 k ∧ Hid (langE xs = langG (xs.take k) (xs.drop k)) ∧ ∃ n, wr = w.drewN n) (fun i _ => xs.length - (intOf i).toNat)
      case atStart => exact ⟨0, Nat.zero_le _, rfl, HE, 0, rfl⟩
      case round =>
        clear HE
        obtain ⟨k, hk, rfl, HS, nd, rfl⟩ := hrel
        have hb : Below w.heap.size w (w.drewN nd) := below_of_drew _ ⟨nd, rfl⟩
        by_cases hlt : k < xs.length
        · obtain ⟨x, hx⟩ := get_at xs hlt
          have HD := Lib.hid (drop_at hx)
          have HT := Lib.hid (take_at hx)
          obtain ⟨b, off, rfl, hbB, g0⟩ := Strs.at_ h hx
          have hbw : b < w.heap.size := hF b hbB
          have HTW := Lib.hid (rletters_c x)
          have HC := Lib.hid (fun (W : World) (hW : W.heap = w.heap) => rhas_c (xs.take k) x (.slice (some ⟨b, off, none⟩) k ca) W F (fun b hb => by rw [hW]; exact hF b hb) ((h.take_ hk).frame strS (fun _ _ => by rw [hW])))
          have hki : (k : Int) ≤ (xs.length : Int) := by omega
          have hkc : (k : Int) ≤ (ca : Int) := by omega
          clear hx
          cases hl : letB x
          · have HE := Lib.hid (show langE xs = 4 by rw [HS.out, HD.out, langG_cons, if_pos hl])
            rw [hl] at HTW
            clear hl
            go_wp2_with fail
            refine (HTW.out _).mono ?_
            rintro e w1 ⟨rfl, rfl⟩
            go_wp2
            go_ret
            exact ⟨ret_int HE.out.symm, hb⟩
          · rw [hl] at HTW
            cases hh : hasS (xs.take k) x
            · have HE := Lib.hid (show langE xs = langG (xs.take (k + 1)) (xs.drop (k + 1)) by rw [HS.out, HD.out, langG_cons, if_neg (by simp [hl]), if_neg (by simp [hh]), HT.out])
              rw [hh] at HC
              clear hl hh
              go_wp2_with fail
              refine (HTW.out _).mono ?_
              rintro e w1 ⟨rfl, rfl⟩
              go_wp2
              go_quiet ((go_at_call 37; refine (HC.out _ (by simp)).mono ?_; rintro e w1 ⟨rfl, rfl⟩; exact ⟨rfl, _, rfl⟩))
              go_wp2
              go_roundw
              case rel => exact ⟨k + 1, by omega, by go_num, HE, _, rfl⟩
              case measure => simp [intOf]; omega
            · have HE := Lib.hid (show langE xs = 6 by rw [HS.out, HD.out, langG_cons, if_neg (by simp [hl]), if_pos hh])
              rw [hh] at HC
              clear hl hh
              go_wp2_with fail
              refine (HTW.out _).mono ?_
              rintro e w1 ⟨rfl, rfl⟩
              go_wp2
              go_quiet ((go_at_call 37; refine (HC.out _ (by simp)).mono ?_; rintro e w1 ⟨rfl, rfl⟩; exact ⟨rfl, _, rfl⟩))
              go_wp2
              go_ret
              exact ⟨ret_int HE.out.symm, below_of_drew _ ⟨_, World.drewN_drewN _ _ _⟩⟩
        · have HE := Lib.hid (show langE xs = 0 by rw [HS.out, List.drop_of_length_le (by omega)]; rfl)
          go_wp2
          go_ret
          exact ⟨ret_int HE.out.symm, hb⟩
set_option maxHeartbeats 1000000 in
theorem rindex_c (c : Cat) (n : Nat) (u : Int) (v1 v2 v3 : Value) (w : World) (B : Nat) (hB : B ≤ w.heap.size) (h : Sheets w B c.sheets v3) (hn : n ≤ c.sheets.length) :
    Calls Tryz.prog 38 #[.agg #[v1, v2, v3], .int .i64 n, .int .i64 u] w fun e w' => e = .returned (.int .i64 (shtIx (c.sheets.take n) u)) ∧ Below w.heap.size w w' := by
  have b1 : Below w.heap.size w (w.alloc (catC v1 v2 v3)) := (Below.refl _ _).alloc (Nat.le_refl _) _
  have h1 := h.below shtS (b1.mono hB)
  obtain ⟨A, ca, rfl, hc1, hc2, _⟩ := id h1
  have HE := Lib.hid (show shtIx (c.sheets.take n) u = idxG (fun s => decide (s.unit = u)) ((c.sheets.take n).drop 0) 0 from rfl)
  have hnl : (c.sheets.take n).length = n := by rw [List.length_take]; omega
  have HNL := Lib.hid hnl
  clear hnl
  go_enter Tryz.func38, Tryz.ntmps38
  go_wp2
  go_loop [7] (fun i => ∃ k : Nat, k ≤ n ∧ i = .int .i64 k ∧ Hid (shtIx (c.sheets.take n) u = idxG (fun s => decide (s.unit = u)) ((c.sheets.take n).drop k) k)) (fun i => n - (intOf i).toNat)
  case atStart => exact ⟨0, Nat.zero_le _, rfl, HE⟩
  case round =>
    clear HE
    obtain ⟨k, hk, rfl, HS⟩ := hrel
    by_cases hlt : k < n
    · obtain ⟨x, hx⟩ := get_at c.sheets (show k < c.sheets.length by omega)
      have HD := Lib.hid (drop_at (show (c.sheets.take n)[k]? = some x by rw [List.getElem?_take, if_pos hlt]; exact hx))
      obtain ⟨b, off, vf, rfl, hbB, g0, g1, g2, g3, g4, g5, hvf⟩ := Sheets.at_ h1 hx
      have hbw : b < (w.alloc (catC v1 v2 (.slice (some ⟨b, off, none⟩) c.sheets.length ca))).heap.size := by have : b < B := hbB; simp; omega
      have hkl : (k : Int) < (c.sheets.length : Int) := by omega
      clear hx g1 g2 g3 g4 g5
      by_cases hxm : x.unit = u
      · have he2 : (x.unit == u) = true := by simp [hxm]
        have HX := Lib.hid (show shtIx (c.sheets.take n) u = k by rw [HS.out, HD.out]; simp [idxG, hxm])
        clear hxm
        go_wp2
        go_ret
        exact ⟨ret_int HX.out.symm, b1⟩
      · have he2 : (x.unit == u) = false := by simp [hxm]
        have HX := Lib.hid (show shtIx (c.sheets.take n) u = idxG (fun s => decide (s.unit = u)) ((c.sheets.take n).drop (k + 1)) (k + 1) by rw [HS.out, HD.out]; simp [idxG, hxm])
        clear hxm
        go_wp2
        go_round
        case rel => exact ⟨k + 1, by omega, by go_num, HX⟩
        case measure => simp [intOf]; omega
    · have HX := Lib.hid (show shtIx (c.sheets.take n) u = -1 by rw [HS.out, List.drop_of_length_le (by have := HNL.out; omega)]; rfl)
      go_wp2
      go_ret
      exact ⟨ret_int HX.out.symm, b1⟩
open Go.RowKit

set_option maxRecDepth 100000 in
set_option maxHeartbeats 8000000 in
theorem rlabels_c (c : Cat) (v1 v2 v3 : Value) (w : World) (B : Nat) (hB : B ≤ w.heap.size) (h : CatRep w B c v1 v2 v3) :
    Calls Tryz.prog 47 #[.agg #[v1, v2, v3]] w fun e w' => e = .returned (.int .i64 (labE c.langs c.labels)) ∧ Below w.heap.size w w' := by
  have b1 : Below w.heap.size w (w.alloc (catC v1 v2 v3)) := (Below.refl _ _).alloc (Nat.le_refl _) _
  have KC := Lib.hid (fun (W : World) (hW : Below (w.heap.size + 1) (w.alloc (catC v1 v2 v3)) W) => (⟨(hW.cell (p := ⟨w.heap.size, 0, none⟩) (by simp)).trans (by simp), (hW.cell (p := ⟨w.heap.size, 1, none⟩) (by simp)).trans (by simp), by have := hW.size; simp at this; omega⟩ : W.cell? ⟨w.heap.size, 0, none⟩ = some v1 ∧ W.cell? ⟨w.heap.size, 1, none⟩ = some v2 ∧ w.heap.size < W.heap.size))
  have hL := h.langs
  have hX := h.labels
  clear h
  obtain ⟨A1, ca1, rfl, -⟩ := id hL
  obtain ⟨A, ca, rfl, hc1, hc2, _⟩ := id hX
  generalize c.labels = xs at *
  generalize c.langs = ls at *
  by_cases hs : 256 < xs.length
  · have HE := Lib.hid (show labE ls xs = 8 by unfold labE; rw [if_pos hs])
    have hd1 : decide ((256 : Int) < (xs.length : Int)) = true := by simp; omega
    clear hs
    go_enter Tryz.func47, Tryz.ntmps47
    go_wp2
    go_ret
    exact ⟨ret_int HE.out.symm, b1⟩
  · have HE := Lib.hid (show labE ls xs = labG ls (prevO xs 0) (xs.drop 0) by unfold labE; rw [if_neg hs]; rfl)
    have hd1 : decide ((256 : Int) < (xs.length : Int)) = false := by simp; omega
    clear hs
    go_enter Tryz.func47, Tryz.ntmps47
    go_wp2
    go_loopw [3] (fun i wr => ∃ k : Nat, k ≤ xs.length ∧ i = .int .i64 k ∧ Hid (labE ls xs = labG ls (prevO xs k) (xs.drop k)) ∧ Below (w.heap.size + 1) (w.alloc (catC (.slice A1 ls.length ca1) (.slice A xs.length ca) v3)) wr) (fun i _ => xs.length - (intOf i).toNat)
    case atStart => exact ⟨0, Nat.zero_le _, rfl, HE, Below.refl _ _⟩
    case round =>
      clear HE
      obtain ⟨k, hk, rfl, HS, hb⟩ := hrel
      obtain ⟨z0, z1, zl⟩ := KC.out wr hb
      have Br := b1.trans (hb.mono (by omega))
      have hsr := Br.size
      by_cases hlt : k < xs.length
      · obtain ⟨x, hx⟩ := get_at xs hlt
        have HD := Lib.hid (drop_at hx)
        have HPV := Lib.hid (prevO_succ hx)
        obtain ⟨b, off, rfl, hbB, g0, g1, g2, g3⟩ := Labels.at_ (hX.below labS (Br.mono hB)) hx
        have hbw : b < wr.heap.size := by omega
        have bx := (Below.refl wr.heap.size wr).alloc (Nat.le_refl _) (labC x)
        have HC := Lib.hid (rhas_c ls x.lang (.slice A1 ls.length ca1) (wr.alloc (labC x)) (fun b => b < B) (fun b hb => by have : b < B := hb; simp; omega) (hL.below strS ((Br.trans (bx.mono hsr)).mono hB)))
        have hbX := hb.trans (bx.mono (by have := hb.size; simp at this; omega))
        have HLF := Lib.hid (show labE ls xs = if labF ls (prevO xs k) x = 0 then labG ls (some x) (xs.drop (k + 1)) else labF ls (prevO xs k) x by rw [HS.out, HD.out, labG_cons])
        have hkl : (k : Int) < (xs.length : Int) := by omega
        clear hx
        by_cases c1 : x.el < 1 ∨ 64 < x.el ∨ x.idx < 0 ∨ 3 < x.idx
        · have HE := Lib.hid (show labE ls xs = 2 by rw [HLF.out, show labF ls (prevO xs k) x = 2 by unfold labF; rw [if_pos c1]]; rfl)
          have HC1 := Lib.hid c1
          clear c1 HC
          go_wp2_with fail
          all_goals first
            | (go_ret; exact ⟨ret_int HE.out.symm, b1.trans (hbX.mono (by omega))⟩)
            | (exfalso; have := HC1.out; omega)
        · have d1 : decide (x.el < 1) = false := by simp; omega
          have d2 : decide ((64 : Int) < x.el) = false := by simp; omega
          have d3 : decide (x.idx < 0) = false := by simp; omega
          have d4 : decide ((3 : Int) < x.idx) = false := by simp; omega
          have HF1 := Lib.hid (show labF ls (prevO xs k) x = if hasS ls x.lang = false then 7 else if x.text.size < 1 ∨ 64 < x.text.size then 4 else labT (prevO xs k) x by unfold labF; rw [if_neg c1])
          clear c1
          cases hh : hasS ls x.lang
          · have HE := Lib.hid (show labE ls xs = 7 by rw [HLF.out, show labF ls (prevO xs k) x = 7 by rw [HF1.out, if_pos hh]]; rfl)
            rw [hh] at HC
            clear hh
            go_wp2_with fail
            refine HC.out.mono ?_
            rintro e w1 ⟨rfl, rfl⟩
            go_wp2
            go_ret
            exact ⟨ret_int HE.out.symm, b1.trans (hbX.mono (by omega))⟩
          · rw [hh] at HC
            have HF2 := Lib.hid HF1.out
            rw [if_neg (show ¬ hasS ls x.lang = false by simp [hh])] at HF2
            clear hh
            by_cases c3 : x.text.size < 1 ∨ 64 < x.text.size
            · have HE := Lib.hid (show labE ls xs = 4 by rw [HLF.out, show labF ls (prevO xs k) x = 4 by rw [HF2.out, if_pos c3]]; rfl)
              by_cases c4 : x.text.size = 0
              · have e4 : (x.text.toList == ([] : List UInt8)) = true := by have := str_empty x.text; rw [c4] at this; simpa using this
                clear c3
                go_wp2_with fail
                refine HC.out.mono ?_
                rintro e w1 ⟨rfl, rfl⟩
                go_wp2_with fail
                go_ret
                exact ⟨ret_int HE.out.symm, b1.trans (hbX.mono (by omega))⟩
              · have e4 : (x.text.toList == ([] : List UInt8)) = false := by have := str_empty x.text; rw [decide_eq_false c4] at this; simpa using this
                have e5 : decide ((64 : Int) < (x.text.size : Int)) = true := decide_eq_true (by omega)
                clear c3 c4
                go_wp2_with fail
                refine HC.out.mono ?_
                rintro e w1 ⟨rfl, rfl⟩
                go_wp2_with fail
                go_ret
                exact ⟨ret_int HE.out.symm, b1.trans (hbX.mono (by omega))⟩
            · have e4 : (x.text.toList == ([] : List UInt8)) = false := by have := str_empty x.text; rw [decide_eq_false (by omega)] at this; simpa using this
              have e5 : decide ((64 : Int) < (x.text.size : Int)) = false := decide_eq_false (by omega)
              have HF3 := Lib.hid HF2.out
              rw [if_neg c3] at HF3
              clear c3
              rcases Nat.eq_zero_or_pos k with hk0 | hk0
              · subst hk0
                have HE := Lib.hid (show labE ls xs = labG ls (prevO xs (0 + 1)) (xs.drop (0 + 1)) by rw [HLF.out, show labF ls (prevO xs 0) x = 0 by rw [HF3.out]; rfl, HPV.out]; rfl)
                simp only [Nat.zero_mul, Nat.add_zero] at g0 g1 g2 g3
                go_wp2_with fail
                refine HC.out.mono ?_
                rintro e w1 ⟨rfl, rfl⟩
                go_wp2
                go_quiet (fail)
                go_wp2
                go_quiet (fail)
                go_wp2
                go_roundw
                case rel => exact ⟨1, by omega, by go_num, HE, hbX.trans (below_of_drew _ ⟨_, rfl⟩)⟩
                case measure => simp [intOf]; omega
              · obtain ⟨k', rfl⟩ : ∃ k', k = k' + 1 := ⟨k - 1, by omega⟩
                obtain ⟨q, hq⟩ := get_at xs (show k' < xs.length by omega)
                have HPQ := Lib.hid (prevO_succ hq)
                obtain ⟨b', off', hA', hbB', q0, q1, q2, q3⟩ := Labels.at_ (hX.below labS (Br.mono hB)) hq
                injection hA' with hA'
                injection hA' with e1 e2
                subst e1 e2
                have HF4 := Lib.hid (show labF ls (prevO xs (k' + 1)) x = labT (some q) x by rw [HF3.out, HPQ.out])
                have hki0 : (0 : Int) ≤ (k' : Int) := by omega
                have hki1 : (k' : Int) < (xs.length : Int) := by omega
                have hki2 : decide ((0 : Int) < (k' : Int) + 1) = true := decide_eq_true (by omega)
                have hw0 : IntKind.i64.wrap ((k' : Int) + 1 - 1) = (k' : Int) := by rw [Int.add_sub_cancel]; exact IntWalk.i64_in _ (by omega)
                have hw1 : IntKind.i64.wrap (k' : Int) = (k' : Int) := IntWalk.i64_in _ (by omega)
                have HBF := Lib.hid (fun (W : World) => rbefore_c q.el q.lang x.el x.lang W)
                rw [show ((k' + 1 : Nat) : Int) = (k' : Int) + 1 from rfl] at hkl ⊢
                clear hq hk0
                cases hbf : bfB q.el q.lang x.el x.lang
                · have HE := Lib.hid (show labE ls xs = 5 by rw [HLF.out, show labF ls (prevO xs (k' + 1)) x = 5 by rw [HF4.out]; unfold labT; simp [hbf]]; rfl)
                  rw [hbf] at HBF
                  clear hbf
                  go_wp2_with fail
                  refine HC.out.mono ?_
                  rintro e w1 ⟨rfl, rfl⟩
                  go_wp2
                  go_quiet ((go_at_call 80; refine (HBF.out _).mono ?_; rintro e w1 ⟨rfl, rfl⟩; exact ⟨rfl, _, rfl⟩))
                  go_wp2
                  go_ret
                  exact ⟨ret_int HE.out.symm, b1.trans ((hbX.trans (below_of_drew _ ⟨_, rfl⟩)).mono (by omega))⟩
                · rw [hbf] at HBF
                  by_cases c5 : q.el = x.el ∧ q.idx ≠ x.idx
                  · have HE := Lib.hid (show labE ls xs = 10 by rw [HLF.out, show labF ls (prevO xs (k' + 1)) x = 10 by rw [HF4.out]; unfold labT; simp only; rw [if_neg (by simp [hbf]), if_pos c5]]; rfl)
                    have he1 : (q.el == x.el) = true := by simp [c5.1]
                    have he2 : (q.idx != x.idx) = true := by simp [c5.2]
                    clear hbf c5
                    go_wp2_with fail
                    refine HC.out.mono ?_
                    rintro e w1 ⟨rfl, rfl⟩
                    go_wp2
                    go_quiet ((go_at_call 80; refine (HBF.out _).mono ?_; rintro e w1 ⟨rfl, rfl⟩; exact ⟨rfl, _, rfl⟩))
                    go_wp2
                    go_quiet (fail)
                    go_wp2
                    go_ret
                    exact ⟨ret_int HE.out.symm, b1.trans ((hbX.trans (below_of_drew _ ⟨_, World.drewN_drewN _ _ _⟩)).mono (by omega))⟩
                  · have HE := Lib.hid (show labE ls xs = labG ls (prevO xs (k' + 1 + 1)) (xs.drop (k' + 1 + 1)) by rw [HLF.out, show labF ls (prevO xs (k' + 1)) x = 0 by rw [HF4.out]; unfold labT; simp only; rw [if_neg (by simp [hbf]), if_neg c5], HPV.out]; rfl)
                    have HN5 := Lib.hid c5
                    clear hbf c5
                    by_cases he : q.el = x.el
                    · have he1 : (q.el == x.el) = true := by simp [he]
                      have he2 : (q.idx != x.idx) = false := by
                        have := HN5.out
                        simp only [he, true_and, ne_eq, Classical.not_not] at this
                        simp [this]
                      clear he
                      go_wp2_with fail
                      refine HC.out.mono ?_
                      rintro e w1 ⟨rfl, rfl⟩
                      go_wp2
                      go_quiet ((go_at_call 80; refine (HBF.out _).mono ?_; rintro e w1 ⟨rfl, rfl⟩; exact ⟨rfl, _, rfl⟩))
                      go_wp2
                      go_quiet (fail)
                      go_wp2
                      go_roundw
                      case rel => exact ⟨k' + 1 + 1, by omega, by go_num, HE, hbX.trans (below_of_drew _ ⟨_, rfl⟩)⟩
                      case measure => simp [intOf]; omega
                    · have he1 : (q.el == x.el) = false := by simpa using he
                      clear he
                      go_wp2_with fail
                      refine HC.out.mono ?_
                      rintro e w1 ⟨rfl, rfl⟩
                      go_wp2
                      go_quiet ((go_at_call 80; refine (HBF.out _).mono ?_; rintro e w1 ⟨rfl, rfl⟩; exact ⟨rfl, _, rfl⟩))
                      go_wp2
                      go_quiet (fail)
                      go_wp2
                      go_roundw
                      case rel => exact ⟨k' + 1 + 1, by omega, by go_num, HE, hbX.trans (below_of_drew _ ⟨_, rfl⟩)⟩
                      case measure => simp [intOf]; omega
      · have HE := Lib.hid (show labE ls xs = 0 by rw [HS.out, List.drop_of_length_le (by omega)]; cases prevO xs k <;> rfl)
        go_wp2
        go_ret
        exact ⟨ret_int HE.out.symm, Br⟩
set_option maxRecDepth 100000 in
set_option maxHeartbeats 8000000 in
theorem rfacts_c (ls : List ByteArray) (xs : List Fact) (v1 v2 v3 v : Value) (w : World) (B : Nat) (hB : B ≤ w.heap.size) (hL : Strs w B ls v1) (hX : Facts w B xs v) :
    Calls Tryz.prog 81 #[.agg #[v1, v2, v3], v] w fun e w' => e = .returned (.int .i64 (fctE ls xs)) ∧ Below w.heap.size w w' := by
  have b1 : Below w.heap.size w (w.alloc (catC v1 v2 v3)) := (Below.refl _ _).alloc (Nat.le_refl _) _
  have KC := Lib.hid (fun (W : World) (hW : Below (w.heap.size + 1) (w.alloc (catC v1 v2 v3)) W) => (⟨(hW.cell (p := ⟨w.heap.size, 0, none⟩) (by simp)).trans (by simp), by have := hW.size; simp at this; omega⟩ : W.cell? ⟨w.heap.size, 0, none⟩ = some v1 ∧ w.heap.size < W.heap.size))
  obtain ⟨A1, ca1, rfl, -⟩ := id hL
  obtain ⟨A, ca, rfl, hc1, hc2, _⟩ := id hX
  by_cases hs : 32 < xs.length
  · have HE := Lib.hid (show fctE ls xs = 8 by unfold fctE; rw [if_pos hs])
    have hd1 : decide ((32 : Int) < (xs.length : Int)) = true := by simp; omega
    clear hs
    go_enter Tryz.func81, Tryz.ntmps81
    go_wp2
    go_ret
    exact ⟨ret_int HE.out.symm, b1⟩
  · have HE := Lib.hid (show fctE ls xs = fctG ls (prevO xs 0) (xs.drop 0) by unfold fctE; rw [if_neg hs]; rfl)
    have hd1 : decide ((32 : Int) < (xs.length : Int)) = false := by simp; omega
    clear hs
    go_enter Tryz.func81, Tryz.ntmps81
    go_wp2
    go_loopw [5] (fun i wr => ∃ k : Nat, k ≤ xs.length ∧ i = .int .i64 k ∧ Hid (fctE ls xs = fctG ls (prevO xs k) (xs.drop k)) ∧ Below (w.heap.size + 1) (w.alloc (catC (.slice A1 ls.length ca1) v2 v3)) wr) (fun i _ => xs.length - (intOf i).toNat)
    case atStart => exact ⟨0, Nat.zero_le _, rfl, HE, Below.refl _ _⟩
    case round =>
      clear HE
      obtain ⟨k, hk, rfl, HS, hb⟩ := hrel
      obtain ⟨z0, zl⟩ := KC.out wr hb
      have Br := b1.trans (hb.mono (by omega))
      have hsr := Br.size
      by_cases hlt : k < xs.length
      · obtain ⟨x, hx⟩ := get_at xs hlt
        have HD := Lib.hid (drop_at hx)
        have HPV := Lib.hid (prevO_succ hx)
        obtain ⟨b, off, rfl, hbB, g0, g1, g2⟩ := Facts.at_ (hX.below fctS (Br.mono hB)) hx
        have hbw : b < wr.heap.size := by omega
        have bx := (Below.refl wr.heap.size wr).alloc (Nat.le_refl _) (fctC x)
        have HC := Lib.hid (rhas_c ls x.lang (.slice A1 ls.length ca1) (wr.alloc (fctC x)) (fun b => b < B) (fun b hb => by have : b < B := hb; simp; omega) (hL.below strS ((Br.trans (bx.mono hsr)).mono hB)))
        have hbX := hb.trans (bx.mono (by have := hb.size; simp at this; omega))
        have HLF := Lib.hid (show fctE ls xs = if fctF ls (prevO xs k) x = 0 then fctG ls (some x) (xs.drop (k + 1)) else fctF ls (prevO xs k) x by rw [HS.out, HD.out, fctG_cons])
        have hkl : (k : Int) < (xs.length : Int) := by omega
        clear hx
        by_cases c1 : x.el < 1 ∨ 64 < x.el
        · have HE := Lib.hid (show fctE ls xs = 2 by rw [HLF.out, show fctF ls (prevO xs k) x = 2 by unfold fctF; rw [if_pos c1]]; rfl)
          have HC1 := Lib.hid c1
          clear c1 HC
          go_wp2_with fail
          all_goals first
            | (go_ret; exact ⟨ret_int HE.out.symm, b1.trans (hbX.mono (by omega))⟩)
            | (exfalso; have := HC1.out; omega)
        · have d1 : decide (x.el < 1) = false := by simp; omega
          have d2 : decide ((64 : Int) < x.el) = false := by simp; omega
          have HF1 := Lib.hid (show fctF ls (prevO xs k) x = if hasS ls x.lang = false then 7 else if x.text.size < 1 ∨ 4096 < x.text.size then 4 else fctT (prevO xs k) x by unfold fctF; rw [if_neg c1])
          clear c1
          cases hh : hasS ls x.lang
          · have HE := Lib.hid (show fctE ls xs = 7 by rw [HLF.out, show fctF ls (prevO xs k) x = 7 by rw [HF1.out, if_pos hh]]; rfl)
            rw [hh] at HC
            clear hh
            go_wp2_with fail
            refine HC.out.mono ?_
            rintro e w1 ⟨rfl, rfl⟩
            go_wp2
            go_ret
            exact ⟨ret_int HE.out.symm, b1.trans (hbX.mono (by omega))⟩
          · rw [hh] at HC
            have HF2 := Lib.hid HF1.out
            rw [if_neg (show ¬ hasS ls x.lang = false by simp [hh])] at HF2
            clear hh
            by_cases c3 : x.text.size < 1 ∨ 4096 < x.text.size
            · have HE := Lib.hid (show fctE ls xs = 4 by rw [HLF.out, show fctF ls (prevO xs k) x = 4 by rw [HF2.out, if_pos c3]]; rfl)
              by_cases c4 : x.text.size = 0
              · have e4 : (x.text.toList == ([] : List UInt8)) = true := by have := str_empty x.text; rw [c4] at this; simpa using this
                clear c3
                go_wp2_with fail
                refine HC.out.mono ?_
                rintro e w1 ⟨rfl, rfl⟩
                go_wp2_with fail
                go_ret
                exact ⟨ret_int HE.out.symm, b1.trans (hbX.mono (by omega))⟩
              · have e4 : (x.text.toList == ([] : List UInt8)) = false := by have := str_empty x.text; rw [decide_eq_false c4] at this; simpa using this
                have e5 : decide ((4096 : Int) < (x.text.size : Int)) = true := decide_eq_true (by omega)
                clear c3 c4
                go_wp2_with fail
                refine HC.out.mono ?_
                rintro e w1 ⟨rfl, rfl⟩
                go_wp2_with fail
                go_ret
                exact ⟨ret_int HE.out.symm, b1.trans (hbX.mono (by omega))⟩
            · have e4 : (x.text.toList == ([] : List UInt8)) = false := by have := str_empty x.text; rw [decide_eq_false (by omega)] at this; simpa using this
              have e5 : decide ((4096 : Int) < (x.text.size : Int)) = false := decide_eq_false (by omega)
              have HF3 := Lib.hid HF2.out
              rw [if_neg c3] at HF3
              clear c3
              rcases Nat.eq_zero_or_pos k with hk0 | hk0
              · subst hk0
                have HE := Lib.hid (show fctE ls xs = fctG ls (prevO xs (0 + 1)) (xs.drop (0 + 1)) by rw [HLF.out, show fctF ls (prevO xs 0) x = 0 by rw [HF3.out]; rfl, HPV.out]; rfl)
                simp only [Nat.zero_mul, Nat.add_zero] at g0 g1 g2
                go_wp2_with fail
                refine HC.out.mono ?_
                rintro e w1 ⟨rfl, rfl⟩
                go_wp2
                go_quiet (fail)
                go_wp2
                go_roundw
                case rel => exact ⟨1, by omega, by go_num, HE, hbX.trans (below_of_drew _ ⟨_, rfl⟩)⟩
                case measure => simp [intOf]; omega
              · obtain ⟨k', rfl⟩ : ∃ k', k = k' + 1 := ⟨k - 1, by omega⟩
                obtain ⟨q, hq⟩ := get_at xs (show k' < xs.length by omega)
                have HPQ := Lib.hid (prevO_succ hq)
                obtain ⟨b', off', hA', hbB', q0, q1, q2⟩ := Facts.at_ (hX.below fctS (Br.mono hB)) hq
                injection hA' with hA'
                injection hA' with e1 e2
                subst e1 e2
                have HF4 := Lib.hid (show fctF ls (prevO xs (k' + 1)) x = fctT (some q) x by rw [HF3.out, HPQ.out])
                have hki0 : (0 : Int) ≤ (k' : Int) := by omega
                have hki1 : (k' : Int) < (xs.length : Int) := by omega
                have hki2 : decide ((0 : Int) < (k' : Int) + 1) = true := decide_eq_true (by omega)
                have hw0 : IntKind.i64.wrap ((k' : Int) + 1 - 1) = (k' : Int) := by rw [Int.add_sub_cancel]; exact IntWalk.i64_in _ (by omega)
                have hw1 : IntKind.i64.wrap (k' : Int) = (k' : Int) := IntWalk.i64_in _ (by omega)
                have HBF := Lib.hid (fun (W : World) => rbefore_c q.el q.lang x.el x.lang W)
                rw [show ((k' + 1 : Nat) : Int) = (k' : Int) + 1 from rfl] at hkl ⊢
                clear hq hk0
                cases hbf : bfB q.el q.lang x.el x.lang
                · have HE := Lib.hid (show fctE ls xs = 5 by rw [HLF.out, show fctF ls (prevO xs (k' + 1)) x = 5 by rw [HF4.out]; unfold fctT; simp [hbf]]; rfl)
                  rw [hbf] at HBF
                  clear hbf
                  go_wp2_with fail
                  refine HC.out.mono ?_
                  rintro e w1 ⟨rfl, rfl⟩
                  go_wp2
                  go_quiet ((go_at_call 80; refine (HBF.out _).mono ?_; rintro e w1 ⟨rfl, rfl⟩; exact ⟨rfl, _, rfl⟩))
                  go_wp2
                  go_ret
                  exact ⟨ret_int HE.out.symm, b1.trans ((hbX.trans (below_of_drew _ ⟨_, rfl⟩)).mono (by omega))⟩
                · have HE := Lib.hid (show fctE ls xs = fctG ls (prevO xs (k' + 1 + 1)) (xs.drop (k' + 1 + 1)) by rw [HLF.out, show fctF ls (prevO xs (k' + 1)) x = 0 by rw [HF4.out]; unfold fctT; simp [hbf], HPV.out]; rfl)
                  rw [hbf] at HBF
                  clear hbf
                  go_wp2_with fail
                  refine HC.out.mono ?_
                  rintro e w1 ⟨rfl, rfl⟩
                  go_wp2
                  go_quiet ((go_at_call 80; refine (HBF.out _).mono ?_; rintro e w1 ⟨rfl, rfl⟩; exact ⟨rfl, _, rfl⟩))
                  go_wp2
                  go_roundw
                  case rel => exact ⟨k' + 1 + 1, by omega, by go_num, HE, hbX.trans (below_of_drew _ ⟨_, rfl⟩)⟩
                  case measure => simp [intOf]; omega
      · have HE := Lib.hid (show fctE ls xs = 0 by rw [HS.out, List.drop_of_length_le (by omega)]; cases prevO xs k <;> rfl)
        go_wp2
        go_ret
        exact ⟨ret_int HE.out.symm, Br⟩
open Go.RowKit

theorem chainG_len (l : List Sheet) : ∀ (f : Nat) (i : Int), (chainG l f i).length ≤ f
  | 0, _ => by simp [chainG]
  | f + 1, i => by
    unfold chainG
    split
    · simp
    · split
      · simp
      · rename_i s _
        rw [List.length_cons]
        split
        · simp
        · have := chainG_len l f (shtIx (l.take i.toNat) s.parent)
          omega
theorem chainF_neg (l : List Sheet) {i : Int} (h : i < 0) : chainF l i = [] := chainG_neg l _ h
theorem shtIx_ge (l : List Sheet) (u : Int) : -1 ≤ shtIx l u := by
  rcases idxF_cases (fun s : Sheet => decide (s.unit = u)) l with ⟨e, _⟩ | ⟨k, x, e, _⟩
  · rw [show shtIx l u = -1 from e]; exact Int.le_refl _
  · rw [show shtIx l u = k from e]; omega
theorem cat_at3 {w W : World} {v1 v2 v3 : Value} (hW : Below (w.heap.size + 1) (w.alloc (catC v1 v2 v3)) W) : W.cell? ⟨w.heap.size, 0, none⟩ = some v1 ∧ W.cell? ⟨w.heap.size, 1, none⟩ = some v2 ∧ W.cell? ⟨w.heap.size, 2, none⟩ = some v3 ∧ w.heap.size < W.heap.size :=
  ⟨(hW.cell (p := ⟨w.heap.size, 0, none⟩) (by simp)).trans (by simp), (hW.cell (p := ⟨w.heap.size, 1, none⟩) (by simp)).trans (by simp), (hW.cell (p := ⟨w.heap.size, 2, none⟩) (by simp)).trans (by simp), by have := hW.size; simp at this; omega⟩
set_option maxRecDepth 100000 in
set_option maxHeartbeats 4000000 in
theorem rchain_c (c : Cat) (i : Int) (v1 v2 v3 : Value) (w : World) (B : Nat) (hB : B ≤ w.heap.size) (h : CatRep w B c v1 v2 v3) (hi : i < c.sheets.length) (hl : c.sheets.length ≤ 1000) :
    Calls Tryz.prog 40 #[.agg #[v1, v2, v3], .int .i64 i] w fun e w' => ∃ v', e = .returned v' ∧ OwnRep 1 (flat intEnc) 3 w.heap.size w' (chainF c.sheets i) v' ∧ Below w.heap.size w w' := by
  have b1 : Below w.heap.size w (w.alloc (catC v1 v2 v3)) := (Below.refl _ _).alloc (Nat.le_refl _) _
  have KC := Lib.hid (fun (W : World) (hW : Below (w.heap.size + 1) (w.alloc (catC v1 v2 v3)) W) => cat_at3 hW)
  have HIX := Lib.hid (fun (n : Nat) (u : Int) (hn : n ≤ c.sheets.length) (W : World) (hW : Below w.heap.size w W) => rindex_c c n u v1 v2 v3 W B (Nat.le_trans hB hW.size) (h.sheets.below shtS (hW.mono hB)) hn)
  have hX := h.sheets
  obtain ⟨A1, ca1, rfl, -⟩ := id h.langs
  obtain ⟨A2, ca2, rfl, -⟩ := id h.labels
  obtain ⟨A3, ca3, rfl, hc1, hc2, _⟩ := id h.sheets
  have HB := Lib.hid (show (chainF c.sheets i).length ≤ 1000 by
    rcases Int.lt_or_le i 0 with h0 | h0
    · rw [chainF_neg _ h0]; simp
    · have := chainG_len c.sheets (i.toNat + 1) i
      unfold chainF
      omega)
  have HI := Lib.hid hi
  clear h hi
  go_enter Tryz.func40, Tryz.ntmps40
  go_wp2
  go_loopw [1, 5] (fun vi vo wr => ∃ (j : Int) (o : List Int), vi = .int .i64 j ∧ j < c.sheets.length ∧ Hid (chainF c.sheets i = o ++ chainF c.sheets j) ∧ OwnRep 1 (flat intEnc) 3 (w.heap.size + 1) wr o vo ∧ Below (w.heap.size + 1) (w.alloc (catC (.slice A1 c.langs.length ca1) (.slice A2 c.labels.length ca2) (.slice A3 c.sheets.length ca3))) wr) (fun vi _ _ => (intOf vi + 1).toNat)
  case atStart => exact ⟨i, [], rfl, HI.out, Lib.hid rfl, OwnRep.nil_, Below.refl _ _⟩
  case round =>
    clear HI
    obtain ⟨j, o, rfl, hj, HS, hown, hb⟩ := hrel
    obtain ⟨z0, z1, z2, zl⟩ := KC.out wr hb
    have Br := b1.trans (hb.mono (by omega))
    have hsr := Br.size
    by_cases h0 : 0 ≤ j
    · obtain ⟨n, rfl⟩ : ∃ n : Nat, j = n := ⟨j.toNat, by omega⟩
      obtain ⟨x, hx⟩ := get_at c.sheets (show n < c.sheets.length by omega)
      have HCA := Lib.hid (chainF_at hx)
      have HX := Lib.hid (fun (W : World) (hW : Below w.heap.size w W) => Sheets.at_ (hX.below shtS (hW.mono hB)) hx)
      obtain ⟨b, off, vf, rfl, hbB, g0, g1, -⟩ := Sheets.at_ (hX.below shtS (Br.mono hB)) hx
      have hbw : b < wr.heap.size := by have : b < B := hbB; omega
      have HOL := Lib.hid (show o.length + 1 ≤ 1000 by
        have h1 := HB.out
        rw [HS.out, HCA.out, List.length_append, List.length_cons] at h1
        omega)
      have hnl := lt_of_at hx
      have hd0 : decide ((0 : Int) ≤ (n : Int)) = true := decide_eq_true (by omega)
      clear hx
      go_wp2_with (at_builtin; refine stop_intro ?_)
      refine stop_elim ?_
      have hA := hown.below intS ((Below.refl wr.heap.size wr).alloc (Nat.le_refl _) (.cells #[.int .i64 x.unit] 3))
      refine wpList_append_rep rfl intS intE_ (w.heap.size + 1) (.tmp 8) (.tmp 15) rfl rfl hA rfl (ys := [x.unit]) (SlRep.one_new intS (w := wr) (x := x.unit) (F := fun _ => False) rfl rfl (fun _ h => h.elim)) ?F ?n (by decide) ?hbase ?_
      case F =>
        intro b' hb'
        rcases hb' with hb' | hb'
        · exact hb'.elim
        · subst hb'
          exact ⟨by simp, fun e => by have := hown.own_lt _ e; omega⟩
      case n => have := HOL.out; simp; omega
      case hbase => simp; omega
      intro v5 w5 hown5 hg5 hat5
      have hb5 := (hb.alloc (by have := hb.size; simp at this; omega) (.cells #[.int .i64 x.unit] 3)).grown hg5 (by have := hb.size; simp at *; omega) (fun k hk => (hown.own_lt k hk).1)
      have B5 := b1.trans (hb5.mono (by omega))
      obtain ⟨y0, y1, y2, yl⟩ := KC.out _ hb5
      obtain ⟨_, _, _, e9, hbB5, r0, r1, -⟩ := HX.out _ B5
      cases e9
      have hbw5 : b < w5.heap.size := by have := hg5.size; simp at this; omega
      clear g0 g1 z0 z1 z2 zl hA hown
      by_cases hp : x.parent = 0
      · have e0 : (x.parent == 0) = true := by simp [hp]
        have HE := Lib.hid (show chainF c.sheets i = o ++ [x.unit] by rw [HS.out, HCA.out, if_pos hp])
        clear hp
        go_wp2
        go_ret
        exact ⟨_, rfl, by rw [HE.out]; exact hown5.base_le (Nat.le_succ _), B5⟩
      · have e0 : (x.parent == 0) = false := by simp [hp]
        have HE := Lib.hid (show chainF c.sheets i = (o ++ [x.unit]) ++ chainF c.sheets (shtIx (c.sheets.take n) x.parent) by rw [HS.out, HCA.out, if_neg hp, List.append_assoc]; rfl)
        have hlt := shtIx_lt (c.sheets.take n) x.parent
        have hge := shtIx_ge (c.sheets.take n) x.parent
        rw [List.length_take] at hlt
        have hki : (n : Int) < (c.sheets.length : Int) := by omega
        clear hp
        go_upto_region 6 with fail
        have hbX := hb5.drew
        have KS := Lib.hid (fun (W : World) (hW : Below (w.heap.size + 1) (w.alloc (catC (.slice A1 c.langs.length ca1) (.slice A2 c.labels.length ca2) (.slice (some ⟨b, off, none⟩) c.sheets.length ca3))) W) (hs : w5.heap.size ≤ W.heap.size) => (⟨(KC.out W hW).1, (KC.out W hW).2.1, (KC.out W hW).2.2.1, (KC.out W hW).2.2.2, by
          obtain ⟨_, _, _, e9, _, _, t1, -⟩ := HX.out W (b1.trans (hW.mono (by omega)))
          cases e9
          exact t1, Nat.lt_of_lt_of_le hbw5 hs⟩ : W.cell? ⟨w.heap.size, 0, none⟩ = some (.slice A1 c.langs.length ca1) ∧ W.cell? ⟨w.heap.size, 1, none⟩ = some (.slice A2 c.labels.length ca2) ∧ W.cell? ⟨w.heap.size, 2, none⟩ = some (.slice (some ⟨b, off, none⟩) c.sheets.length ca3) ∧ w.heap.size < W.heap.size ∧ W.cell? ⟨b, off + n * 6 + 1, none⟩ = some (.int .i64 x.parent) ∧ b < W.heap.size))
        have hs0 : w5.heap.size ≤ w5.drew.heap.size := Nat.le_refl _
        have hown6 := hown5.below intS (Below.refl _ _).drew
        have hnle := Nat.le_of_lt hnl
        clear r0 r1 y0 y1 y2 yl
        go_region_held3 (fun W => W.cell? ⟨w.heap.size, 0, none⟩ = some (.slice A1 c.langs.length ca1) ∧ W.cell? ⟨w.heap.size, 1, none⟩ = some (.slice A2 c.labels.length ca2) ∧ W.cell? ⟨w.heap.size, 2, none⟩ = some (.slice (some ⟨b, off, none⟩) c.sheets.length ca3) ∧ w.heap.size < W.heap.size ∧ W.cell? ⟨b, off + n * 6 + 1, none⟩ = some (.int .i64 x.parent) ∧ b < W.heap.size) (with_reducible exact KS.out _ hbX hs0) (first
          | (go_at_call 38; (with_reducible refine (HIX.out n x.parent hnle _ (b1.trans (hbX.mono (Nat.le_succ _)))).mono ?_); rintro e wI ⟨rfl, hbI⟩; have hbX := bnd_call hbX (by simp) hbI; have hs0 := Nat.le_trans hs0 hbI.size; have hown6 := hown6.below intS hbI))
        go_wp2
        go_roundw
        case rel => exact ⟨_, _, rfl, by omega, HE, hown6, hbX⟩
        case measure => simp [intOf]; omega
    · have hd0 : decide ((0 : Int) ≤ j) = false := decide_eq_false h0
      have HE := Lib.hid (show chainF c.sheets i = o by rw [HS.out, chainF_neg _ (by omega), List.append_nil])
      clear h0 hj
      go_wp2
      go_ret
      exact ⟨_, rfl, by rw [HE.out]; exact hown.base_le (Nat.le_succ _), Br⟩
theorem shW_at {w W : World} {v1 v2 v3 vf : Value} {x : Sheet} (hW : Below (w.heap.size + 2) ((w.alloc (catC v1 v2 v3)).alloc (shtC x vf)) W) : W.cell? ⟨w.heap.size, 0, none⟩ = some v1 ∧ W.cell? ⟨w.heap.size, 1, none⟩ = some v2 ∧ W.cell? ⟨w.heap.size, 2, none⟩ = some v3 ∧ W.cell? ⟨w.heap.size + 1, 0, none⟩ = some (.int .i64 x.unit) ∧ W.cell? ⟨w.heap.size + 1, 1, none⟩ = some (.int .i64 x.parent) ∧ W.cell? ⟨w.heap.size + 1, 5, none⟩ = some vf ∧ w.heap.size + 1 < W.heap.size := by
  have h0 : ((w.alloc (catC v1 v2 v3)).alloc (shtC x vf)).heap[w.heap.size]? = some (catC v1 v2 v3) := by
    rw [Below.heap_alloc _ _ _ (by simp)]
    show (w.heap.push _)[w.heap.size]? = _
    simp
  have h1 : ((w.alloc (catC v1 v2 v3)).alloc (shtC x vf)).heap[w.heap.size + 1]? = some (shtC x vf) := by
    rw [show w.heap.size + 1 = (w.alloc (catC v1 v2 v3)).heap.size by simp]
    exact Array.getElem?_push_size
  have k0 := (hW.block _ (by omega)).trans h0
  have k1 := (hW.block _ (by omega)).trans h1
  exact ⟨by rw [Lib.cell_of_heap k0]; rfl, by rw [Lib.cell_of_heap k0]; rfl, by rw [Lib.cell_of_heap k0]; rfl, by rw [Lib.cell_of_heap k1]; rfl, by rw [Lib.cell_of_heap k1]; rfl, by rw [Lib.cell_of_heap k1]; rfl, by have := hW.size; simp at this; omega⟩
set_option maxRecDepth 100000 in
set_option maxHeartbeats 8000000 in
theorem rsheet_c (c : Cat) (i : Nat) (x : Sheet) (v1 v2 v3 : Value) (w : World) (B : Nat) (hB : B ≤ w.heap.size) (h : CatRep w B c v1 v2 v3) (hx : c.sheets[i]? = some x) (hl : c.sheets.length ≤ 1000) :
    Calls Tryz.prog 48 #[.agg #[v1, v2, v3], .int .i64 i] w fun e w' => e = .returned (.int .i64 (rshtF c.langs c.sheets i x)) ∧ Below w.heap.size w w' := by
  have hil := lt_of_at hx
  have HIX := Lib.hid (fun (u : Int) (W : World) (hW : Below w.heap.size w W) => rindex_c c i u v1 v2 v3 W B (Nat.le_trans hB hW.size) (h.sheets.below shtS (hW.mono hB)) (Nat.le_of_lt hil))
  have HCH := Lib.hid (fun (j : Int) (hj : j < c.sheets.length) (W : World) (hW : Below w.heap.size w W) => rchain_c c j v1 v2 v3 W B (Nat.le_trans hB hW.size) (h.below (hW.mono hB)) hj hl)
  have hL := h.langs
  obtain ⟨A1, ca1, rfl, -⟩ := id h.langs
  obtain ⟨A2, ca2, rfl, -⟩ := id h.labels
  obtain ⟨A3, ca3, rfl, hc1, hc2, _⟩ := id h.sheets
  have b0 : Below w.heap.size w (w.alloc (catC (.slice A1 c.langs.length ca1) (.slice A2 c.labels.length ca2) (.slice A3 c.sheets.length ca3))) := (Below.refl _ _).alloc (Nat.le_refl _) _
  obtain ⟨b, off, vf, e9, hbB, g0, g1, g2, g3, g4, g5, hvf⟩ := Sheets.at_ h.sheets hx
  subst e9
  obtain ⟨Af, cf, rfl, -⟩ := id hvf
  have hbw0 : b < w.heap.size := by have : b < B := hbB; omega
  have hbw : b < (w.alloc (catC (.slice A1 c.langs.length ca1) (.slice A2 c.labels.length ca2) (.slice (some ⟨b, off, none⟩) c.sheets.length ca3))).heap.size := by simp; omega
  replace g0 := (b0.cell (p := ⟨b, _, none⟩) hbw0).trans g0
  replace g1 := (b0.cell (p := ⟨b, _, none⟩) hbw0).trans g1
  replace g2 := (b0.cell (p := ⟨b, _, none⟩) hbw0).trans g2
  replace g3 := (b0.cell (p := ⟨b, _, none⟩) hbw0).trans g3
  replace g4 := (b0.cell (p := ⟨b, _, none⟩) hbw0).trans g4
  replace g5 := (b0.cell (p := ⟨b, _, none⟩) hbw0).trans g5
  have b1 : Below w.heap.size w ((w.alloc (catC (.slice A1 c.langs.length ca1) (.slice A2 c.labels.length ca2) (.slice (some ⟨b, off, none⟩) c.sheets.length ca3))).alloc (shtC x (.slice Af x.facts.length cf))) := b0.alloc (by simp) _
  have hb0 : Below (w.heap.size + 2) ((w.alloc (catC (.slice A1 c.langs.length ca1) (.slice A2 c.labels.length ca2) (.slice (some ⟨b, off, none⟩) c.sheets.length ca3))).alloc (shtC x (.slice Af x.facts.length cf))) ((w.alloc (catC (.slice A1 c.langs.length ca1) (.slice A2 c.labels.length ca2) (.slice (some ⟨b, off, none⟩) c.sheets.length ca3))).alloc (shtC x (.slice Af x.facts.length cf))) := Below.refl _ _
  have KC := Lib.hid (fun (W : World) (hW : Below (w.heap.size + 2) ((w.alloc (catC (.slice A1 c.langs.length ca1) (.slice A2 c.labels.length ca2) (.slice (some ⟨b, off, none⟩) c.sheets.length ca3))).alloc (shtC x (.slice Af x.facts.length cf))) W) => shW_at hW)
  have HFC := Lib.hid (fun (W : World) (hW : Below w.heap.size w W) => rfacts_c c.langs x.facts (.slice A1 c.langs.length ca1) (.slice A2 c.labels.length ca2) (.slice (some ⟨b, off, none⟩) c.sheets.length ca3) (.slice Af x.facts.length cf) W B (Nat.le_trans hB hW.size) (hL.below strS (hW.mono hB)) (hvf.below fctS (hW.mono hB)))
  have hki : (i : Int) < (c.sheets.length : Int) := by omega
  clear h hvf hL b0 hx
  by_cases c1 : x.unit < 1 ∨ 1073741824 < x.unit ∨ x.level < 1 ∨ 4 < x.level
  · have HE := Lib.hid (show rshtF c.langs c.sheets i x = 2 by unfold rshtF; rw [if_pos c1])
    have HC1 := Lib.hid c1
    clear c1
    go_enter Tryz.func48, Tryz.ntmps48
    go_wp2_with fail
    all_goals first
      | (go_ret; exact ⟨ret_int HE.out.symm, b1⟩)
      | (exfalso; have := HC1.out; omega)
  · have d1 : decide (x.unit < 1) = false := by simp; omega
    have d2 : decide ((1073741824 : Int) < x.unit) = false := by simp; omega
    have d3 : decide (x.level < 1) = false := by simp; omega
    have d4 : decide ((4 : Int) < x.level) = false := by simp; omega
    by_cases c2 : 64 < x.mark.size ∨ x.title.size = 0 ∨ 64 < x.title.size
    · have HE := Lib.hid (show rshtF c.langs c.sheets i x = 4 by unfold rshtF; rw [if_neg c1, if_pos c2])
      clear c1
      by_cases m1 : 64 < x.mark.size
      · have d5 : decide ((64 : Int) < (x.mark.size : Int)) = true := decide_eq_true (by omega)
        clear c2 m1
        go_enter Tryz.func48, Tryz.ntmps48
        go_wp2_with fail
        go_ret
        exact ⟨ret_int HE.out.symm, b1⟩
      · have d5 : decide ((64 : Int) < (x.mark.size : Int)) = false := decide_eq_false (by omega)
        by_cases m2 : x.title.size = 0
        · have e4 : (x.title.toList == ([] : List UInt8)) = true := by have := str_empty x.title; rw [m2] at this; simpa using this
          clear c2 m1 m2
          go_enter Tryz.func48, Tryz.ntmps48
          go_wp2_with fail
          go_ret
          exact ⟨ret_int HE.out.symm, b1⟩
        · have e4 : (x.title.toList == ([] : List UInt8)) = false := by have := str_empty x.title; rw [decide_eq_false m2] at this; simpa using this
          have d6 : decide ((64 : Int) < (x.title.size : Int)) = true := decide_eq_true (by omega)
          clear c2 m1 m2
          go_enter Tryz.func48, Tryz.ntmps48
          go_wp2_with fail
          go_ret
          exact ⟨ret_int HE.out.symm, b1⟩
    · have d5 : decide ((64 : Int) < (x.mark.size : Int)) = false := decide_eq_false (by omega)
      have e4 : (x.title.toList == ([] : List UInt8)) = false := by have := str_empty x.title; rw [decide_eq_false (by omega)] at this; simpa using this
      have d6 : decide ((64 : Int) < (x.title.size : Int)) = false := decide_eq_false (by omega)
      have HE := Lib.hid (show rshtF c.langs c.sheets i x = if 0 ≤ shtIx (c.sheets.take i) x.unit then 6
          else if x.parent ≠ 0 ∧ (i = 0 ∨ inB (chainF c.sheets ((i : Int) - 1)) x.parent = false) then 7
          else if x.parent ≠ 0 ∧ 12 ≤ (chainF c.sheets (shtIx (c.sheets.take i) x.parent)).length then 15
          else fctE c.langs x.facts by unfold rshtF; rw [if_neg c1, if_neg c2])
      clear c1 c2
      by_cases c3 : 0 ≤ shtIx (c.sheets.take i) x.unit
      · have HE := Lib.hid (HE.out.trans (if_pos c3))
        have d7 : decide ((0 : Int) ≤ shtIx (c.sheets.take i) x.unit) = true := decide_eq_true c3
        clear c3
        go_enter Tryz.func48, Tryz.ntmps48
        go_wp2_with fail
        refine (HIX.out x.unit _ b1).mono ?_
        rintro e wI ⟨rfl, hbI⟩
        have hbX := bnd_call hb0 (by simp) hbI
        obtain ⟨z0, z1, z2, y0, y1, y5, yl⟩ := KC.out _ hbX
        go_wp2
        go_ret
        exact ⟨ret_int HE.out.symm, b1.trans (hbX.mono (by omega))⟩
      · have HE := Lib.hid (HE.out.trans (if_neg c3))
        have d7 : decide ((0 : Int) ≤ shtIx (c.sheets.take i) x.unit) = false := decide_eq_false c3
        clear c3
        by_cases hp : x.parent = 0
        · have HE := Lib.hid ((HE.out.trans (if_neg (by simp [hp]))).trans (if_neg (by simp [hp])))
          have p0 : (x.parent != 0) = false := by simp [hp]
          clear hp
          go_enter Tryz.func48, Tryz.ntmps48
          go_wp2_with fail
          refine (HIX.out x.unit _ b1).mono ?_
          rintro e wI ⟨rfl, hbI⟩
          have hbX := bnd_call hb0 (by simp) hbI
          obtain ⟨z0, z1, z2, y0, y1, y5, yl⟩ := KC.out _ hbX
          go_wp2_with fail
          refine (HFC.out _ (b1.trans (hbX.mono (by omega)))).mono ?_
          rintro e wF ⟨rfl, hbF⟩
          have hbX := bnd_call hbX (by simp) hbF
          go_wp2
          go_ret
          exact ⟨ret_int HE.out.symm, b1.trans (hbX.mono (by omega))⟩

        · have p0 : (x.parent != 0) = true := by simp [hp]
          rcases Nat.eq_zero_or_pos i with hi0 | hi0
          · have HE7 := Lib.hid (HE.out.trans (if_pos ⟨hp, .inl hi0⟩))
            clear hp HE
            subst hi0
            simp only [Nat.zero_mul, Nat.add_zero] at g0 g1 g2 g3 g4 g5
            go_enter Tryz.func48, Tryz.ntmps48
            go_wp2_with fail
            refine (HIX.out x.unit _ b1).mono ?_
            rintro e wI ⟨rfl, hbI⟩
            have hbX := bnd_call hb0 (by simp) hbI
            obtain ⟨z0, z1, z2, y0, y1, y5, yl⟩ := KC.out _ hbX
            go_wp2
            go_quiet (fail)
            go_wp2
            go_ret
            exact ⟨ret_int HE7.out.symm, b1.trans ((hbX.trans (below_of_drew _ ⟨_, rfl⟩)).mono (by omega))⟩
          · obtain ⟨i', rfl⟩ : ∃ i', i = i' + 1 := ⟨i - 1, by omega⟩
            have hj1 : (i' : Int) < (c.sheets.length : Int) := by omega
            have hj2 : shtIx (c.sheets.take (i' + 1)) x.parent < (c.sheets.length : Int) := by have := shtIx_lt (c.sheets.take (i' + 1)) x.parent; rw [List.length_take] at this; omega
            have hw0 : IntKind.i64.wrap ((i' : Int) + 1 - 1) = (i' : Int) := by rw [Int.add_sub_cancel]; exact IntWalk.i64_in _ (by omega)
            have hw1 : IntKind.i64.wrap (i' : Int) = (i' : Int) := IntWalk.i64_in _ (by omega)
            have hw2 : ((i' : Int) + 1 == 0) = false := by rw [beq_eq_false_iff_ne]; omega
            have HEQ := Lib.hid (show ((i' + 1 : Nat) : Int) - 1 = (i' : Int) by omega)
            rw [show ((i' + 1 : Nat) : Int) = (i' : Int) + 1 from rfl] at hki HIX ⊢
            cases hin : inB (chainF c.sheets (i' : Int)) x.parent
            · have HE := Lib.hid (HE.out.trans (if_pos ⟨hp, .inr (by rw [HEQ.out]; exact hin)⟩))
              have HIN := Lib.hid hin
              clear hp hi0 hin
              go_enter Tryz.func48, Tryz.ntmps48
              go_wp2_with fail
              refine (HIX.out x.unit _ b1).mono ?_
              rintro e wI ⟨rfl, hbI⟩
              have hbX := bnd_call hb0 (by simp) hbI
              obtain ⟨z0, z1, z2, y0, y1, y5, yl⟩ := KC.out _ hbX
              go_wp2
              have hbX := hbX.drew
              clear z0 z1 z2 y0 y1 y5 yl
              go_region_held3 (fun W => W.cell? ⟨w.heap.size, 0, none⟩ = some (.slice A1 c.langs.length ca1) ∧ W.cell? ⟨w.heap.size, 1, none⟩ = some (.slice A2 c.labels.length ca2) ∧ W.cell? ⟨w.heap.size, 2, none⟩ = some (.slice (some ⟨b, off, none⟩) c.sheets.length ca3) ∧ W.cell? ⟨w.heap.size + 1, 0, none⟩ = some (.int .i64 x.unit) ∧ W.cell? ⟨w.heap.size + 1, 1, none⟩ = some (.int .i64 x.parent) ∧ W.cell? ⟨w.heap.size + 1, 5, none⟩ = some (.slice Af x.facts.length cf) ∧ w.heap.size + 1 < W.heap.size) (with_reducible exact KC.out _ hbX) (first
                | (go_at_call 40; (with_reducible refine (HCH.out (i' : Int) hj1 _ (b1.trans (hbX.mono (Nat.le_add_right _ _)))).mono ?_); rintro e wC ⟨vC, rfl, hownC, hbC⟩; have hbX := bnd_call hbX (by simp) hbC; have hch := hownC.toSl intS; obtain ⟨AC, cC, rfl, -⟩ := id hch)
                | (go_at_call 39; (with_reducible refine (rin_c (chainF c.sheets (i' : Int)) x.parent _ _ (fun b => b < wC.heap.size) (fun _ h => h) hch).mono ?_); rintro e w1 ⟨he, rfl⟩; rw [HIN.out] at he; subst he))
              obtain ⟨z0, z1, z2, y0, y1, y5, yl⟩ := KC.out _ hbX
              go_wp2
              go_ret
              exact ⟨ret_int HE.out.symm, b1.trans (hbX.mono (by omega))⟩
            · have HE := Lib.hid (HE.out.trans (if_neg (by rw [HEQ.out, hin]; simp)))
              have HIN := Lib.hid hin
              by_cases c5 : 12 ≤ (chainF c.sheets (shtIx (c.sheets.take (i' + 1)) x.parent)).length
              · have HE := Lib.hid (HE.out.trans (if_pos ⟨hp, c5⟩))
                have d8 : decide ((12 : Int) ≤ ((chainF c.sheets (shtIx (c.sheets.take (i' + 1)) x.parent)).length : Int)) = true := decide_eq_true (by omega)
                clear hp hi0 hin c5
                go_enter Tryz.func48, Tryz.ntmps48
                go_wp2_with fail
                refine (HIX.out x.unit _ b1).mono ?_
                rintro e wI ⟨rfl, hbI⟩
                have hbX := bnd_call hb0 (by simp) hbI
                obtain ⟨z0, z1, z2, y0, y1, y5, yl⟩ := KC.out _ hbX
                go_wp2
                have hbX := hbX.drew
                clear z0 z1 z2 y0 y1 y5 yl
                go_region_held3 (fun W => W.cell? ⟨w.heap.size, 0, none⟩ = some (.slice A1 c.langs.length ca1) ∧ W.cell? ⟨w.heap.size, 1, none⟩ = some (.slice A2 c.labels.length ca2) ∧ W.cell? ⟨w.heap.size, 2, none⟩ = some (.slice (some ⟨b, off, none⟩) c.sheets.length ca3) ∧ W.cell? ⟨w.heap.size + 1, 0, none⟩ = some (.int .i64 x.unit) ∧ W.cell? ⟨w.heap.size + 1, 1, none⟩ = some (.int .i64 x.parent) ∧ W.cell? ⟨w.heap.size + 1, 5, none⟩ = some (.slice Af x.facts.length cf) ∧ w.heap.size + 1 < W.heap.size) (with_reducible exact KC.out _ hbX) (first
                  | (go_at_call 40; (with_reducible refine (HCH.out (i' : Int) hj1 _ (b1.trans (hbX.mono (Nat.le_add_right _ _)))).mono ?_); rintro e wC ⟨vC, rfl, hownC, hbC⟩; have hbX := bnd_call hbX (by simp) hbC; have hch := hownC.toSl intS; obtain ⟨AC, cC, rfl, -⟩ := id hch)
                  | (go_at_call 39; (with_reducible refine (rin_c (chainF c.sheets (i' : Int)) x.parent _ _ (fun b => b < wC.heap.size) (fun _ h => h) hch).mono ?_); rintro e w1 ⟨he, rfl⟩; rw [HIN.out] at he; subst he))
                obtain ⟨z0, z1, z2, y0, y1, y5, yl⟩ := KC.out _ hbX
                go_wp2
                have hbX := hbX.drew
                clear z0 z1 z2 y0 y1 y5 yl
                go_region_held3 (fun W => W.cell? ⟨w.heap.size, 0, none⟩ = some (.slice A1 c.langs.length ca1) ∧ W.cell? ⟨w.heap.size, 1, none⟩ = some (.slice A2 c.labels.length ca2) ∧ W.cell? ⟨w.heap.size, 2, none⟩ = some (.slice (some ⟨b, off, none⟩) c.sheets.length ca3) ∧ W.cell? ⟨w.heap.size + 1, 0, none⟩ = some (.int .i64 x.unit) ∧ W.cell? ⟨w.heap.size + 1, 1, none⟩ = some (.int .i64 x.parent) ∧ W.cell? ⟨w.heap.size + 1, 5, none⟩ = some (.slice Af x.facts.length cf) ∧ w.heap.size + 1 < W.heap.size) (with_reducible exact KC.out _ hbX) (first
                  | (go_at_call 38; (with_reducible refine (HIX.out x.parent _ (b1.trans (hbX.mono (Nat.le_add_right _ _)))).mono ?_); rintro e wJ ⟨rfl, hbJ⟩; have hbX := bnd_call hbX (by simp) hbJ)
                  | (go_at_call 40; (with_reducible refine (HCH.out _ hj2 _ (b1.trans (hbX.mono (Nat.le_add_right _ _)))).mono ?_); rintro e wD ⟨vD, rfl, hownD, hbD⟩; have hbX := bnd_call hbX (by simp) hbD; obtain ⟨AD, cD, rfl, -⟩ := id (hownD.toSl intS)))
                obtain ⟨z0, z1, z2, y0, y1, y5, yl⟩ := KC.out _ hbX
                go_wp2
                go_ret
                exact ⟨ret_int HE.out.symm, b1.trans (hbX.mono (by omega))⟩
              · have HE := Lib.hid (HE.out.trans (if_neg (by simp [c5])))
                have d8 : decide ((12 : Int) ≤ ((chainF c.sheets (shtIx (c.sheets.take (i' + 1)) x.parent)).length : Int)) = false := decide_eq_false (by omega)
                clear hp hi0 hin c5
                go_enter Tryz.func48, Tryz.ntmps48
                go_wp2_with fail
                refine (HIX.out x.unit _ b1).mono ?_
                rintro e wI ⟨rfl, hbI⟩
                have hbX := bnd_call hb0 (by simp) hbI
                obtain ⟨z0, z1, z2, y0, y1, y5, yl⟩ := KC.out _ hbX
                go_wp2
                have hbX := hbX.drew
                clear z0 z1 z2 y0 y1 y5 yl
                go_region_held3 (fun W => W.cell? ⟨w.heap.size, 0, none⟩ = some (.slice A1 c.langs.length ca1) ∧ W.cell? ⟨w.heap.size, 1, none⟩ = some (.slice A2 c.labels.length ca2) ∧ W.cell? ⟨w.heap.size, 2, none⟩ = some (.slice (some ⟨b, off, none⟩) c.sheets.length ca3) ∧ W.cell? ⟨w.heap.size + 1, 0, none⟩ = some (.int .i64 x.unit) ∧ W.cell? ⟨w.heap.size + 1, 1, none⟩ = some (.int .i64 x.parent) ∧ W.cell? ⟨w.heap.size + 1, 5, none⟩ = some (.slice Af x.facts.length cf) ∧ w.heap.size + 1 < W.heap.size) (with_reducible exact KC.out _ hbX) (first
                  | (go_at_call 40; (with_reducible refine (HCH.out (i' : Int) hj1 _ (b1.trans (hbX.mono (Nat.le_add_right _ _)))).mono ?_); rintro e wC ⟨vC, rfl, hownC, hbC⟩; have hbX := bnd_call hbX (by simp) hbC; have hch := hownC.toSl intS; obtain ⟨AC, cC, rfl, -⟩ := id hch)
                  | (go_at_call 39; (with_reducible refine (rin_c (chainF c.sheets (i' : Int)) x.parent _ _ (fun b => b < wC.heap.size) (fun _ h => h) hch).mono ?_); rintro e w1 ⟨he, rfl⟩; rw [HIN.out] at he; subst he))
                obtain ⟨z0, z1, z2, y0, y1, y5, yl⟩ := KC.out _ hbX
                go_wp2
                have hbX := hbX.drew
                clear z0 z1 z2 y0 y1 y5 yl
                go_region_held3 (fun W => W.cell? ⟨w.heap.size, 0, none⟩ = some (.slice A1 c.langs.length ca1) ∧ W.cell? ⟨w.heap.size, 1, none⟩ = some (.slice A2 c.labels.length ca2) ∧ W.cell? ⟨w.heap.size, 2, none⟩ = some (.slice (some ⟨b, off, none⟩) c.sheets.length ca3) ∧ W.cell? ⟨w.heap.size + 1, 0, none⟩ = some (.int .i64 x.unit) ∧ W.cell? ⟨w.heap.size + 1, 1, none⟩ = some (.int .i64 x.parent) ∧ W.cell? ⟨w.heap.size + 1, 5, none⟩ = some (.slice Af x.facts.length cf) ∧ w.heap.size + 1 < W.heap.size) (with_reducible exact KC.out _ hbX) (first
                  | (go_at_call 38; (with_reducible refine (HIX.out x.parent _ (b1.trans (hbX.mono (Nat.le_add_right _ _)))).mono ?_); rintro e wJ ⟨rfl, hbJ⟩; have hbX := bnd_call hbX (by simp) hbJ)
                  | (go_at_call 40; (with_reducible refine (HCH.out _ hj2 _ (b1.trans (hbX.mono (Nat.le_add_right _ _)))).mono ?_); rintro e wD ⟨vD, rfl, hownD, hbD⟩; have hbX := bnd_call hbX (by simp) hbD; obtain ⟨AD, cD, rfl, -⟩ := id (hownD.toSl intS)))
                obtain ⟨z0, z1, z2, y0, y1, y5, yl⟩ := KC.out _ hbX
                go_wp2_with fail
                refine (HFC.out _ (b1.trans (hbX.mono (by omega)))).mono ?_
                rintro e wF ⟨rfl, hbF⟩
                have hbX := bnd_call hbX (by simp) hbF
                go_wp2
                go_ret
                exact ⟨ret_int HE.out.symm, b1.trans (hbX.mono (by omega))⟩

theorem rshtG_cons (ls : List ByteArray) (l : List Sheet) (i : Nat) (s : Sheet) (r : List Sheet) : rshtG ls l i (s :: r) = if rshtF ls l i s = 0 then rshtG ls l (i + 1) r else rshtF ls l i s := rfl
theorem ne_boolR {a : Int} (h : a ≠ 0) : (a != 0) = true ∧ (a == 0) = false := ⟨by simpa using h, by simpa using h⟩
set_option maxRecDepth 100000 in
set_option maxHeartbeats 4000000 in
theorem rcheck47_c (c : Cat) (v1 v2 v3 : Value) (w : World) (B : Nat) (hB : B ≤ w.heap.size) (h : CatRep w B c v1 v2 v3) (hl : c.sheets.length ≤ 1000) :
    Calls Tryz.prog 13 #[.agg #[v1, v2, v3]] w fun e w' => e = .returned (.int .i64 (catE c)) ∧ Below w.heap.size w w' := by
  have b1 : Below w.heap.size w (w.alloc (catC v1 v2 v3)) := (Below.refl _ _).alloc (Nat.le_refl _) _
  have hb0 : Below (w.heap.size + 1) (w.alloc (catC v1 v2 v3)) (w.alloc (catC v1 v2 v3)) := Below.refl _ _
  have KC := Lib.hid (fun (W : World) (hW : Below (w.heap.size + 1) (w.alloc (catC v1 v2 v3)) W) => cat_at3 hW)
  have HLA := Lib.hid (fun (W : World) (hW : Below w.heap.size w W) => rlanguages_c c.langs v1 W (fun b => b < B) (fun b hb => by have : b < B := hb; have := hW.size; omega) (h.langs.below strS (hW.mono hB)))
  have HLB := Lib.hid (fun (W : World) (hW : Below w.heap.size w W) => rlabels_c c v1 v2 v3 W B (Nat.le_trans hB hW.size) (h.below (hW.mono hB)))
  have HSH := Lib.hid (fun (i : Nat) (x : Sheet) (hx : c.sheets[i]? = some x) (W : World) (hW : Below w.heap.size w W) => rsheet_c c i x v1 v2 v3 W B (Nat.le_trans hB hW.size) (h.below (hW.mono hB)) hx hl)
  obtain ⟨A1, ca1, rfl, -⟩ := id h.langs
  obtain ⟨A2, ca2, rfl, -⟩ := id h.labels
  obtain ⟨A3, ca3, rfl, hc1, hc2, _⟩ := id h.sheets
  rw [← rcat_eq]
  clear h
  go_enter Tryz.func13, Tryz.ntmps13
  go_wp2_with fail
  refine (HLA.out _ b1).mono ?_
  rintro e w1 ⟨rfl, hb1⟩
  have hbX := bnd_call hb0 (by simp) hb1
  obtain ⟨z0, z1, z2, zl⟩ := KC.out _ hbX
  by_cases h1 : langE c.langs = 0
  · rw [h1]
    go_wp2_with fail
    refine (HLB.out _ (b1.trans (hbX.mono (Nat.le_succ _)))).mono ?_
    rintro e w2 ⟨rfl, hb2⟩
    have hbX := bnd_call hbX (by simp) hb2
    clear z0 z1 z2 zl
    obtain ⟨z0, z1, z2, zl⟩ := KC.out _ hbX
    by_cases h2 : labE c.langs c.labels = 0
    · rw [h2]
      by_cases h3 : 256 < c.sheets.length
      · have d3 : decide ((256 : Int) < (c.sheets.length : Int)) = true := decide_eq_true (by omega)
        have HE := Lib.hid (show rcatE c = 8 by unfold rcatE; rw [if_neg (by simp [h1]), if_neg (by simp [h2]), if_pos h3])
        clear h1 h2 h3
        go_wp2
        go_ret
        exact ⟨ret_int HE.out.symm, b1.trans (hbX.mono (Nat.le_succ _))⟩
      · have d3 : decide ((256 : Int) < (c.sheets.length : Int)) = false := decide_eq_false (by omega)
        have HE := Lib.hid (show rcatE c = rshtG c.langs c.sheets 0 (c.sheets.drop 0) by unfold rcatE; rw [if_neg (by simp [h1]), if_neg (by simp [h2]), if_neg h3]; rfl)
        clear h1 h2 h3
        go_wp2
        clear z0 z1 z2 zl
        go_loopw [5] (fun i wr => ∃ k : Nat, k ≤ c.sheets.length ∧ i = .int .i64 k ∧ Hid (rcatE c = rshtG c.langs c.sheets k (c.sheets.drop k)) ∧ Below (w.heap.size + 1) (w.alloc (catC (.slice A1 c.langs.length ca1) (.slice A2 c.labels.length ca2) (.slice A3 c.sheets.length ca3))) wr) (fun i _ => c.sheets.length - (intOf i).toNat)
        case atStart => exact ⟨0, Nat.zero_le _, rfl, HE, hbX⟩
        case round =>
          clear HE hbX
          obtain ⟨k, hk, rfl, HS, hb⟩ := hrel
          obtain ⟨z0, z1, z2, zl⟩ := KC.out wr hb
          have Br := b1.trans (hb.mono (Nat.le_succ _))
          by_cases hlt : k < c.sheets.length
          · obtain ⟨x, hx⟩ := get_at c.sheets hlt
            have HD := Lib.hid (drop_at hx)
            have HSX := Lib.hid (HSH.out k x hx wr Br)
            clear hx
            by_cases h0 : rshtF c.langs c.sheets k x = 0
            · have HE := Lib.hid (show rcatE c = rshtG c.langs c.sheets (k + 1) (c.sheets.drop (k + 1)) by rw [HS.out, HD.out, rshtG_cons, if_pos h0])
              rw [h0] at HSX
              clear h0
              go_wp2_with fail
              refine HSX.out.mono ?_
              rintro e w3 ⟨rfl, hb3⟩
              go_wp2
              go_roundw
              case rel => exact ⟨k + 1, by omega, by go_num, HE, bnd_call hb (by simp) hb3⟩
              case measure => simp [intOf]; omega
            · have HE := Lib.hid (show rcatE c = rshtF c.langs c.sheets k x by rw [HS.out, HD.out, rshtG_cons, if_neg h0])
              obtain ⟨n1, n2⟩ := ne_boolR h0
              clear h0
              go_wp2_with fail
              refine HSX.out.mono ?_
              rintro e w3 ⟨rfl, hb3⟩
              go_wp2
              go_ret
              exact ⟨ret_int HE.out.symm, b1.trans ((bnd_call hb (by simp) hb3).mono (Nat.le_succ _))⟩
          · have HE := Lib.hid (show rcatE c = 0 by rw [HS.out, List.drop_of_length_le (by omega)]; rfl)
            go_wp2
            go_ret
            exact ⟨ret_int HE.out.symm, Br⟩
    · have HE := Lib.hid (show rcatE c = labE c.langs c.labels by unfold rcatE; rw [if_neg (by simp [h1]), if_pos h2])
      obtain ⟨n1, n2⟩ := ne_boolR h2
      clear h1 h2
      go_wp2
      go_ret
      exact ⟨ret_int HE.out.symm, b1.trans (hbX.mono (Nat.le_succ _))⟩
  · have HE := Lib.hid (show rcatE c = langE c.langs by unfold rcatE; rw [if_pos h1])
    obtain ⟨n1, n2⟩ := ne_boolR h1
    clear h1
    go_wp2
    go_ret
    exact ⟨ret_int HE.out.symm, b1.trans (hbX.mono (Nat.le_succ _))⟩
open Go.RowKit

def preferR (c : Cat) (s : ByteArray) : List ByteArray := if rightB c s = true then prefF c.langs s else []
set_option maxRecDepth 100000 in
set_option maxHeartbeats 4000000 in
theorem rright_c (c : Cat) (s : ByteArray) (v1 v2 v3 : Value) (w : World) (B : Nat) (hB : B ≤ w.heap.size) (h : CatRep w B c v1 v2 v3) (hl : c.sheets.length ≤ 1000) :
    Calls Tryz.prog 50 #[.agg #[v1, v2, v3], .string s] w fun e w' => e = .returned (.bool (rightB c s)) ∧ Below w.heap.size w w' := by
  have b1 : Below w.heap.size w (w.alloc (catC v1 v2 v3)) := (Below.refl _ _).alloc (Nat.le_refl _) _
  have hb0 : Below (w.heap.size + 1) (w.alloc (catC v1 v2 v3)) (w.alloc (catC v1 v2 v3)) := Below.refl _ _
  have KC := Lib.hid (fun (W : World) (hW : Below (w.heap.size + 1) (w.alloc (catC v1 v2 v3)) W) => cat_at3 hW)
  have HCK := Lib.hid (fun (W : World) (hW : Below w.heap.size w W) => rcheck47_c c v1 v2 v3 W B (Nat.le_trans hB hW.size) (h.below (hW.mono hB)) hl)
  have HHA := Lib.hid (fun (W : World) (hW : Below w.heap.size w W) => rhas_c c.langs s v1 W (fun b => b < B) (fun b hb => by have : b < B := hb; have := hW.size; omega) (h.langs.below strS (hW.mono hB)))
  obtain ⟨A1, ca1, rfl, -⟩ := id h.langs
  clear h
  by_cases h1 : catE c = 0
  · have HE := Lib.hid (show rightB c s = hasS c.langs s by unfold rightB; rw [decide_eq_true h1]; rfl)
    rw [h1] at HCK
    clear h1
    go_enter Tryz.func50, Tryz.ntmps50
    go_wp2_with fail
    refine (HCK.out _ b1).mono ?_
    rintro e w1 ⟨rfl, hb1⟩
    have hbX := bnd_call hb0 (by simp) hb1
    obtain ⟨z0, z1, z2, zl⟩ := KC.out _ hbX
    go_wp2_with fail
    refine (HHA.out _ (b1.trans (hbX.mono (Nat.le_succ _)))).mono ?_
    rintro e w2 ⟨rfl, rfl⟩
    go_wp2
    go_ret
    exact ⟨ret_bool HE.out.symm, b1.trans (hbX.mono (Nat.le_succ _))⟩
  · have HE := Lib.hid (show rightB c s = false by unfold rightB; rw [decide_eq_false h1]; rfl)
    obtain ⟨n1, n2⟩ := ne_boolR h1
    clear h1
    go_enter Tryz.func50, Tryz.ntmps50
    go_wp2_with fail
    refine (HCK.out _ b1).mono ?_
    rintro e w1 ⟨rfl, hb1⟩
    have hbX := bnd_call hb0 (by simp) hb1
    go_wp2
    go_ret
    exact ⟨ret_bool HE.out.symm, b1.trans (hbX.mono (Nat.le_succ _))⟩
theorem filt_len {α : Type} (p : α → Bool) (l : List α) : (l.filter p).length ≤ l.length := List.length_filter_le _ _
set_option maxRecDepth 100000 in
set_option maxHeartbeats 4000000 in
theorem rprefer_c (c : Cat) (s : ByteArray) (v1 v2 v3 : Value) (w : World) (B : Nat) (hB : B ≤ w.heap.size) (h : Strs w B c.langs v1) (hl : c.langs.length ≤ 1000) :
    Calls Tryz.prog 51 #[.agg #[v1, v2, v3], .string s] w fun e w' => ∃ v', e = .returned v' ∧ OwnRep 1 (flat strEnc) 9 w.heap.size w' (prefF c.langs s) v' ∧ Below w.heap.size w w' := by
  have b1 : Below w.heap.size w (w.alloc (catC v1 v2 v3)) := (Below.refl _ _).alloc (Nat.le_refl _) _
  have hb1 : Below (w.heap.size + 1) (w.alloc (catC v1 v2 v3)) ((w.alloc (catC v1 v2 v3)).alloc (.cells #[.string s] 9)) := (Below.refl _ _).alloc (by simp) _
  have KC := Lib.hid (fun (W : World) (hW : Below (w.heap.size + 1) (w.alloc (catC v1 v2 v3)) W) => cat_at3 hW)
  have hX := h
  obtain ⟨A, ca, rfl, hc1, hc2, _⟩ := id h
  clear h
  have ho : OwnRep 1 (flat strEnc) 9 (w.heap.size + 1) ((w.alloc (catC (.slice A c.langs.length ca) v2 v3)).alloc (.cells #[.string s] 9)) (s :: (c.langs.take 0).filter (fun x => decide (x ≠ s))) (.slice (some ⟨w.heap.size + 1, 0, none⟩) 1 1) :=
    OwnRep.of_full strS rfl (by decide) (Nat.le_refl _) (by
      rw [show w.heap.size + 1 = (w.alloc (catC (.slice A c.langs.length ca) v2 v3)).heap.size by simp]
      exact Array.getElem?_push_size)
  go_enter Tryz.func51, Tryz.ntmps51
  go_wp2
  go_loopw [5, 6] (fun vo vi wr => ∃ k : Nat, k ≤ c.langs.length ∧ vi = .int .i64 k ∧ OwnRep 1 (flat strEnc) 9 (w.heap.size + 1) wr (s :: (c.langs.take k).filter (fun x => decide (x ≠ s))) vo ∧ Below (w.heap.size + 1) (w.alloc (catC (.slice A c.langs.length ca) v2 v3)) wr) (fun _ vi _ => c.langs.length - (intOf vi).toNat)
  case atStart => exact ⟨0, Nat.zero_le _, rfl, ho, hb1⟩
  case round =>
    clear ho hb1
    obtain ⟨k, hk, rfl, hown, hb⟩ := hrel
    obtain ⟨z0, z1, z2, zl⟩ := KC.out wr hb
    have Br := b1.trans (hb.mono (Nat.le_succ _))
    have hsr := Br.size
    by_cases hlt : k < c.langs.length
    · obtain ⟨x, hx⟩ := get_at c.langs hlt
      have HT := Lib.hid (take_at hx)
      obtain ⟨b, off, rfl, hbB, g0⟩ := Strs.at_ (hX.below strS (Br.mono hB)) hx
      have hbw : b < wr.heap.size := by have : b < B := hbB; omega
      have hki : (k : Int) < (c.langs.length : Int) := by omega
      clear hx
      by_cases hxs : x = s
      · have he : x.toList = s.toList := by rw [hxs]
        have he2 : (x.toList == s.toList) = true := by simp [he]
        have HL := Lib.hid (show (c.langs.take (k + 1)).filter (fun x => decide (x ≠ s)) = (c.langs.take k).filter (fun x => decide (x ≠ s)) by rw [HT.out, List.filter_append]; simp [hxs])
        clear hxs
        go_wp2
        go_roundw
        case rel => exact ⟨k + 1, by omega, by go_num, by rw [HL.out]; exact hown, hb⟩
        case measure => simp [intOf]; omega
      · have he : ¬ x.toList = s.toList := by rw [str_iff]; exact hxs
        have he2 : (x.toList == s.toList) = false := by simp [he]
        have HL := Lib.hid (show (s :: (c.langs.take k).filter (fun x => decide (x ≠ s))) ++ [x] = s :: (c.langs.take (k + 1)).filter (fun x => decide (x ≠ s)) by rw [HT.out, List.filter_append]; simp [hxs])
        have HN := Lib.hid (show (s :: (c.langs.take k).filter (fun x => decide (x ≠ s))).length ≤ 1001 by
          have := filt_len (fun x => decide (x ≠ s)) (c.langs.take k)
          rw [List.length_take] at this
          rw [List.length_cons]
          omega)
        clear hxs
        go_wp2_with (at_builtin; refine stop_intro ?_)
        refine stop_elim ?_
        have hA := hown.below strS ((Below.refl wr.heap.size wr).alloc (Nat.le_refl _) (.cells #[.string x] 9))
        refine wpList_append_rep rfl strS strE_ (w.heap.size + 1) (.tmp 23) (.tmp 29) rfl rfl hA rfl (ys := [x]) (SlRep.one_new strS (w := wr) (x := x) (F := fun _ => False) rfl rfl (fun _ h => h.elim)) ?F ?n (by decide) ?hbase ?_
        case F =>
          intro b' hb'
          rcases hb' with hb' | hb'
          · exact hb'.elim
          · subst hb'
            exact ⟨by simp, fun e => by have := hown.own_lt _ e; omega⟩
        case n => have := HN.out; rw [List.length_singleton]; omega
        case hbase => simp; omega
        intro v5 w5 hown5 hg5 hat5
        have hb5 := (hb.alloc (by have := hb.size; simp at this; omega) (.cells #[.string x] 9)).grown hg5 (by have := hb.size; simp at *; omega) (fun k hk => (hown.own_lt k hk).1)
        rw [HL.out] at hown5
        go_wp2
        go_roundw
        case rel => exact ⟨k + 1, by omega, by go_num, hown5, hb5⟩
        case measure => simp [intOf]; omega
    · have HL := Lib.hid (show s :: (c.langs.take k).filter (fun x => decide (x ≠ s)) = prefF c.langs s by rw [List.take_of_length_le (by omega)]; rfl)
      go_wp2
      go_ret
      exact ⟨_, rfl, by rw [← HL.out]; exact hown.base_le (Nat.le_succ _), Br⟩
set_option maxRecDepth 100000 in
set_option maxHeartbeats 4000000 in
theorem rPrefer_c (c : Cat) (s : ByteArray) (v1 v2 v3 : Value) (w : World) (B : Nat) (hB : B ≤ w.heap.size) (h : CatRep w B c v1 v2 v3) (hl : c.sheets.length ≤ 1000) (hl2 : c.langs.length ≤ 1000) :
    Calls Tryz.prog 16 #[.agg #[v1, v2, v3], .string s] w fun e w' => ∃ v', e = .returned v' ∧ OwnRep 1 (flat strEnc) 9 w.heap.size w' (preferR c s) v' ∧ Below w.heap.size w w' := by
  have b1 : Below w.heap.size w (w.alloc (catC v1 v2 v3)) := (Below.refl _ _).alloc (Nat.le_refl _) _
  have hb0 : Below (w.heap.size + 1) (w.alloc (catC v1 v2 v3)) (w.alloc (catC v1 v2 v3)) := Below.refl _ _
  have KC := Lib.hid (fun (W : World) (hW : Below (w.heap.size + 1) (w.alloc (catC v1 v2 v3)) W) => cat_at3 hW)
  have HRI := Lib.hid (fun (W : World) (hW : Below w.heap.size w W) => rright_c c s v1 v2 v3 W B (Nat.le_trans hB hW.size) (h.below (hW.mono hB)) hl)
  have HPR := Lib.hid (fun (W : World) (hW : Below w.heap.size w W) => rprefer_c c s v1 v2 v3 W B (Nat.le_trans hB hW.size) (h.langs.below strS (hW.mono hB)) hl2)
  cases hr : rightB c s
  · have HE := Lib.hid (show preferR c s = [] by unfold preferR; rw [hr]; rfl)
    rw [hr] at HRI
    clear hr
    go_enter Tryz.func16, Tryz.ntmps16
    go_wp2_with fail
    refine (HRI.out _ b1).mono ?_
    rintro e w1 ⟨rfl, hb1⟩
    have hbX := bnd_call hb0 (by simp) hb1
    go_wp2
    go_ret
    exact ⟨_, rfl, by rw [HE.out]; exact OwnRep.nil_, b1.trans (hbX.mono (Nat.le_succ _))⟩
  · have HE := Lib.hid (show preferR c s = prefF c.langs s by unfold preferR; rw [hr]; rfl)
    rw [hr] at HRI
    clear hr
    go_enter Tryz.func16, Tryz.ntmps16
    go_wp2_with fail
    refine (HRI.out _ b1).mono ?_
    rintro e w1 ⟨rfl, hb1⟩
    have hbX := bnd_call hb0 (by simp) hb1
    obtain ⟨z0, z1, z2, zl⟩ := KC.out _ hbX
    have B1 := b1.trans (hbX.mono (Nat.le_succ _))
    go_wp2_with fail
    refine (HPR.out _ B1).mono ?_
    rintro e w2 ⟨v', rfl, hown, hb2⟩
    go_wp2
    go_ret
    exact ⟨_, rfl, by rw [HE.out]; exact hown.base_le B1.size, B1.trans (hb2.mono B1.size)⟩
set_option maxRecDepth 100000 in
set_option maxHeartbeats 4000000 in
theorem Prefer_c (c : Cat) (s : ByteArray) (v1 v2 v3 : Value) (w : World) (B : Nat) (hB : B ≤ w.heap.size) (h : CatRep w B c v1 v2 v3) :
    Calls Tryz.prog 15 #[.agg #[v1, v2, v3], .string s] w fun e w' => ∃ v', e = .returned v' ∧ OwnRep 1 (flat strEnc) 9 w.heap.size w' (preferR c s) v' ∧ Below w.heap.size w w' := by
  have b1 : Below w.heap.size w (w.alloc (catC v1 v2 v3)) := (Below.refl _ _).alloc (Nat.le_refl _) _
  have hb0 : Below (w.heap.size + 1) (w.alloc (catC v1 v2 v3)) (w.alloc (catC v1 v2 v3)) := Below.refl _ _
  have KC := Lib.hid (fun (W : World) (hW : Below (w.heap.size + 1) (w.alloc (catC v1 v2 v3)) W) => cat_at3 hW)
  have HRI := Lib.hid (fun (W : World) (hW : Below w.heap.size w W) => speaks_c c s v1 v2 v3 W B (Nat.le_trans hB hW.size) (h.below (hW.mono hB)))
  cases hr : rightB c s
  · have HE := Lib.hid (show preferR c s = [] by unfold preferR; rw [hr]; rfl)
    rw [hr] at HRI
    clear hr
    go_enter Tryz.func15, Tryz.ntmps15
    go_wp2_with fail
    refine (HRI.out _ b1).mono ?_
    rintro e w1 ⟨rfl, hb1⟩
    have hbX := bnd_call hb0 (by simp) hb1
    go_wp2
    go_ret
    exact ⟨_, rfl, by rw [HE.out]; exact OwnRep.nil_, b1.trans (hbX.mono (Nat.le_succ _))⟩
  · obtain ⟨hc0, hsl⟩ := rightB_iff hr
    obtain ⟨hz1, -, -, -⟩ := catE_zero hc0
    obtain ⟨l1, l2, l3, -⟩ := langE_zero hz1
    have HPR := Lib.hid (fun (W : World) (hW : Below w.heap.size w W) => prefer_c c s v1 v2 v3 W B (Nat.le_trans hB hW.size) (h.langs.below strS (hW.mono hB)) hsl l2)
    have HE := Lib.hid (show preferR c s = prefP c.langs s by unfold preferR; rw [hr, pref_eq l3 hsl]; rfl)
    rw [hr] at HRI
    clear hr hz1
    go_enter Tryz.func15, Tryz.ntmps15
    go_wp2_with fail
    refine (HRI.out _ b1).mono ?_
    rintro e w1 ⟨rfl, hb1⟩
    have hbX := bnd_call hb0 (by simp) hb1
    obtain ⟨z0, z1, z2, zl⟩ := KC.out _ hbX
    have B1 := b1.trans (hbX.mono (Nat.le_succ _))
    go_wp2_with fail
    refine (HPR.out _ B1).mono ?_
    rintro e w2 ⟨v', rfl, hown, hb2⟩
    go_wp2
    go_ret
    exact ⟨_, rfl, by rw [HE.out]; exact hown.base_le B1.size, B1.trans (hb2.mono B1.size)⟩
/-- slices.Equal at two slices that read alike -/
theorem equalSt_c (xs : List ByteArray) (v v' : Value) (w : World) (B : Nat) (hB : B ≤ w.heap.size) (h : SlRep 1 (flat strEnc) w (fun b => b < B) xs v) (h' : SlRep 1 (flat strEnc) w (fun b => b < B) xs v') :
    Calls Tryz.prog 14 #[v, v'] w fun e w' => e = .returned (.bool true) ∧ Below w.heap.size w w' := by
  obtain ⟨A, c, rfl, hc1, hc2, _⟩ := id h
  obtain ⟨A', c', rfl, hd1, hd2, _⟩ := id h'
  go_enter Tryz.func14, Tryz.ntmps14
  go_wp2
  go_loopw [13] (fun i wr => ∃ k : Nat, k ≤ xs.length ∧ i = .int .i64 k ∧ ∃ n, wr = w.drewN n) (fun i _ => xs.length - (intOf i).toNat)
  case atStart => exact ⟨0, Nat.zero_le _, rfl, 0, rfl⟩
  case round =>
    obtain ⟨k, hk, rfl, nd, rfl⟩ := hrel
    by_cases hlt : k < xs.length
    · obtain ⟨x, hx⟩ := get_at xs hlt
      obtain ⟨b, off, rfl, hbB, g0⟩ := Strs.at_ h hx
      obtain ⟨b', off', rfl, hbB', q0⟩ := Strs.at_ h' hx
      have hbw : b < w.heap.size := by have : b < B := hbB; omega
      have hbw' : b' < w.heap.size := by have : b' < B := hbB'; omega
      clear hx
      go_wp2
      go_quiet (fail)
      go_wp2
      go_roundw
      case rel => exact ⟨k + 1, by omega, by go_num, _, rfl⟩
      case measure => simp [intOf]; omega
    · go_wp2
      go_ret
      exact ⟨rfl, below_of_drew _ ⟨_, rfl⟩⟩
def eqFct (x y : Fact) : Bool := decide (x.el = y.el) && decide (x.lang = y.lang) && decide (x.text = y.text)
theorem eqFct_self (x : Fact) : eqFct x x = true := by simp [eqFct]
theorem Fact.neq (x y : Fact) (w : World) : (binOp .neq 49 (.agg #[.int .i64 x.el, .string x.lang, .string x.text]) (.agg #[.int .i64 y.el, .string y.lang, .string y.text])).run Tryz.prog w = .ok (.bool (!eqFct x y)) w := by
  have hs : ∀ (d : Nat) (xs ys : Array Value), (Op.equalIn (d + 1) 49 (.agg xs) (.agg ys)).run Tryz.prog w = (Op.eqFields d xs ys (Tryz.prog.fieldsOf 49).toList).run Tryz.prog w := fun d xs ys => run_equalIn_struct w d 49 xs ys (by kernel_rfl) (by kernel_rfl)
  simp only [binOp]
  simp [Op.equal, Op.maxDepth, hs 9999, Program.fieldsOf, Tryz.underlying49, go_sem, eqFct, str_eq]
  by_cases h0 : x.el = y.el <;> by_cases h1 : x.lang = y.lang <;> by_cases h2 : x.text = y.text <;> simp [h0, h1, h2]
theorem equalFc_c (xs : List Fact) (v v' : Value) (w : World) (B : Nat) (hB : B ≤ w.heap.size) (h : SlRep 3 (flat Fact.enc) w (fun b => b < B) xs v) (h' : SlRep 3 (flat Fact.enc) w (fun b => b < B) xs v') :
    Calls Tryz.prog 19 #[v, v'] w fun e w' => e = .returned (.bool true) ∧ Below w.heap.size w w' := by
  obtain ⟨A, c, rfl, hc1, hc2, _⟩ := id h
  obtain ⟨A', c', rfl, hd1, hd2, _⟩ := id h'
  go_enter Tryz.func19, Tryz.ntmps19
  go_wp2
  go_loopw [13] (fun i wr => ∃ k : Nat, k ≤ xs.length ∧ i = .int .i64 k ∧ ∃ n, wr = w.drewN n) (fun i _ => xs.length - (intOf i).toNat)
  case atStart => exact ⟨0, Nat.zero_le _, rfl, 0, rfl⟩
  case round =>
    obtain ⟨k, hk, rfl, nd, rfl⟩ := hrel
    by_cases hlt : k < xs.length
    · obtain ⟨x, hx⟩ := get_at xs hlt
      obtain ⟨b, off, rfl, hbB, g0, g1, g2⟩ := Facts.at_ h hx
      obtain ⟨b', off', rfl, hbB', q0, q1, q2⟩ := Facts.at_ h' hx
      have hbw : b < w.heap.size := by have : b < B := hbB; omega
      have hbw' : b' < w.heap.size := by have : b' < B := hbB'; omega
      have hne := fun W : World => Fact.neq x x W
      rw [eqFct_self] at hne
      simp only [Bool.not_true] at hne
      clear hx
      go_wp2
      go_quiet (fail)
      go_wp2
      go_roundw
      case rel => exact ⟨k + 1, by omega, by go_num, _, rfl⟩
      case measure => simp [intOf]; omega
    · go_wp2
      go_ret
      exact ⟨rfl, below_of_drew _ ⟨_, rfl⟩⟩
end Go.Proofs.YtbmlnflacdockaaGreatDoor
