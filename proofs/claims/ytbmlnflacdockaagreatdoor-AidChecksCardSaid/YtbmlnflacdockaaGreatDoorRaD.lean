/- The reference of chapter 47: right, prefer, Prefer; the program's Prefer; slices.Equal on strings. -/
import Derived.Test.YtbmlnflacdockaaGreatDoorRaC
import Derived.Test.YtbmlnflacdockaaGreatDoorPrI
namespace Go.Proofs.YtbmlnflacdockaaGreatDoor
open Go.RowKit

def preferR (c : Cat) (s : ByteArray) : List ByteArray := if rightB c s = true then prefF c.langs s else []
set_option maxRecDepth 100000 in
set_option maxHeartbeats 4000000 in
theorem rright_c (c : Cat) (s : ByteArray) (v1 v2 v3 : Value) (w : World) (B : Nat) (hB : B ≤ w.heap.size) (h : CatRep w B c v1 v2 v3) (hl : c.sheets.length ≤ 1000) :
    Calls Tryz.prog 50 #[.agg #[v1, v2, v3], .string s] w fun e w' => e = .returned (.bool (rightB c s)) ∧ Below w.heap.size w w' := by
  have b1 : Below w.heap.size w (w.alloc (catC v1 v2 v3)) := (Below.refl _ _).alloc (Nat.le_refl _) _
  have hb0 : Below (w.heap.size + 1) (w.alloc (catC v1 v2 v3)) (w.alloc (catC v1 v2 v3)) := Below.refl _ _
  have KC := Lib.hid (fun (W : World) (hW : Below (w.heap.size + 1) (w.alloc (catC v1 v2 v3)) W) => cat_at3 hW)
  have HCK := Lib.hid (fun (W : World) (hW : Below w.heap.size w W) => rcheck47_c c v1 v2 v3 W B (Nat.le_trans hB hW.size) (h.below (hW.mono hB)) hl)
  have HHA := Lib.hid (fun (W : World) (hW : Below w.heap.size w W) => rhas_c c.langs s v1 W (fun b => b < B) (fun b hb => by have : b < B := hb; have := hW.size; omega) (h.langs.below strS (hW.mono hB)))
  obtain ⟨A1, ca1, rfl, -⟩ := id h.langs
  clear h
  by_cases h1 : catE c = 0
  · have HE := Lib.hid (show rightB c s = hasS c.langs s by unfold rightB; rw [decide_eq_true h1]; rfl)
    rw [h1] at HCK
    clear h1
    go_enter Tryz.func50, Tryz.ntmps50
    go_wp2_with fail
    refine (HCK.out _ b1).mono ?_
    rintro e w1 ⟨rfl, hb1⟩
    have hbX := bnd_call hb0 (by simp) hb1
    obtain ⟨z0, z1, z2, zl⟩ := KC.out _ hbX
    go_wp2_with fail
    refine (HHA.out _ (b1.trans (hbX.mono (Nat.le_succ _)))).mono ?_
    rintro e w2 ⟨rfl, rfl⟩
    go_wp2
    go_ret
    exact ⟨ret_bool HE.out.symm, b1.trans (hbX.mono (Nat.le_succ _))⟩
  · have HE := Lib.hid (show rightB c s = false by unfold rightB; rw [decide_eq_false h1]; rfl)
    obtain ⟨n1, n2⟩ := ne_boolR h1
    clear h1
    go_enter Tryz.func50, Tryz.ntmps50
    go_wp2_with fail
    refine (HCK.out _ b1).mono ?_
    rintro e w1 ⟨rfl, hb1⟩
    have hbX := bnd_call hb0 (by simp) hb1
    go_wp2
    go_ret
    exact ⟨ret_bool HE.out.symm, b1.trans (hbX.mono (Nat.le_succ _))⟩
theorem filt_len {α : Type} (p : α → Bool) (l : List α) : (l.filter p).length ≤ l.length := List.length_filter_le _ _
set_option maxRecDepth 100000 in
set_option maxHeartbeats 4000000 in
theorem rprefer_c (c : Cat) (s : ByteArray) (v1 v2 v3 : Value) (w : World) (B : Nat) (hB : B ≤ w.heap.size) (h : Strs w B c.langs v1) (hl : c.langs.length ≤ 1000) :
    Calls Tryz.prog 51 #[.agg #[v1, v2, v3], .string s] w fun e w' => ∃ v', e = .returned v' ∧ OwnRep 1 (flat strEnc) 9 w.heap.size w' (prefF c.langs s) v' ∧ Below w.heap.size w w' := by
  have b1 : Below w.heap.size w (w.alloc (catC v1 v2 v3)) := (Below.refl _ _).alloc (Nat.le_refl _) _
  have hb1 : Below (w.heap.size + 1) (w.alloc (catC v1 v2 v3)) ((w.alloc (catC v1 v2 v3)).alloc (.cells #[.string s] 9)) := (Below.refl _ _).alloc (by simp) _
  have KC := Lib.hid (fun (W : World) (hW : Below (w.heap.size + 1) (w.alloc (catC v1 v2 v3)) W) => cat_at3 hW)
  have hX := h
  obtain ⟨A, ca, rfl, hc1, hc2, _⟩ := id h
  clear h
  have ho : OwnRep 1 (flat strEnc) 9 (w.heap.size + 1) ((w.alloc (catC (.slice A c.langs.length ca) v2 v3)).alloc (.cells #[.string s] 9)) (s :: (c.langs.take 0).filter (fun x => decide (x ≠ s))) (.slice (some ⟨w.heap.size + 1, 0, none⟩) 1 1) :=
    OwnRep.of_full strS rfl (by decide) (Nat.le_refl _) (by
      rw [show w.heap.size + 1 = (w.alloc (catC (.slice A c.langs.length ca) v2 v3)).heap.size by simp]
      exact Array.getElem?_push_size)
  go_enter Tryz.func51, Tryz.ntmps51
  go_wp2
  go_loopw [5, 6] (fun vo vi wr => ∃ k : Nat, k ≤ c.langs.length ∧ vi = .int .i64 k ∧ OwnRep 1 (flat strEnc) 9 (w.heap.size + 1) wr (s :: (c.langs.take k).filter (fun x => decide (x ≠ s))) vo ∧ Below (w.heap.size + 1) (w.alloc (catC (.slice A c.langs.length ca) v2 v3)) wr) (fun _ vi _ => c.langs.length - (intOf vi).toNat)
  case atStart => exact ⟨0, Nat.zero_le _, rfl, ho, hb1⟩
  case round =>
    clear ho hb1
    obtain ⟨k, hk, rfl, hown, hb⟩ := hrel
    obtain ⟨z0, z1, z2, zl⟩ := KC.out wr hb
    have Br := b1.trans (hb.mono (Nat.le_succ _))
    have hsr := Br.size
    by_cases hlt : k < c.langs.length
    · obtain ⟨x, hx⟩ := get_at c.langs hlt
      have HT := Lib.hid (take_at hx)
      obtain ⟨b, off, rfl, hbB, g0⟩ := Strs.at_ (hX.below strS (Br.mono hB)) hx
      have hbw : b < wr.heap.size := by have : b < B := hbB; omega
      have hki : (k : Int) < (c.langs.length : Int) := by omega
      clear hx
      by_cases hxs : x = s
      · have he : x.toList = s.toList := by rw [hxs]
        have he2 : (x.toList == s.toList) = true := by simp [he]
        have HL := Lib.hid (show (c.langs.take (k + 1)).filter (fun x => decide (x ≠ s)) = (c.langs.take k).filter (fun x => decide (x ≠ s)) by rw [HT.out, List.filter_append]; simp [hxs])
        clear hxs
        go_wp2
        go_roundw
        case rel => exact ⟨k + 1, by omega, by go_num, by rw [HL.out]; exact hown, hb⟩
        case measure => simp [intOf]; omega
      · have he : ¬ x.toList = s.toList := by rw [str_iff]; exact hxs
        have he2 : (x.toList == s.toList) = false := by simp [he]
        have HL := Lib.hid (show (s :: (c.langs.take k).filter (fun x => decide (x ≠ s))) ++ [x] = s :: (c.langs.take (k + 1)).filter (fun x => decide (x ≠ s)) by rw [HT.out, List.filter_append]; simp [hxs])
        have HN := Lib.hid (show (s :: (c.langs.take k).filter (fun x => decide (x ≠ s))).length ≤ 1001 by
          have := filt_len (fun x => decide (x ≠ s)) (c.langs.take k)
          rw [List.length_take] at this
          rw [List.length_cons]
          omega)
        clear hxs
        go_wp2_with (at_builtin; refine stop_intro ?_)
        refine stop_elim ?_
        have hA := hown.below strS ((Below.refl wr.heap.size wr).alloc (Nat.le_refl _) (.cells #[.string x] 9))
        refine wpList_append_rep rfl strS strE_ (w.heap.size + 1) (.tmp 23) (.tmp 29) rfl rfl hA rfl (ys := [x]) (SlRep.one_new strS (w := wr) (x := x) (F := fun _ => False) rfl rfl (fun _ h => h.elim)) ?F ?n (by decide) ?hbase ?_
        case F =>
          intro b' hb'
          rcases hb' with hb' | hb'
          · exact hb'.elim
          · subst hb'
            exact ⟨by simp, fun e => by have := hown.own_lt _ e; omega⟩
        case n => have := HN.out; rw [List.length_singleton]; omega
        case hbase => simp; omega
        intro v5 w5 hown5 hg5 hat5
        have hb5 := (hb.alloc (by have := hb.size; simp at this; omega) (.cells #[.string x] 9)).grown hg5 (by have := hb.size; simp at *; omega) (fun k hk => (hown.own_lt k hk).1)
        rw [HL.out] at hown5
        go_wp2
        go_roundw
        case rel => exact ⟨k + 1, by omega, by go_num, hown5, hb5⟩
        case measure => simp [intOf]; omega
    · have HL := Lib.hid (show s :: (c.langs.take k).filter (fun x => decide (x ≠ s)) = prefF c.langs s by rw [List.take_of_length_le (by omega)]; rfl)
      go_wp2
      go_ret
      exact ⟨_, rfl, by rw [← HL.out]; exact hown.base_le (Nat.le_succ _), Br⟩
set_option maxRecDepth 100000 in
set_option maxHeartbeats 4000000 in
theorem rPrefer_c (c : Cat) (s : ByteArray) (v1 v2 v3 : Value) (w : World) (B : Nat) (hB : B ≤ w.heap.size) (h : CatRep w B c v1 v2 v3) (hl : c.sheets.length ≤ 1000) (hl2 : c.langs.length ≤ 1000) :
    Calls Tryz.prog 16 #[.agg #[v1, v2, v3], .string s] w fun e w' => ∃ v', e = .returned v' ∧ OwnRep 1 (flat strEnc) 9 w.heap.size w' (preferR c s) v' ∧ Below w.heap.size w w' := by
  have b1 : Below w.heap.size w (w.alloc (catC v1 v2 v3)) := (Below.refl _ _).alloc (Nat.le_refl _) _
  have hb0 : Below (w.heap.size + 1) (w.alloc (catC v1 v2 v3)) (w.alloc (catC v1 v2 v3)) := Below.refl _ _
  have KC := Lib.hid (fun (W : World) (hW : Below (w.heap.size + 1) (w.alloc (catC v1 v2 v3)) W) => cat_at3 hW)
  have HRI := Lib.hid (fun (W : World) (hW : Below w.heap.size w W) => rright_c c s v1 v2 v3 W B (Nat.le_trans hB hW.size) (h.below (hW.mono hB)) hl)
  have HPR := Lib.hid (fun (W : World) (hW : Below w.heap.size w W) => rprefer_c c s v1 v2 v3 W B (Nat.le_trans hB hW.size) (h.langs.below strS (hW.mono hB)) hl2)
  cases hr : rightB c s
  · have HE := Lib.hid (show preferR c s = [] by unfold preferR; rw [hr]; rfl)
    rw [hr] at HRI
    clear hr
    go_enter Tryz.func16, Tryz.ntmps16
    go_wp2_with fail
    refine (HRI.out _ b1).mono ?_
    rintro e w1 ⟨rfl, hb1⟩
    have hbX := bnd_call hb0 (by simp) hb1
    go_wp2
    go_ret
    exact ⟨_, rfl, by rw [HE.out]; exact OwnRep.nil_, b1.trans (hbX.mono (Nat.le_succ _))⟩
  · have HE := Lib.hid (show preferR c s = prefF c.langs s by unfold preferR; rw [hr]; rfl)
    rw [hr] at HRI
    clear hr
    go_enter Tryz.func16, Tryz.ntmps16
    go_wp2_with fail
    refine (HRI.out _ b1).mono ?_
    rintro e w1 ⟨rfl, hb1⟩
    have hbX := bnd_call hb0 (by simp) hb1
    obtain ⟨z0, z1, z2, zl⟩ := KC.out _ hbX
    have B1 := b1.trans (hbX.mono (Nat.le_succ _))
    go_wp2_with fail
    refine (HPR.out _ B1).mono ?_
    rintro e w2 ⟨v', rfl, hown, hb2⟩
    go_wp2
    go_ret
    exact ⟨_, rfl, by rw [HE.out]; exact hown.base_le B1.size, B1.trans (hb2.mono B1.size)⟩
set_option maxRecDepth 100000 in
set_option maxHeartbeats 4000000 in
theorem Prefer_c (c : Cat) (s : ByteArray) (v1 v2 v3 : Value) (w : World) (B : Nat) (hB : B ≤ w.heap.size) (h : CatRep w B c v1 v2 v3) :
    Calls Tryz.prog 15 #[.agg #[v1, v2, v3], .string s] w fun e w' => ∃ v', e = .returned v' ∧ OwnRep 1 (flat strEnc) 9 w.heap.size w' (preferR c s) v' ∧ Below w.heap.size w w' := by
  have b1 : Below w.heap.size w (w.alloc (catC v1 v2 v3)) := (Below.refl _ _).alloc (Nat.le_refl _) _
  have hb0 : Below (w.heap.size + 1) (w.alloc (catC v1 v2 v3)) (w.alloc (catC v1 v2 v3)) := Below.refl _ _
  have KC := Lib.hid (fun (W : World) (hW : Below (w.heap.size + 1) (w.alloc (catC v1 v2 v3)) W) => cat_at3 hW)
  have HRI := Lib.hid (fun (W : World) (hW : Below w.heap.size w W) => speaks_c c s v1 v2 v3 W B (Nat.le_trans hB hW.size) (h.below (hW.mono hB)))
  cases hr : rightB c s
  · have HE := Lib.hid (show preferR c s = [] by unfold preferR; rw [hr]; rfl)
    rw [hr] at HRI
    clear hr
    go_enter Tryz.func15, Tryz.ntmps15
    go_wp2_with fail
    refine (HRI.out _ b1).mono ?_
    rintro e w1 ⟨rfl, hb1⟩
    have hbX := bnd_call hb0 (by simp) hb1
    go_wp2
    go_ret
    exact ⟨_, rfl, by rw [HE.out]; exact OwnRep.nil_, b1.trans (hbX.mono (Nat.le_succ _))⟩
  · obtain ⟨hc0, hsl⟩ := rightB_iff hr
    obtain ⟨hz1, -, -, -⟩ := catE_zero hc0
    obtain ⟨l1, l2, l3, -⟩ := langE_zero hz1
    have HPR := Lib.hid (fun (W : World) (hW : Below w.heap.size w W) => prefer_c c s v1 v2 v3 W B (Nat.le_trans hB hW.size) (h.langs.below strS (hW.mono hB)) hsl l2)
    have HE := Lib.hid (show preferR c s = prefP c.langs s by unfold preferR; rw [hr, pref_eq l3 hsl]; rfl)
    rw [hr] at HRI
    clear hr hz1
    go_enter Tryz.func15, Tryz.ntmps15
    go_wp2_with fail
    refine (HRI.out _ b1).mono ?_
    rintro e w1 ⟨rfl, hb1⟩
    have hbX := bnd_call hb0 (by simp) hb1
    obtain ⟨z0, z1, z2, zl⟩ := KC.out _ hbX
    have B1 := b1.trans (hbX.mono (Nat.le_succ _))
    go_wp2_with fail
    refine (HPR.out _ B1).mono ?_
    rintro e w2 ⟨v', rfl, hown, hb2⟩
    go_wp2
    go_ret
    exact ⟨_, rfl, by rw [HE.out]; exact hown.base_le B1.size, B1.trans (hb2.mono B1.size)⟩
/-- slices.Equal at two slices that read alike -/
theorem equalSt_c (xs : List ByteArray) (v v' : Value) (w : World) (B : Nat) (hB : B ≤ w.heap.size) (h : SlRep 1 (flat strEnc) w (fun b => b < B) xs v) (h' : SlRep 1 (flat strEnc) w (fun b => b < B) xs v') :
    Calls Tryz.prog 14 #[v, v'] w fun e w' => e = .returned (.bool true) ∧ Below w.heap.size w w' := by
  obtain ⟨A, c, rfl, hc1, hc2, _⟩ := id h
  obtain ⟨A', c', rfl, hd1, hd2, _⟩ := id h'
  go_enter Tryz.func14, Tryz.ntmps14
  go_wp2
  go_loopw [13] (fun i wr => ∃ k : Nat, k ≤ xs.length ∧ i = .int .i64 k ∧ ∃ n, wr = w.drewN n) (fun i _ => xs.length - (intOf i).toNat)
  case atStart => exact ⟨0, Nat.zero_le _, rfl, 0, rfl⟩
  case round =>
    obtain ⟨k, hk, rfl, nd, rfl⟩ := hrel
    by_cases hlt : k < xs.length
    · obtain ⟨x, hx⟩ := get_at xs hlt
      obtain ⟨b, off, rfl, hbB, g0⟩ := Strs.at_ h hx
      obtain ⟨b', off', rfl, hbB', q0⟩ := Strs.at_ h' hx
      have hbw : b < w.heap.size := by have : b < B := hbB; omega
      have hbw' : b' < w.heap.size := by have : b' < B := hbB'; omega
      clear hx
      go_wp2
      go_quiet (fail)
      go_wp2
      go_roundw
      case rel => exact ⟨k + 1, by omega, by go_num, _, rfl⟩
      case measure => simp [intOf]; omega
    · go_wp2
      go_ret
      exact ⟨rfl, below_of_drew _ ⟨_, rfl⟩⟩
def eqFct (x y : Fact) : Bool := decide (x.el = y.el) && decide (x.lang = y.lang) && decide (x.text = y.text)
theorem eqFct_self (x : Fact) : eqFct x x = true := by simp [eqFct]
theorem Fact.neq (x y : Fact) (w : World) : (binOp .neq 49 (.agg #[.int .i64 x.el, .string x.lang, .string x.text]) (.agg #[.int .i64 y.el, .string y.lang, .string y.text])).run Tryz.prog w = .ok (.bool (!eqFct x y)) w := by
  have hs : ∀ (d : Nat) (xs ys : Array Value), (Op.equalIn (d + 1) 49 (.agg xs) (.agg ys)).run Tryz.prog w = (Op.eqFields d xs ys (Tryz.prog.fieldsOf 49).toList).run Tryz.prog w := fun d xs ys => run_equalIn_struct w d 49 xs ys (by kernel_rfl) (by kernel_rfl)
  simp only [binOp]
  simp [Op.equal, Op.maxDepth, hs 9999, Program.fieldsOf, Tryz.underlying49, go_sem, eqFct, str_eq]
  by_cases h0 : x.el = y.el <;> by_cases h1 : x.lang = y.lang <;> by_cases h2 : x.text = y.text <;> simp [h0, h1, h2]
theorem equalFc_c (xs : List Fact) (v v' : Value) (w : World) (B : Nat) (hB : B ≤ w.heap.size) (h : SlRep 3 (flat Fact.enc) w (fun b => b < B) xs v) (h' : SlRep 3 (flat Fact.enc) w (fun b => b < B) xs v') :
    Calls Tryz.prog 19 #[v, v'] w fun e w' => e = .returned (.bool true) ∧ Below w.heap.size w w' := by
  obtain ⟨A, c, rfl, hc1, hc2, _⟩ := id h
  obtain ⟨A', c', rfl, hd1, hd2, _⟩ := id h'
  go_enter Tryz.func19, Tryz.ntmps19
  go_wp2
  go_loopw [13] (fun i wr => ∃ k : Nat, k ≤ xs.length ∧ i = .int .i64 k ∧ ∃ n, wr = w.drewN n) (fun i _ => xs.length - (intOf i).toNat)
  case atStart => exact ⟨0, Nat.zero_le _, rfl, 0, rfl⟩
  case round =>
    obtain ⟨k, hk, rfl, nd, rfl⟩ := hrel
    by_cases hlt : k < xs.length
    · obtain ⟨x, hx⟩ := get_at xs hlt
      obtain ⟨b, off, rfl, hbB, g0, g1, g2⟩ := Facts.at_ h hx
      obtain ⟨b', off', rfl, hbB', q0, q1, q2⟩ := Facts.at_ h' hx
      have hbw : b < w.heap.size := by have : b < B := hbB; omega
      have hbw' : b' < w.heap.size := by have : b' < B := hbB'; omega
      have hne := fun W : World => Fact.neq x x W
      rw [eqFct_self] at hne
      simp only [Bool.not_true] at hne
      clear hx
      go_wp2
      go_quiet (fail)
      go_wp2
      go_roundw
      case rel => exact ⟨k + 1, by omega, by go_num, _, rfl⟩
      case measure => simp [intOf]; omega
    · go_wp2
      go_ret
      exact ⟨rfl, below_of_drew _ ⟨_, rfl⟩⟩
end Go.Proofs.YtbmlnflacdockaaGreatDoor
