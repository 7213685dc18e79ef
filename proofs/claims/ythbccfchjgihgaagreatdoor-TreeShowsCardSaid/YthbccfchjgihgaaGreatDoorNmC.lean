/- The program: names and marks. -/
import Derived.Test.YthbccfchjgihgaaGreatDoorVar
import Derived.Test.YthbccfchjgihgaaGreatDoorRes
import Derived.Test.YthbccfchjgihgaaGreatDoorTrD
import Derived.BigQuiet
namespace Go.Proofs.YthbccfchjgihgaaGreatDoor
open Go.RowKit Go.Shelf

theorem name1_c (x : Nat) (w : World) : Calls Tryz.prog 124 #[.int .i32 x] w fun e w' => e = .returned (.bool (visP x)) ∧ w' = w := by
  have HE := Lib.hid (show visP x = (decide (x < 32) || decide (126 < x)) from rfl)
  go_enter Tryz.func124, Tryz.ntmps124
  go_wp2
  all_goals
    go_ret
    refine ⟨ret_bool ?_, rfl⟩
    rw [HE.out]
    clear HE
    rw [Bool.eq_iff_iff]
    simp only [Bool.or_eq_true, decide_eq_true_eq, true_iff]
    omega
theorem head_at {s : ByteArray} (h : 0 < s.size) : s.data.toList.head? = some (s[0]'h) := by
  have h' : 0 < s.data.toList.length := by rw [Array.length_toList]; exact h
  rw [List.head?_eq_getElem?, List.getElem?_eq_getElem h']
  rfl
theorem last_at {s : ByteArray} (h : s.size - 1 < s.size) : s.data.toList.getLast? = some (s[s.size - 1]'h) := by
  have h' : s.size - 1 < s.data.toList.length := by rw [Array.length_toList]; exact h
  rw [List.getLast?_eq_getElem?, show s.data.toList.length - 1 = s.size - 1 by rw [Array.length_toList]; rfl, List.getElem?_eq_getElem h']
  rfl
theorem byte_of {b : UInt8} (h : (b.toNat : Int) = 32) : b = 32 := UInt8.toNat_inj.1 (by show b.toNat = 32; omega)
theorem byte_ne {b : UInt8} (h : ¬ (b.toNat : Int) = 32) : b ≠ 32 := fun e => h (by rw [e]; rfl)
set_option maxRecDepth 100000 in
set_option maxHeartbeats 2000000 in
theorem name_c (s : ByteArray) (w : World) (hV : VarOk w) : Calls Tryz.prog 90 #[.string s] w fun e w' => e = .returned (.bool (nameB s)) ∧ Below w.heap.size w w' := by
  have HE := Lib.hid (nameB_prog s)
  by_cases h1 : s.size < 1
  · have HX := Lib.hid (show nameB s = false by rw [HE.out]; simp; omega)
    have h1' : (s.size : Int) < 1 := by omega
    clear h1 HE
    go_enter Tryz.func90, Tryz.ntmps90
    go_wp2
    go_ret
    exact ⟨ret_bool HX.out.symm, Below.refl _ _⟩
  · by_cases h2 : 64 < s.size
    · have HX := Lib.hid (show nameB s = false by rw [HE.out]; simp; omega)
      have h1' : ¬ (s.size : Int) < 1 := by omega
      have h2' : (64 : Int) < s.size := by omega
      clear h1 h2 HE
      go_enter Tryz.func90, Tryz.ntmps90
      go_wp2
      go_ret
      exact ⟨ret_bool HX.out.symm, Below.refl _ _⟩
    · have h1' : ¬ (s.size : Int) < 1 := by omega
      have h2' : ¬ (64 : Int) < s.size := by omega
      have HX := Lib.hid (show 0 < s.size by omega)
      have h0' : (0 : Int) < s.size := by omega
      clear h1 h2
      go_enter Tryz.func90, Tryz.ntmps90
      go_wp2_with fail
      · rename_i hp hq
        go_ret
        refine ⟨ret_bool ?_, Below.refl _ _⟩
        rw [HE.out, head_at hp, show s[0] = 32 from byte_of hq]
        simp
      · rename_i hp hq hr ht
        go_ret
        refine ⟨ret_bool ?_, Below.refl _ _⟩
        rw [HE.out, last_at (Nat.sub_lt HX.out (by decide)), show s[s.size - 1] = 32 from byte_of ht]
        simp
      · rename_i hp hq hr ht K' hK'
        have HN := Lib.hid (show nameB s = (!Lib.contains s.data.toList [32, 32] && !decide (0 ≤ Lib.idxFunc visP true s)) by
          rw [HE.out, head_at hp, last_at (Nat.sub_lt HX.out (by decide))]
          have e1 : decide (some s[0] = some 32) = false := by simpa using byte_ne hq
          have e2 : decide (some (s[s.size - 1]'(Nat.sub_lt HX.out (by decide))) = some 32) = false := by simpa using byte_ne ht
          have e3 : decide (1 ≤ s.size) = true := by simp; omega
          have e4 : decide (s.size ≤ 64) = true := by simp; omega
          rw [e1, e2, e3, e4]
          simp)
        obtain ⟨m, hm⟩ := hV.len
        refine (Tryz.strings_Contains s ⟨#[32, 32]⟩ m w (by omega) hm).mono ?_
        rintro e w1 ⟨rfl, rfl⟩
        show match Ending.returned (Value.bool (Lib.contains s.data.toList [32, 32])), w1 with | _, _ => _
        cases hc : Lib.contains s.data.toList [32, 32]
        · have HF := Lib.hid (Tryz.strings_ContainsFunc_runes 124 #[] (fun _ _ => by kernel_rfl) visP s w1 (fun W x _ _ => (name1_c x W).mono (by rintro e W' ⟨rfl, rfl⟩; exact ⟨rfl, 0, rfl⟩)))
          go_wp2_with fail
          refine HF.out.mono ?_
          rintro e w2 ⟨rfl, hb2⟩
          go_wp2
          go_ret
          exact ⟨ret_bool (by rw [HN.out, hc]; simp), hb2⟩
        · go_wp2
          go_ret
          exact ⟨ret_bool (by rw [HN.out, hc]; simp), Below.refl _ _⟩
theorem marks1_c (x : Nat) (w : World) : Calls Tryz.prog 125 #[.int .i32 x] w fun e w' => e = .returned (.bool (visG 33 x)) ∧ w' = w := by
  have HE := Lib.hid (show visG 33 x = (decide (x < 33) || decide (126 < x)) from rfl)
  go_enter Tryz.func125, Tryz.ntmps125
  go_wp2
  all_goals
    go_ret
    refine ⟨ret_bool ?_, rfl⟩
    rw [HE.out]
    clear HE
    rw [Bool.eq_iff_iff]
    simp only [Bool.or_eq_true, decide_eq_true_eq, true_iff]
    omega
set_option maxRecDepth 100000 in
set_option maxHeartbeats 2000000 in
theorem marks_c (s : ByteArray) (w : World) : Calls Tryz.prog 91 #[.string s] w fun e w' => e = .returned (.bool (markB s)) ∧ Below w.heap.size w w' := by
  have HE := Lib.hid (markB_prog s)
  have HW := Lib.hid (within_c (s.size : Int) 1 64 w)
  cases hi : inB s.size 1 64
  · go_enter Tryz.func91, Tryz.ntmps91
    go_wp2_with fail
    refine HW.out.mono ?_
    rintro e w1 ⟨rfl, rfl⟩
    rw [hi]
    go_wp2
    go_ret
    exact ⟨ret_bool (by rw [HE.out, hi]; rfl), Below.refl _ _⟩
  · have HF := Lib.hid (Tryz.strings_ContainsFunc_runes 125 #[] (fun _ _ => by kernel_rfl) (visG 33) s w (fun W x _ _ => (marks1_c x W).mono (by rintro e W' ⟨rfl, rfl⟩; exact ⟨rfl, 0, rfl⟩)))
    go_enter Tryz.func91, Tryz.ntmps91
    go_wp2_with fail
    refine HW.out.mono ?_
    rintro e w1 ⟨rfl, rfl⟩
    rw [hi]
    go_wp2_with fail
    refine HF.out.mono ?_
    rintro e w2 ⟨rfl, hb2⟩
    go_wp2
    go_ret
    exact ⟨ret_bool (by rw [HE.out, hi]; simp), hb2⟩
end Go.Proofs.YthbccfchjgihgaaGreatDoor
