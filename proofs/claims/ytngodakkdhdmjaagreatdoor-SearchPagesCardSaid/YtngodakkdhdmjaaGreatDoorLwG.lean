/- SearchPages returns true. -/
import Derived.Test.YtngodakkdhdmjaaGreatDoorAw6
import Derived.Test.YtngodakkdhdmjaaGreatDoorRsg
namespace Go.Proofs.YtngodakkdhdmjaaGreatDoor
open Go.RowKit

set_option maxRecDepth 100000 in
set_option maxHeartbeats 8000000 in
theorem pages_a (hs : List Hit) (fr n : Int) (l : List Post) (hd : ByteArray) (v vl : Value) (w : World) (B : Nat) (hB : B ≤ w.heap.size) (hh : Hits w B hs v) (hl : Posts w B l vl) (hV : VarOk w) (_hf : -9223372036854775808 ≤ fr ∧ fr ≤ 9223372036854775807) (_hn : -9223372036854775808 ≤ n ∧ n ≤ 9223372036854775807) (h40 : 40 < hs.length) :
    Calls Tryz.prog 3 #[v, .int .i64 fr, .int .i64 n, vl, .string hd] w fun e w' => e = .returned (.bool true) ∧ Below w.heap.size w w' := by
  have HAW := Lib.hid (awake6_c w hV)
  have HHR := Lib.hid (fun (W : World) (hW : Below w.heap.size w W) => (hh.below hitS (hW.mono hB) : Hits W B hs v))
  have HLR := Lib.hid (fun (W : World) (hW : Below w.heap.size w W) => (hl.below pstS (hW.mono hB) : Posts W B l vl))
  have HFE := Lib.hid (fun (W : World) (hW : Below w.heap.size w W) => rfew5_c l vl W B (HLR.out W hW))
  obtain ⟨A, c, rfl, hc1, hc2, -⟩ := id hh
  obtain ⟨Al, cl, rfl, hd1, hd2, -⟩ := id hl
  clear hh hl hV
  have h40' : (40 : Int) < (hs.length : Int) := by omega
  clear HHR HLR HFE
  go_enter Tryz.func3, Tryz.ntmps3
  go_wp2_with fail
  refine HAW.out.mono ?_
  rintro e w1 ⟨rfl, b1⟩
  go_wp2
  go_ret
  exact ⟨rfl, b1⟩
set_option maxRecDepth 100000 in
set_option maxHeartbeats 8000000 in
theorem pages_b (hs : List Hit) (fr n : Int) (l : List Post) (hd : ByteArray) (v vl : Value) (w : World) (B : Nat) (hB : B ≤ w.heap.size) (hh : Hits w B hs v) (hl : Posts w B l vl) (hV : VarOk w) (_hf : -9223372036854775808 ≤ fr ∧ fr ≤ 9223372036854775807) (_hn : -9223372036854775808 ≤ n ∧ n ≤ 9223372036854775807) (h40 : ¬ 40 < hs.length) (hfw : fewP l = false) :
    Calls Tryz.prog 3 #[v, .int .i64 fr, .int .i64 n, vl, .string hd] w fun e w' => e = .returned (.bool true) ∧ Below w.heap.size w w' := by
  have HAW := Lib.hid (awake6_c w hV)
  have HHR := Lib.hid (fun (W : World) (hW : Below w.heap.size w W) => (hh.below hitS (hW.mono hB) : Hits W B hs v))
  have HLR := Lib.hid (fun (W : World) (hW : Below w.heap.size w W) => (hl.below pstS (hW.mono hB) : Posts W B l vl))
  have HFE := Lib.hid (fun (W : World) (hW : Below w.heap.size w W) => rfew5_c l vl W B (HLR.out W hW))
  obtain ⟨A, c, rfl, hc1, hc2, -⟩ := id hh
  obtain ⟨Al, cl, rfl, hd1, hd2, -⟩ := id hl
  clear hh hl hV
  have h40' : ¬ (40 : Int) < (hs.length : Int) := by omega
  rw [hfw] at HFE
  go_enter Tryz.func3, Tryz.ntmps3
  go_wp2_with fail
  refine HAW.out.mono ?_
  rintro e w1 ⟨rfl, b1⟩
  go_wp2_with fail
  refine (HFE.out _ b1).mono ?_
  rintro e w2 ⟨rfl, rfl⟩
  go_wp2
  go_ret
  exact ⟨rfl, b1⟩
set_option maxRecDepth 100000 in
set_option maxHeartbeats 8000000 in
theorem pages_c (hs : List Hit) (fr n : Int) (l : List Post) (hd : ByteArray) (v vl : Value) (w : World) (B : Nat) (hB : B ≤ w.heap.size) (hh : Hits w B hs v) (hl : Posts w B l vl) (hV : VarOk w) (_hf : -9223372036854775808 ≤ fr ∧ fr ≤ 9223372036854775807) (_hn : -9223372036854775808 ≤ n ∧ n ≤ 9223372036854775807) (h40 : ¬ 40 < hs.length) (hfw : fewP l = true) (hs40 : 40 < hd.size) :
    Calls Tryz.prog 3 #[v, .int .i64 fr, .int .i64 n, vl, .string hd] w fun e w' => e = .returned (.bool true) ∧ Below w.heap.size w w' := by
  have HAW := Lib.hid (awake6_c w hV)
  have HHR := Lib.hid (fun (W : World) (hW : Below w.heap.size w W) => (hh.below hitS (hW.mono hB) : Hits W B hs v))
  have HLR := Lib.hid (fun (W : World) (hW : Below w.heap.size w W) => (hl.below pstS (hW.mono hB) : Posts W B l vl))
  have HFE := Lib.hid (fun (W : World) (hW : Below w.heap.size w W) => rfew5_c l vl W B (HLR.out W hW))
  obtain ⟨A, c, rfl, hc1, hc2, -⟩ := id hh
  obtain ⟨Al, cl, rfl, hd1, hd2, -⟩ := id hl
  clear hh hl hV
  have h40' : ¬ (40 : Int) < (hs.length : Int) := by omega
  rw [hfw] at HFE
  obtain ⟨h200, h70⟩ := fewP_iff.1 hfw
  have hs40' : (40 : Int) < (hd.size : Int) := by omega
  go_enter Tryz.func3, Tryz.ntmps3
  go_wp2_with fail
  refine HAW.out.mono ?_
  rintro e w1 ⟨rfl, b1⟩
  go_wp2_with fail
  refine (HFE.out _ b1).mono ?_
  rintro e w2 ⟨rfl, rfl⟩
  go_wp2
  go_ret
  exact ⟨rfl, b1⟩
set_option maxRecDepth 100000 in
set_option maxHeartbeats 8000000 in
theorem pages_d (hs : List Hit) (fr n : Int) (l : List Post) (hd : ByteArray) (v vl : Value) (w : World) (B : Nat) (hB : B ≤ w.heap.size) (hh : Hits w B hs v) (hl : Posts w B l vl) (hV : VarOk w) (hf : -9223372036854775808 ≤ fr ∧ fr ≤ 9223372036854775807) (hn : -9223372036854775808 ≤ n ∧ n ≤ 9223372036854775807) (h40 : ¬ 40 < hs.length) (hfw : fewP l = true) (hs40 : ¬ 40 < hd.size) :
    Calls Tryz.prog 3 #[v, .int .i64 fr, .int .i64 n, vl, .string hd] w fun e w' => e = .returned (.bool true) ∧ Below w.heap.size w w' := by
  have HAW := Lib.hid (awake6_c w hV)
  have HHR := Lib.hid (fun (W : World) (hW : Below w.heap.size w W) => (hh.below hitS (hW.mono hB) : Hits W B hs v))
  have HLR := Lib.hid (fun (W : World) (hW : Below w.heap.size w W) => (hl.below pstS (hW.mono hB) : Posts W B l vl))
  have HFE := Lib.hid (fun (W : World) (hW : Below w.heap.size w W) => rfew5_c l vl W B (HLR.out W hW))
  obtain ⟨A, c, rfl, hc1, hc2, -⟩ := id hh
  obtain ⟨Al, cl, rfl, hd1, hd2, -⟩ := id hl
  clear hh hl hV
  have h40' : decide ((40 : Int) < (hs.length : Int)) = false := decide_eq_false (by omega)
  rw [hfw] at HFE
  obtain ⟨h200, h70⟩ := fewP_iff.1 hfw
  have hs40' : decide ((40 : Int) < (hd.size : Int)) = false := decide_eq_false (by omega)
  have h70 : ∀ p ∈ l, p.word.size ≤ 1000000 := fun p hp => Nat.le_trans (h70 p hp) (by omega)
  have HC1 := Lib.hid (fun (W : World) (hW : Below w.heap.size w W) => cloneH_c hs _ W B (Nat.le_trans hB hW.size) (HHR.out W hW) (by omega))
  have HPG := Lib.hid (fun (v1 : Value) (W : World) (h1 : Hits W W.heap.size hs v1) => page_c hs fr n v1 W W.heap.size (Nat.le_refl _) h1 (by omega) hf hn)
  have HRP := Lib.hid (fun (W : World) (hW : Below w.heap.size w W) => rpage_c hs fr n _ W B (Nat.le_trans hB hW.size) (HHR.out W hW) (by omega))
  have HSA := Lib.hid (fun (v1 v2 : Value) (W : World) (h1 : Hits W W.heap.size (pageF hs fr n) v1) (h2 : Hits W W.heap.size (pageF hs fr n) v2) => same6_c (pageF hs fr n) (Nat.le_trans (page_len _ _ _) (by omega)) v1 v2 W W.heap.size (Nat.le_refl _) h1 h2)
  have HC2 := Lib.hid (fun (W : World) (hW : Below w.heap.size w W) => clonePosts_c l _ W B (Nat.le_trans hB hW.size) (HLR.out W hW) (by omega))
  have HSU := Lib.hid (fun (v1 : Value) (W : World) (h1 : Posts W W.heap.size l v1) => suggest_c l hd n v1 W W.heap.size (Nat.le_refl _) h1 h70 (by omega) hn.1 hn.2)
  have HRS := Lib.hid (fun (W : World) (hW : Below w.heap.size w W) => rsug_c l hd n _ W B (Nat.le_trans hB hW.size) (HLR.out W hW) h70 (by omega))
  have HEQ := Lib.hid (fun (v1 v2 : Value) (W : World) (h1 : Strs W W.heap.size (sugF l hd n) v1) (h2 : Strs W W.heap.size (sugF l hd n) v2) => equalSt_c (sugF l hd n) v1 v2 W W.heap.size (Nat.le_refl _) h1 h2)
  generalize pageF hs fr n = P at *
  generalize sugF l hd n = S at *
  clear HHR HLR hf hn h70 hfw
  go_enter Tryz.func3, Tryz.ntmps3
  go_wp2_with fail
  refine HAW.out.mono ?_
  rintro e w1 ⟨rfl, b1⟩
  go_wp2_with fail
  refine (HFE.out _ b1).mono ?_
  rintro e w2 ⟨rfl, rfl⟩
  go_wp2_with fail
  refine (HC1.out _ b1).mono ?_
  rintro e w3 ⟨v3, rfl, h3, hb3⟩
  have b3 := b1.trans (hb3.mono b1.size)
  have HPX := Lib.hid (HPG.out v3 w3 (h3.toSl hitS))
  obtain ⟨A3, n3, c3, rfl, -⟩ := own_form hitS h3
  clear h3 HC1
  go_wp2_with fail
  refine HPX.out.mono ?_
  rintro e w4 ⟨v4, rfl, h4, hb4⟩
  have b4 := b3.trans (hb4.mono b3.size)
  obtain ⟨A4, n4, c4, rfl, -⟩ := own_form hitS h4
  clear HPX
  go_wp2_with fail
  refine (HRP.out _ b4).mono ?_
  rintro e w5 ⟨v5, rfl, h5, hb5⟩
  have b5 := b4.trans (hb5.mono b4.size)
  have HSX := Lib.hid (fun v5' (e : v5 = v5') => HSA.out _ v5' w5 (((h4.toSl hitS).below hitS hb5).mono hitS hb5.size) (e ▸ h5.toSl hitS))
  obtain ⟨A5, n5, c5, e5, -⟩ := own_form hitS h5
  have HSY := Lib.hid (HSX.out _ e5)
  subst e5
  clear h4 h5 HSA HRP
  go_wp2_with fail
  refine HSY.out.mono ?_
  rintro e w6 ⟨rfl, hb6⟩
  have b6 := b5.trans (hb6.mono b5.size)
  clear HSX HSY
  go_wp2_with fail
  refine (HC2.out _ b6).mono ?_
  rintro e w7 ⟨v7, rfl, h7, hb7⟩
  have b7 := b6.trans (hb7.mono b6.size)
  have HSX := Lib.hid (HSU.out v7 w7 (h7.toSl pstS))
  obtain ⟨A7, n7, c7, rfl, -⟩ := own_form pstS h7
  clear h7 HC2
  go_wp2_with fail
  refine HSX.out.mono ?_
  rintro e w8 ⟨v8, rfl, h8, hb8⟩
  have b8 := b7.trans (hb8.mono b7.size)
  obtain ⟨A8, n8, c8, rfl, -⟩ := own_form strS h8
  clear HSX HSU
  go_wp2_with fail
  refine (HRS.out _ b8).mono ?_
  rintro e w9 ⟨v9, rfl, h9, hb9⟩
  have b9 := b8.trans (hb9.mono b8.size)
  have HEX := Lib.hid (HEQ.out _ v9 w9 (((h8.toSl strS).below strS hb9).mono strS hb9.size) (h9.toSl strS))
  obtain ⟨A9, n9, c9, rfl, -⟩ := own_form strS h9
  clear h8 h9 HRS HEQ
  go_wp2_with fail
  refine HEX.out.mono ?_
  rintro e w10 ⟨rfl, hb10⟩
  go_wp2
  go_ret
  exact ⟨rfl, b9.trans (hb10.mono b9.size)⟩
theorem pages_law (hs : List Hit) (fr n : Int) (l : List Post) (hd : ByteArray) (v vl : Value) (w : World) (B : Nat) (hB : B ≤ w.heap.size) (hh : Hits w B hs v) (hl : Posts w B l vl) (hV : VarOk w) (hf : -9223372036854775808 ≤ fr ∧ fr ≤ 9223372036854775807) (hn : -9223372036854775808 ≤ n ∧ n ≤ 9223372036854775807) :
    Calls Tryz.prog 3 #[v, .int .i64 fr, .int .i64 n, vl, .string hd] w fun e w' => e = .returned (.bool true) ∧ Below w.heap.size w w' := by
  by_cases h40 : 40 < hs.length
  · exact pages_a hs fr n l hd v vl w B hB hh hl hV hf hn h40
  · cases hfw : fewP l
    · exact pages_b hs fr n l hd v vl w B hB hh hl hV hf hn h40 hfw
    · by_cases hs40 : 40 < hd.size
      · exact pages_c hs fr n l hd v vl w B hB hh hl hV hf hn h40 hfw hs40
      · exact pages_d hs fr n l hd v vl w B hB hh hl hV hf hn h40 hfw hs40
end Go.Proofs.YtngodakkdhdmjaaGreatDoor
