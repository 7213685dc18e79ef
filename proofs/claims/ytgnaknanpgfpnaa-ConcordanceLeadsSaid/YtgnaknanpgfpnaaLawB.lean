/- The statement ConcordanceCollects, walked. -/
import Derived.Test.YtgnaknanpgfpnaaPlainD
import Derived.Test.YtgnaknanpgfpnaaLawA
namespace Go.Proofs.Ytgnaknanpgfpnaa
open Go.RowKit

theorem refCollect_len {hs : List Shot} (h : progCheck hs = 0) : (refCollect hs).length ≤ 16384 := by
  rw [← collect_eq h]
  exact collect_len h
theorem eqGL_self (l : List Given) : eqGL l l = true := (eqGL_iff l l).2 rfl
theorem eqPL_self (l : List (ByteArray × ByteArray)) : eqPL l l = true := (eqPL_iff l l).2 rfl
theorem eqBL_self (l : List ByteArray) : eqBL l l = true := (eqBL_iff l l).2 rfl
set_option maxHeartbeats 4000000 in
theorem collects_c (hs : List Shot) (v : Value) (w : World) (B : Nat) (hB : B ≤ w.heap.size) (h : Shots w B hs v) :
    Calls Try.prog 4 #[v] w fun e w' => e = .returned (.bool true) ∧ Below w.heap.size w w' := by
  obtain ⟨A, c, rfl, hc1, hc2, _⟩ := id h
  go_enter Try.func4, Try.ntmps4
  go_wp2_with fail
  refine (awake_c w).mono ?_
  rintro e w1 ⟨rfl, hb1⟩
  have hs1 := hb1.size
  have h1 := h.below shS (hb1.mono hB)
  have HF := Lib.hid (few_c hs _ w1 B (by omega) h1)
  go_wp2_with fail
  cases hf : fewE hs
  · rw [hf] at HF
    clear hf
    refine HF.out.mono ?_
    rintro e w2 ⟨rfl, rfl⟩
    go_wp2
    go_ret
    exact ⟨rfl, hb1⟩
  · rw [hf] at HF
    have hsm := (few_small hf).1
    have HSU := Lib.hid (few_small hf).2
    clear hf
    refine HF.out.mono ?_
    rintro e w2 ⟨rfl, rfl⟩
    clear HF
    go_wp2_with fail
    refine (copy_c hs _ w1 B (by omega) h1 hsm HSU.out).mono ?_
    rintro e w2 ⟨v2, rfl, hown2, hb2⟩
    have hs2 := hb2.size
    have h2 := h1.below shS (hb2.mono (by omega))
    have B2 := hb1.trans (hb2.mono hs1)
    have hc2' := hown2.toSl shS
    clear hown2 h1
    by_cases hp : progCheck hs = 0
    · have hr : refCheck hs = 0 := by rw [← progCheck_eq]; exact hp
      have hg := good_of hp
      have hl64 := hg.1
      have HW := Lib.hid (good_few hs _ _ hg.2)
      have hlen := refCollect_len hp
      have HP := Lib.hid hp
      have HR := Lib.hid hr
      have HCE := Lib.hid (collect_eq hp)
      clear hp hr hg
      go_wp2_with fail
      refine (collect_ok hs _ w2 w2.heap.size (Nat.le_refl _) hc2' HP.out).mono ?_
      rintro e w3 ⟨v3, rfl, hown3, hb3⟩
      have hs3 := hb3.size
      have h3 := h2.below shS (hb3.mono (by omega))
      have B3 := B2.trans (hb3.mono (by omega))
      rw [HCE.out] at hown3
      have hl3 := hown3.toSl giS
      obtain ⟨A3, c3, rfl, -⟩ := id hl3
      clear hown3 h2 B2 hc2'
      go_wp2_with fail
      refine (rcollect_ok hs _ w3 B (by omega) h3 HR.out hl64 HW.out).mono ?_
      rintro e w4 ⟨v4, rfl, hown4, hb4⟩
      have hs4 := hb4.size
      have h4 := h3.below shS (hb4.mono (by omega))
      have B4 := B3.trans (hb4.mono (by omega))
      have hl4 := hown4.toSl giS
      have k3 := (hl3.below giS hb4).mono giS hs4
      obtain ⟨A4, c4, rfl, -⟩ := id hl4
      clear hown4 h3 B3 hl3
      go_wp2_with fail
      refine (copy_c hs _ w4 B (by omega) h4 hsm HSU.out).mono ?_
      rintro e w5 ⟨v5, rfl, hown5, hb5⟩
      have hs5 := hb5.size
      have h5 := h4.below shS (hb5.mono (by omega))
      have B5 := B4.trans (hb5.mono (by omega))
      have hc5 := hown5.toSl shS
      have k3' := (k3.below giS hb5).mono giS hs5
      have k4' := (hl4.below giS hb5).mono giS hs5
      clear hown5 h4 B4 k3 hl4
      go_wp2_with fail
      refine (table_ok hs _ w5 w5.heap.size (Nat.le_refl _) hc5 HP.out).mono ?_
      rintro e w6 ⟨v6, rfl, hl6, hb6⟩
      have hs6 := hb6.size
      have h6 := h5.below shS (hb6.mono (by omega))
      have B6 := B5.trans (hb6.mono (by omega))
      have k3 := (k3'.below giS hb6).mono giS hs6
      have k4 := (k4'.below giS hb6).mono giS hs6
      rw [table_eq] at hl6
      obtain ⟨A6, c6, rfl, -⟩ := id hl6
      clear h5 B5 k3' k4' hc5
      go_wp2_with fail
      refine (rtable_ok hs _ w6 B (by omega) h6 HR.out hl64 HW.out hlen).mono ?_
      rintro e w7 ⟨v7, rfl, hl7, hb7⟩
      have hs7 := hb7.size
      have B7 := B6.trans (hb7.mono (by omega))
      have k3' := (k3.below giS hb7).mono giS hs7
      have k4' := (k4.below giS hb7).mono giS hs7
      have k6 := (hl6.below paS hb7).mono paS hs7
      obtain ⟨A7, c7, rfl, -⟩ := id hl7
      clear h6 B6 k3 k4 hl6
      have HQ := Lib.hid (equalGi_c _ _ _ _ w7 w7.heap.size (Nat.le_refl _) k3' k4')
      rw [eqGL_self] at HQ
      go_wp2_with fail
      refine HQ.out.mono ?_
      rintro e w8 ⟨rfl, hb8⟩
      have hs8 := hb8.size
      have HQ2 := Lib.hid (equalPa_c _ _ _ _ w8 w8.heap.size (Nat.le_refl _) ((k6.below paS hb8).mono paS hs8) ((hl7.below paS hb8).mono paS hs8))
      rw [eqPL_self] at HQ2
      go_wp2_with fail
      refine HQ2.out.mono ?_
      rintro e w9 ⟨rfl, hb9⟩
      go_wp2
      go_ret
      exact ⟨rfl, (B7.trans (hb8.mono (by omega))).trans (hb9.mono (by omega))⟩
    · have hr : refCheck hs ≠ 0 := by rw [← progCheck_eq]; exact hp
      have HP := Lib.hid hp
      have HR := Lib.hid hr
      clear hp hr
      go_wp2_with fail
      refine (collect_bad hs _ w2 w2.heap.size (Nat.le_refl _) hc2' HP.out).mono ?_
      rintro e w3 ⟨rfl, hb3⟩
      have hs3 := hb3.size
      have h3 := h2.below shS (hb3.mono (by omega))
      have B3 := B2.trans (hb3.mono (by omega))
      clear h2 B2 hc2'
      go_wp2_with fail
      refine (rcollect_bad hs _ w3 B (by omega) h3 HR.out).mono ?_
      rintro e w4 ⟨rfl, hb4⟩
      have hs4 := hb4.size
      have h4 := h3.below shS (hb4.mono (by omega))
      have B4 := B3.trans (hb4.mono (by omega))
      clear h3 B3
      go_wp2_with fail
      refine (copy_c hs _ w4 B (by omega) h4 hsm HSU.out).mono ?_
      rintro e w5 ⟨v5, rfl, hown5, hb5⟩
      have hs5 := hb5.size
      have h5 := h4.below shS (hb5.mono (by omega))
      have B5 := B4.trans (hb5.mono (by omega))
      have hc5 := hown5.toSl shS
      clear hown5 h4 B4
      go_wp2_with fail
      refine (table_bad hs _ w5 w5.heap.size (Nat.le_refl _) hc5 HP.out).mono ?_
      rintro e w6 ⟨rfl, hb6⟩
      have hs6 := hb6.size
      have h6 := h5.below shS (hb6.mono (by omega))
      have B6 := B5.trans (hb6.mono (by omega))
      clear h5 B5 hc5
      go_wp2_with fail
      refine (rtable_bad hs _ w6 B (by omega) h6 HR.out).mono ?_
      rintro e w7 ⟨rfl, hb7⟩
      have hs7 := hb7.size
      have B7 := B6.trans (hb7.mono (by omega))
      clear h6 B6
      have HQ := Lib.hid (equalGi_c [] [] _ _ w7 w7.heap.size (Nat.le_refl _) SlRep.nil_ SlRep.nil_)
      rw [eqGL_self] at HQ
      go_wp2_with fail
      refine HQ.out.mono ?_
      rintro e w8 ⟨rfl, hb8⟩
      have hs8 := hb8.size
      have HQ2 := Lib.hid (equalPa_c [] [] _ _ w8 w8.heap.size (Nat.le_refl _) SlRep.nil_ SlRep.nil_)
      rw [eqPL_self] at HQ2
      go_wp2_with fail
      refine HQ2.out.mono ?_
      rintro e w9 ⟨rfl, hb9⟩
      go_wp2
      go_ret
      exact ⟨rfl, (B7.trans (hb8.mono (by omega))).trans (hb9.mono (by omega))⟩
end Go.Proofs.Ytgnaknanpgfpnaa
