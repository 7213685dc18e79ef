/- The program: facts. -/
import Derived.Test.YtngodakkdhdmjaaGreatDoorPrA
namespace Go.Proofs.YtngodakkdhdmjaaGreatDoor
open Go.RowKit

set_option maxRecDepth 100000 in
set_option maxHeartbeats 8000000 in
theorem facts_c (c : Cat) (xs : List Fact) (v1 v2 v3 v : Value) (w : World) (B : Nat) (hB : B ≤ w.heap.size) (hL : Strs w B c.langs v1) (hX : Facts w B xs v) :
    Calls Tryz.prog 145 #[.agg #[v1, v2, v3], v] w fun e w' => e = .returned (.int .i64 (fctE c.langs xs)) ∧ Below w.heap.size w w' := by
  have b1 : Below w.heap.size w (w.alloc (catC v1 v2 v3)) := (Below.refl _ _).alloc (Nat.le_refl _) _
  have KC := Lib.hid (fun (W : World) (hW : Below (w.heap.size + 1) (w.alloc (catC v1 v2 v3)) W) => (⟨(hW.cell (p := ⟨w.heap.size, 0, none⟩) (by simp)).trans (by simp), by have := hW.size; simp at this; omega⟩ : W.cell? ⟨w.heap.size, 0, none⟩ = some v1 ∧ w.heap.size < W.heap.size))
  obtain ⟨A1, ca1, rfl, -⟩ := id hL
  obtain ⟨A, ca, rfl, hc1, hc2, _⟩ := id hX
  generalize c.langs = ls at *
  by_cases hs : 32 < xs.length
  · have HE := Lib.hid (show fctE ls xs = 8 by unfold fctE; rw [if_pos hs])
    have hd1 : decide ((32 : Int) < (xs.length : Int)) = true := by simp; omega
    clear hs
    go_enter Tryz.func145, Tryz.ntmps145
    go_wp2
    go_ret
    exact ⟨ret_int HE.out.symm, b1⟩
  · have HE := Lib.hid (show fctE ls xs = fctG ls (prevO xs 0) (xs.drop 0) by unfold fctE; rw [if_neg hs]; rfl)
    have hd1 : decide ((32 : Int) < (xs.length : Int)) = false := by simp; omega
    clear hs
    go_enter Tryz.func145, Tryz.ntmps145
    go_wp2
    go_loopw [12] (fun i wr => ∃ k : Nat, k ≤ xs.length ∧ i = .int .i64 k ∧ Hid (fctE ls xs = fctG ls (prevO xs k) (xs.drop k)) ∧ Below (w.heap.size + 1) (w.alloc (catC (.slice A1 ls.length ca1) v2 v3)) wr) (fun i _ => xs.length - (intOf i).toNat)
    case atStart => exact ⟨0, Nat.zero_le _, rfl, HE, Below.refl _ _⟩
    case round =>
      clear HE
      obtain ⟨k, hk, rfl, HS, hb⟩ := hrel
      obtain ⟨z0, zl⟩ := KC.out wr hb
      have Br := b1.trans (hb.mono (by omega))
      have hsr := Br.size
      by_cases hlt : k < xs.length
      · obtain ⟨x, hx⟩ := get_at xs hlt
        have HD := Lib.hid (drop_at hx)
        have HPV := Lib.hid (prevO_succ hx)
        obtain ⟨b, off, rfl, hbB, g0, g1, g2⟩ := Facts.at_ (hX.below fctS (Br.mono hB)) hx
        have hbw : b < wr.heap.size := by omega
        have bx := (Below.refl wr.heap.size wr).alloc (Nat.le_refl _) (fctC x)
        have HC := Lib.hid (scontains_c x.lang ls (.slice A1 ls.length ca1) (wr.alloc (fctC x)) (fun b => b < B) (fun b hb => by have : b < B := hb; simp; omega) (hL.below strS ((Br.trans (bx.mono hsr)).mono hB)))
        have hbX := hb.trans (bx.mono (by have := hb.size; simp at this; omega))
        have HLF := Lib.hid (show fctE ls xs = if fctF ls (prevO xs k) x = 0 then fctG ls (some x) (xs.drop (k + 1)) else fctF ls (prevO xs k) x by rw [HS.out, HD.out, fctG_cons])
        clear hx
        by_cases c1 : x.el < 1 ∨ 64 < x.el
        · have HE := Lib.hid (show fctE ls xs = 2 by rw [HLF.out, show fctF ls (prevO xs k) x = 2 by unfold fctF; rw [if_pos c1]]; rfl)
          have HC1 := Lib.hid c1
          clear c1 HC
          go_wp2_with fail
          all_goals first
            | (go_ret; exact ⟨ret_int HE.out.symm, b1.trans (hbX.mono (by omega))⟩)
            | (exfalso; have := HC1.out; omega)
        · have d1 : decide (x.el < 1) = false := by simp; omega
          have d2 : decide ((64 : Int) < x.el) = false := by simp; omega
          have HF1 := Lib.hid (show fctF ls (prevO xs k) x = if hasS ls x.lang = false then 7 else if x.text.size < 1 ∨ 4096 < x.text.size then 4 else fctT (prevO xs k) x by unfold fctF; rw [if_neg c1])
          clear c1
          cases hh : ls.any (fun y => decide (y = x.lang))
          · have HE := Lib.hid (show fctE ls xs = 7 by rw [HLF.out, show fctF ls (prevO xs k) x = 7 by rw [HF1.out, if_pos (show hasS ls x.lang = false from hh)]]; rfl)
            rw [hh] at HC
            clear hh
            go_wp2_with fail
            refine HC.out.mono ?_
            rintro e w1 ⟨rfl, rfl⟩
            go_wp2
            go_ret
            exact ⟨ret_int HE.out.symm, b1.trans (hbX.mono (by omega))⟩
          · rw [hh] at HC
            have HF2 := Lib.hid HF1.out
            rw [if_neg (show ¬ hasS ls x.lang = false by unfold hasS; simp [hh])] at HF2
            clear hh
            by_cases c3 : x.text.size < 1 ∨ 4096 < x.text.size
            · have HE := Lib.hid (show fctE ls xs = 4 by rw [HLF.out, show fctF ls (prevO xs k) x = 4 by rw [HF2.out, if_pos c3]]; rfl)
              have HC3 := Lib.hid c3
              clear c3
              go_wp2_with fail
              refine HC.out.mono ?_
              rintro e w1 ⟨rfl, rfl⟩
              go_wp2_with fail
              all_goals first
                | (go_ret; exact ⟨ret_int HE.out.symm, b1.trans (hbX.mono (by omega))⟩)
                | (exfalso; have := HC3.out; omega)
            · have d5 : decide ((x.text.size : Int) < 1) = false := by simp; omega
              have d6 : decide ((4096 : Int) < (x.text.size : Int)) = false := by simp; omega
              have HF3 := Lib.hid HF2.out
              rw [if_neg c3] at HF3
              clear c3
              rcases Nat.eq_zero_or_pos k with hk0 | hk0
              · subst hk0
                have HE := Lib.hid (show fctE ls xs = fctG ls (prevO xs (0 + 1)) (xs.drop (0 + 1)) by rw [HLF.out, show fctF ls (prevO xs 0) x = 0 by rw [HF3.out]; rfl, HPV.out]; rfl)
                simp only [Nat.zero_mul, Nat.add_zero] at g0 g1 g2
                go_wp2_with fail
                refine HC.out.mono ?_
                rintro e w1 ⟨rfl, rfl⟩
                go_wp2
                go_quiet (fail)
                go_wp2
                exact ⟨⟨1, by omega, rfl, HE, below_drewN hbX _⟩, by simp [intOf]; omega⟩
              · obtain ⟨k', rfl⟩ : ∃ k', k = k' + 1 := ⟨k - 1, by omega⟩
                obtain ⟨q, hq⟩ := get_at xs (show k' < xs.length by omega)
                have HPQ := Lib.hid (prevO_succ hq)
                obtain ⟨b', off', hA', hbB', q0, q1, q2⟩ := Facts.at_ (hX.below fctS (Br.mono hB)) hq
                injection hA' with hA'
                injection hA' with e1 e2
                subst e1 e2
                have HF4 := Lib.hid (show fctF ls (prevO xs (k' + 1)) x = fctT (some q) x by rw [HF3.out, HPQ.out])
                have hki0 : (0 : Int) ≤ (k' : Int) := by omega
                have hki1 : (k' : Int) < (xs.length : Int) := by omega
                have hki2 : (0 : Int) < (k' : Int) + 1 := by omega
                have hw0 : IntKind.i64.wrap ((k' : Int) + 1 - 1) = (k' : Int) := by rw [Int.add_sub_cancel]; exact IntWalk.i64_in _ (by omega)
                have hw1 : IntKind.i64.wrap (k' : Int) = (k' : Int) := IntWalk.i64_in _ (by omega)
                have hoq := or_bf q.el x.el q.lang x.lang
                have u0 := ((bx.cell (p := ⟨b, off + k' * 3, none⟩) hbw).trans q0)
                have u1 := ((bx.cell (p := ⟨b, off + k' * 3 + 1, none⟩) hbw).trans q1)
                clear hq hk0
                cases hbf : bfB q.el q.lang x.el x.lang
                · have HE := Lib.hid (show fctE ls xs = 5 by rw [HLF.out, show fctF ls (prevO xs (k' + 1)) x = 5 by rw [HF4.out]; unfold fctT; simp only; rw [if_pos hbf]]; rfl)
                  rw [hbf] at hoq
                  clear hbf
                  go_wp2_with fail
                  refine HC.out.mono ?_
                  rintro e w1 ⟨rfl, rfl⟩
                  go_wp2
                  go_region_held3 (fun w' => w'.cell? ⟨wr.heap.size, 0, none⟩ = some (.int .i64 x.el) ∧ w'.cell? ⟨wr.heap.size, 1, none⟩ = some (.string x.lang) ∧ w'.cell? ⟨b, off + k' * 3, none⟩ = some (.int .i64 q.el) ∧ w'.cell? ⟨b, off + k' * 3 + 1, none⟩ = some (.string q.lang)) (simp [go_sem, World.cell?_alloc_past, *])
                    (first
                      | (go_at_call 44; refine (cmpS_c _ _ _).mono ?_; rintro e w' ⟨rfl, rfl⟩)
                      | (go_at_call 43; refine (cmpI_c _ _ _).mono ?_; rintro e w' ⟨rfl, rfl⟩)
                      | (go_at_call 42; refine Calls.mono (or_c (cmpI q.el x.el) (cmpS q.lang x.lang) _ _ (by simp [go_sem]) (by simp [go_sem])) ?_; rintro e w' ⟨rfl, rfl⟩))
                  go_wp2
                  go_ret
                  exact ⟨ret_int HE.out.symm, Br.trans (((bnd_alloc bx (Nat.le_refl _) _).drew).mono hsr)⟩
                · have HE := Lib.hid (show fctE ls xs = fctG ls (prevO xs (k' + 1 + 1)) (xs.drop (k' + 1 + 1)) by rw [HLF.out, show fctF ls (prevO xs (k' + 1)) x = 0 by rw [HF4.out]; unfold fctT; simp only; rw [if_neg (by simp [hbf])], HPV.out]; rfl)
                  rw [hbf] at hoq
                  clear hbf
                  go_wp2_with fail
                  refine HC.out.mono ?_
                  rintro e w1 ⟨rfl, rfl⟩
                  go_wp2
                  go_region_held3 (fun w' => w'.cell? ⟨wr.heap.size, 0, none⟩ = some (.int .i64 x.el) ∧ w'.cell? ⟨wr.heap.size, 1, none⟩ = some (.string x.lang) ∧ w'.cell? ⟨b, off + k' * 3, none⟩ = some (.int .i64 q.el) ∧ w'.cell? ⟨b, off + k' * 3 + 1, none⟩ = some (.string q.lang)) (simp [go_sem, World.cell?_alloc_past, *])
                    (first
                      | (go_at_call 44; refine (cmpS_c _ _ _).mono ?_; rintro e w' ⟨rfl, rfl⟩)
                      | (go_at_call 43; refine (cmpI_c _ _ _).mono ?_; rintro e w' ⟨rfl, rfl⟩)
                      | (go_at_call 42; refine Calls.mono (or_c (cmpI q.el x.el) (cmpS q.lang x.lang) _ _ (by simp [go_sem]) (by simp [go_sem])) ?_; rintro e w' ⟨rfl, rfl⟩))
                  go_wp2
                  go_roundw
                  case rel => exact ⟨k' + 1 + 1, by omega, by go_num, HE, hb.trans (((bnd_alloc bx (Nat.le_refl _) _).drew).mono (by omega))⟩
                  case measure => simp [intOf]; omega
      · have HE := Lib.hid (show fctE ls xs = 0 by rw [HS.out, List.drop_of_length_le (by omega)]; cases prevO xs k <;> rfl)
        go_wp2
        go_ret
        exact ⟨ret_int HE.out.symm, Br⟩
end Go.Proofs.YtngodakkdhdmjaaGreatDoor
