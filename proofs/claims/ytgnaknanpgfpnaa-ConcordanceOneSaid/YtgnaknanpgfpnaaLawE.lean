/- The statement ConcordanceOne, walked. -/
import Derived.Test.YtgnaknanpgfpnaaLawB
import Derived.Test.YtgnaknanpgfpnaaPlainE
namespace Go.Proofs.Ytgnaknanpgfpnaa
open Go.RowKit

set_option maxRecDepth 100000 in
set_option maxHeartbeats 4000000 in
theorem one_c (hs : List Shot) (v : Value) (w : World) (B : Nat) (hB : B ≤ w.heap.size) (h : Shots w B hs v) :
    Calls Try.prog 6 #[v] w fun e w' => e = .returned (.bool true) ∧ Below w.heap.size w w' := by
  obtain ⟨A, c, rfl, hc1, hc2, _⟩ := id h
  go_enter Try.func6, Try.ntmps6
  go_wp2_with fail
  refine (awake_c w).mono ?_
  rintro e w1 ⟨rfl, hb1⟩
  have hs1 := hb1.size
  have h1 := h.below shS (hb1.mono hB)
  have HF := Lib.hid (few_c hs _ w1 B (by omega) h1)
  go_wp2_with fail
  cases hf : fewE hs
  · rw [hf] at HF
    clear hf
    refine HF.out.mono ?_
    rintro e w2 ⟨rfl, rfl⟩
    go_wp2
    go_ret
    exact ⟨rfl, hb1⟩
  · rw [hf] at HF
    have hsm := (few_small hf).1
    have HSU := Lib.hid (few_small hf).2
    clear hf
    refine HF.out.mono ?_
    rintro e w2 ⟨rfl, rfl⟩
    clear HF
    have HCP := Lib.hid (fun (W : World) (hW : Below w.heap.size w W) => copy_c hs _ W B (by have := hW.size; omega) (h.below shS (hW.mono hB)) hsm HSU.out)
    go_wp2_with fail
    refine (HCP.out _ hb1).mono ?_
    rintro e w2 ⟨v2, rfl, hown2, hb2⟩
    have hs2 := hb2.size
    have B2 := hb1.trans (hb2.mono hs1)
    have hc2' := hown2.toSl shS
    clear hown2 h1
    by_cases hp : progCheck hs = 0
    · have HP := Lib.hid hp
      have hlen := collect_len hp
      clear hp
      go_wp2_with fail
      refine (collect_ok hs _ w2 w2.heap.size (Nat.le_refl _) hc2' HP.out).mono ?_
      rintro e w3 ⟨v3, rfl, hown3, hb3⟩
      have hs3 := hb3.size
      have B3 := B2.trans (hb3.mono (by omega))
      have hl3 := hown3.toSl giS
      obtain ⟨A3, c3, rfl, hq1, hq2, -⟩ := id hl3
      clear hown3 B2 hc2' hb2 hb3
      go_wp2
      go_loopw [31] (fun i wr => ∃ k : Nat, k ≤ (collectL hs).length ∧ i = .int .i64 k ∧ Below w3.heap.size w3 wr) (fun i _ => (collectL hs).length - (intOf i).toNat)
      case atStart => exact ⟨0, Nat.zero_le _, rfl, Below.refl _ _⟩
      case round =>
        obtain ⟨k, hk, rfl, hb⟩ := hrel
        have hsz := hb.size
        have bw := B3.trans (hb.mono (by omega))
        by_cases hlt : k < (collectL hs).length
        · obtain ⟨g, hx⟩ := get_at (collectL hs) hlt
          have hone := one_law HP.out hx
          obtain ⟨b, off, rfl, hbB, g0, g1, g2, g3⟩ := Givens.at_ (hl3.below giS hb) hx
          have hbr : b < wr.heap.size := by omega
          have hx1 : Below wr.heap.size wr (wr.alloc (.cells #[.string g.mark, .int .i64 g.unit, .int .i64 g.from_, .int .i64 g.until_] 38)) := (Below.refl _ _).alloc (Nat.le_refl _) _
          have bx := bw.trans (hx1.mono (by omega))
          have bx3 := hb.trans (hx1.mono (by omega))
          have KEEP := Lib.hid (fun (w' : World) (hW : Below (wr.heap.size + 1) (wr.alloc (.cells #[.string g.mark, .int .i64 g.unit, .int .i64 g.from_, .int .i64 g.until_] 38)) w') => (⟨(hW.cell (p := ⟨wr.heap.size, 0, none⟩) (by simp)).trans (by simp), (hW.cell (p := ⟨wr.heap.size, 1, none⟩) (by simp)).trans (by simp), (hW.cell (p := ⟨wr.heap.size, 2, none⟩) (by simp)).trans (by simp), (hW.cell (p := ⟨wr.heap.size, 3, none⟩) (by simp)).trans (by simp)⟩ : w'.cell? ⟨wr.heap.size, 0, none⟩ = some (.string g.mark) ∧ w'.cell? ⟨wr.heap.size, 1, none⟩ = some (.int .i64 g.unit) ∧ w'.cell? ⟨wr.heap.size, 2, none⟩ = some (.int .i64 g.from_) ∧ w'.cell? ⟨wr.heap.size, 3, none⟩ = some (.int .i64 g.until_)))
          have HHO := Lib.hid (fun (V : Value) (W : World) (hV : Shots W W.heap.size hs V) => holder_c g.mark hs V W W.heap.size (Nat.le_refl _) hV)
          rw [hone.holder] at HHO
          have HMK := Lib.hid (fun (V : Value) (W : World) (hV : Shots W W.heap.size hs V) => marks_p g.unit hs V W W.heap.size (Nat.le_refl _) hV)
          have HCO := Lib.hid (fun (V : Value) (W : World) (hV : Strs W W.heap.size (progMarks hs g.unit) V) => scontains_c g.mark (progMarks hs g.unit) V W W.heap.size (Nat.le_refl _) hV)
          rw [hone.marks] at HCO
          have HPV := Lib.hid hone.prev
          have hdays := hone.days
          have hdays2 : decide (g.until_ ≤ g.from_) = false := by simpa using hdays
          have hgm : g.mark.toList.isEmpty = false := by rw [str_empty]; simpa using hone.mark
          have hgm2 : ¬ g.mark.toList = [] := by simpa using hgm
          clear hone hx
          go_wp2
          have hbX : Below (wr.heap.size + 1) (wr.alloc (.cells #[.string g.mark, .int .i64 g.unit, .int .i64 g.from_, .int .i64 g.until_] 38)) (wr.alloc (.cells #[.string g.mark, .int .i64 g.unit, .int .i64 g.from_, .int .i64 g.until_] 38)).drew := (Below.refl _ _).drew
          have kC : Shots (wr.alloc (.cells #[.string g.mark, .int .i64 g.unit, .int .i64 g.from_, .int .i64 g.until_] 38)).drew (wr.alloc (.cells #[.string g.mark, .int .i64 g.unit, .int .i64 g.from_, .int .i64 g.until_] 38)).drew.heap.size [] (.slice none 0 0) := SlRep.nil_
          go_region_held3 (fun w' => w'.cell? ⟨wr.heap.size, 0, none⟩ = some (.string g.mark) ∧ w'.cell? ⟨wr.heap.size, 1, none⟩ = some (.int .i64 g.unit) ∧ w'.cell? ⟨wr.heap.size, 2, none⟩ = some (.int .i64 g.from_) ∧ w'.cell? ⟨wr.heap.size, 3, none⟩ = some (.int .i64 g.until_)) (with_reducible exact KEEP.out _ hbX) (first
            | (go_at_call 13; (with_reducible refine (HCP.out _ (bx.trans (hbX.mono (by omega)))).mono ?_); rintro e wC ⟨vC, rfl, hownC, hb'⟩; have hs' := hb'.size; have kC := hownC.toSl shS; have hbX := hbX.trans (hb'.mono (by have := hbX.size; simp only [World.size_alloc] at this; omega)))
            | (go_at_call 23; (with_reducible refine (HHO.out _ _ kC).mono ?_); rintro e wH ⟨rfl, hb'⟩; have hbX := hbX.trans (hb'.mono (by have := hbX.size; simp only [World.size_alloc] at this; omega))))
          have hsX := hbX.size
          simp only [World.size_alloc] at hsX
          obtain ⟨x0, x1, x2, x3⟩ := KEEP.out _ hbX
          have hwH : wr.heap.size < wH.heap.size := by omega
          have hne1 : (g.unit != g.unit) = false := by simp
          go_wp2
          have hbX2 := hbX
          have hbX := hbX2.drew
          have kC : Shots wH.drew wH.drew.heap.size [] (.slice none 0 0) := SlRep.nil_
          have kM : Strs wH.drew wH.drew.heap.size (progMarks hs g.unit) (.slice none 0 0) ∨ True := .inr trivial
          go_region_held3 (fun w' => w'.cell? ⟨wr.heap.size, 0, none⟩ = some (.string g.mark) ∧ w'.cell? ⟨wr.heap.size, 1, none⟩ = some (.int .i64 g.unit) ∧ w'.cell? ⟨wr.heap.size, 2, none⟩ = some (.int .i64 g.from_) ∧ w'.cell? ⟨wr.heap.size, 3, none⟩ = some (.int .i64 g.until_)) (with_reducible exact KEEP.out _ hbX) (first
            | (go_at_call 13; (with_reducible refine (HCP.out _ (bx.trans (hbX.mono (by omega)))).mono ?_); rintro e wC2 ⟨vC2, rfl, hownC2, hb'⟩; have hs' := hb'.size; have kC := hownC2.toSl shS; have hbX := hbX.trans (hb'.mono (by have := hbX.size; simp only [World.size_alloc] at this; omega)))
            | (go_at_call 28; (with_reducible refine (HMK.out _ _ kC).mono ?_); rintro e wM ⟨vM, rfl, kM, hb'⟩; have hbX := hbX.trans (hb'.mono (by have := hbX.size; simp only [World.size_alloc] at this; omega)))
            | (go_at_call 30; (with_reducible refine (HCO.out _ _ kM).mono ?_); rintro e wK ⟨rfl, rfl⟩))
          have hsX := hbX.size
          simp only [World.size_alloc] at hsX
          obtain ⟨x0, x1, x2, x3⟩ := KEEP.out _ hbX
          have hwM : wr.heap.size < wM.heap.size := by omega
          have b3M := bx3.trans (hbX.mono (by omega))
          have bwM := bx.trans (hbX.mono (by omega))
          clear hbX2 kC hb' HHO HMK HCO HCP
          by_cases h0 : k = 0
          · subst h0
            go_wp2
            go_quiet (fail)
            go_wp2
            go_roundw
            case rel => exact ⟨0 + 1, by omega, by go_num, below_drewN b3M _⟩
            case measure => simp [intOf]; omega
          · obtain ⟨a, ha⟩ := get_at (collectL hs) (show k - 1 < (collectL hs).length by omega)
            obtain ⟨hless, hsame⟩ := HPV.out a (by unfold prevAt; rw [if_neg h0]; exact ha)
            obtain ⟨b5, off5, hA5, hbB5, a0, a1, a2, a3⟩ := Givens.at_ (hl3.below giS b3M) ha
            injection hA5 with hA5
            injection hA5 with hA51 hA52
            subst hA51 hA52
            have hk1 : (1 : Int) ≤ k := by omega
            have hk2 : 0 < k := by omega
            have hbM : b < wM.heap.size := by omega
            have hi1 : IntKind.i64.wrap ((k : Int) - 1) = (k : Int) - 1 := IntWalk.i64_in _ (by omega)
            have hi2 : 0 ≤ (k : Int) - 1 := by omega
            have hi3 : ((k : Int) - 1).toNat = k - 1 := by omega
            have hi4 : (k : Int) - 1 < (collectL hs).length := by omega
            have hl1 : Op.bytesLess g.mark.toList a.mark.toList = false := hless
            clear hless ha
            by_cases hm : a.mark = g.mark
            · obtain ⟨hu, hun⟩ := hsame hm
              have e1 : (a.mark.toList == g.mark.toList) = true := by simp [hm]
              have e2 : (a.unit != g.unit) = false := by simp [hu]
              have e3 : decide (g.from_ ≤ a.until_) = false := by simpa using hun
              clear hm hu hsame
              go_wp2
              go_quiet (fail)
              go_wp2
              go_roundw
              case rel => exact ⟨k + 1, by omega, by go_num, below_drewN b3M _⟩
              case measure => simp [intOf]; omega
            · have e1 : (a.mark.toList == g.mark.toList) = false := by rw [str_eq]; simpa using hm
              have hl2 : Op.bytesLess a.mark.toList g.mark.toList = true := by
                rcases lessB_tri a.mark g.mark with h | h | h
                · exact h
                · exact absurd h hm
                · rw [show lessB g.mark a.mark = false from hl1] at h; cases h
              clear hm hsame
              go_wp2
              go_quiet (fail)
              go_wp2
              go_roundw
              case rel => exact ⟨k + 1, by omega, by go_num, below_drewN b3M _⟩
              case measure => simp [intOf]; omega
        · go_wp2
          go_ret
          exact ⟨rfl, bw⟩
    · have HP := Lib.hid hp
      clear hp
      go_wp2_with fail
      refine (collect_bad hs _ w2 w2.heap.size (Nat.le_refl _) hc2' HP.out).mono ?_
      rintro e w3 ⟨rfl, hb3⟩
      go_wp2
      go_ret
      exact ⟨rfl, B2.trans (hb3.mono (by omega))⟩
end Go.Proofs.Ytgnaknanpgfpnaa
