/- The reference: Few, Copy. -/
import Derived.Test.YtngodakkdhdmjaaGreatDoorPrC
import Derived.Outline
namespace Go.Proofs.YtngodakkdhdmjaaGreatDoor
open Go.RowKit

/-- what a small catalog is known by -/
structure FewOk (c : Cat) : Prop where
  langs : c.langs.length ≤ 10
  labels : c.labels.length ≤ 257
  sheets : c.sheets.length ≤ 257
  small : c.sheets.length ≤ 14 ∨ 256 < c.sheets.length
  facts : ∀ s ∈ c.sheets, s.facts.length ≤ 33
def FewPost (c : Cat) (e : Ending) : Prop := ∃ b, e = .returned (.bool b) ∧ (b = true → FewOk c)
theorem FewPost.no {c : Cat} : FewPost c (.returned (.bool false)) := ⟨false, rfl, fun h => by cases h⟩
set_option maxRecDepth 100000 in
set_option maxHeartbeats 8000000 in
theorem few_c (c : Cat) (v1 v2 v3 : Value) (w : World) (B : Nat) (hB : B ≤ w.heap.size) (h : CatRep w B c v1 v2 v3) :
    Calls Tryz.prog 51 #[.agg #[v1, v2, v3]] w fun e w' => FewPost c e ∧ Below w.heap.size w w' := by
  have b1 : Below w.heap.size w (w.alloc (catC v1 v2 v3)) := (Below.refl _ _).alloc (Nat.le_refl _) _
  have KC := Lib.hid (fun (W : World) (hW : Below (w.heap.size + 1) (w.alloc (catC v1 v2 v3)) W) => (⟨(hW.cell (p := ⟨w.heap.size, 0, none⟩) (by simp)).trans (by simp), (hW.cell (p := ⟨w.heap.size, 1, none⟩) (by simp)).trans (by simp), (hW.cell (p := ⟨w.heap.size, 2, none⟩) (by simp)).trans (by simp), by have := hW.size; simp at this; omega⟩ : W.cell? ⟨w.heap.size, 0, none⟩ = some v1 ∧ W.cell? ⟨w.heap.size, 1, none⟩ = some v2 ∧ W.cell? ⟨w.heap.size, 2, none⟩ = some v3 ∧ w.heap.size < W.heap.size))
  obtain ⟨A1, c1, rfl, ha1, ha2, _⟩ := id h.langs
  obtain ⟨A2, c2, rfl, hb1, hb2, _⟩ := id h.labels
  obtain ⟨A3, c3, rfl, hd1, hd2, _⟩ := id h.sheets
  have hL := h.langs
  have hB2 := h.labels
  have hX := h.sheets
  obtain ⟨ls, lb, xs⟩ := c
  simp only at hL hB2 hX ha1 hb1 hd1 KC b1 ⊢
  clear h
  go_enter Tryz.func51, Tryz.ntmps51
  go_upto_region 1 with fail
  go_cut [47] (fun s W => ∃ b, s = .bool b ∧ (b = false → ls.length ≤ 10 ∧ lb.length ≤ 257 ∧ xs.length ≤ 257 ∧ (xs.length ≤ 14 ∨ 256 < xs.length)) ∧ W = w.alloc (catC (.slice A1 ls.length c1) (.slice A2 lb.length c2) (.slice A3 xs.length c3)))
  case first =>
    go_wp2_with fail
    all_goals go_meet
    all_goals exact ⟨_, rfl, (fun hb => by first | cases hb | (simp at *; omega)), rfl⟩
  case rest =>
    obtain ⟨b, rfl, hb, rfl⟩ := hcut
    cases b
    · have HT := Lib.hid (hb rfl)
      clear hb
      obtain ⟨z0, z1, z2, zl⟩ := KC.out _ (Below.refl _ _)
      go_wp2
      go_loop [3] (fun v => ∃ k : Nat, k ≤ ls.length ∧ v = .int .i64 k) (fun v => ls.length - (intOf v).toNat)
      case atStart => exact ⟨0, Nat.zero_le _, rfl⟩
      case round =>
        obtain ⟨k, hk, rfl⟩ := hrel
        by_cases hlt : k < ls.length
        · obtain ⟨x, hx⟩ := get_at ls hlt
          obtain ⟨b, off, rfl, hbB, g0⟩ := Strs.at_ (hL.below strS (b1.mono hB)) hx
          have hbw : b < w.heap.size := by have : b < B := hbB; omega
          have hki0 : (0 : Int) ≤ (k : Int) := by omega
          have hki1 : (k : Int) < (ls.length : Int) := by omega
          clear hx
          go_wp2_with fail
          all_goals first
            | (go_ret; exact ⟨FewPost.no, b1⟩)
            | exact ⟨⟨k + 1, by omega, by go_num⟩, by simp [intOf]; omega⟩
        · go_wp2
          go_loop [4] (fun v => ∃ k : Nat, k ≤ lb.length ∧ v = .int .i64 k) (fun v => lb.length - (intOf v).toNat)
          case atStart => exact ⟨0, Nat.zero_le _, rfl⟩
          case round =>
            obtain ⟨k2, hk2, rfl⟩ := hrel
            by_cases hlt2 : k2 < lb.length
            · obtain ⟨x, hx⟩ := get_at lb hlt2
              obtain ⟨b, off, rfl, hbB, g0, g1, g2, g3⟩ := Labels.at_ (hB2.below labS (b1.mono hB)) hx
              have hbw : b < w.heap.size := by have : b < B := hbB; omega
              have hki0 : (0 : Int) ≤ (k2 : Int) := by omega
              have hki1 : (k2 : Int) < (lb.length : Int) := by omega
              clear hx
              go_wp2_with fail
              all_goals first
                | (go_ret; exact ⟨FewPost.no, b1⟩)
                | exact ⟨⟨k2 + 1, by omega, by go_num⟩, by simp [intOf]; omega⟩
            · clear z0 z1 z2 zl
              obtain ⟨z0, z1, z2, zl⟩ := KC.out _ (Below.refl _ _)
              go_wp2
              clear z0 z1 z2 zl
              go_loopw [5] (fun v5 wr => ∃ k : Nat, k ≤ xs.length ∧ v5 = .int .i64 k ∧ Hid (∀ s ∈ xs.take k, s.facts.length ≤ 33) ∧ Below (w.heap.size + 1) (w.alloc (catC (.slice A1 ls.length c1) (.slice A2 lb.length c2) (.slice A3 xs.length c3))) wr) (fun v5 _ => xs.length - (intOf v5).toNat)
              case atStart => exact ⟨0, Nat.zero_le _, rfl, Lib.hid (fun x hx => by simp at hx), Below.refl _ _⟩
              case round =>
                obtain ⟨k3, hk3, rfl, HS, hbX⟩ := hrel
                have Br := b1.trans (hbX.mono (Nat.le_succ _))
                have hsr := Br.size
                obtain ⟨z0, z1, z2, zl⟩ := KC.out _ hbX
                by_cases hlt3 : k3 < xs.length
                · obtain ⟨x, hx⟩ := get_at xs hlt3
                  have HX := Lib.hid (take_at hx)
                  obtain ⟨b, off, vf, rfl, hbB, g0, g1, g2, g3, g4, g5, hvf⟩ := Sheets.at_ (hX.below shtS (Br.mono hB)) hx
                  obtain ⟨Af, cf, rfl, hf1, hf2, -⟩ := id hvf
                  have hbw : b < wr.heap.size := by omega
                  have hki0 : (0 : Int) ≤ (k3 : Int) := by omega
                  have hki1 : (k3 : Int) < (xs.length : Int) := by omega
                  have bx := (Below.refl wr.heap.size wr).alloc (Nat.le_refl _) (shtC x (.slice Af x.facts.length cf))
                  have hbY := hbX.trans (bx.mono (by have := hbX.size; simp at this; omega))
                  have BY := b1.trans (hbY.mono (Nat.le_succ _))
                  clear hx
                  have y0 : (wr.alloc (shtC x (.slice Af x.facts.length cf))).cell? ⟨wr.heap.size, 5, none⟩ = some (.slice Af x.facts.length cf) := by simp
                  have y1 : wr.heap.size < (wr.alloc (shtC x (.slice Af x.facts.length cf))).heap.size := by simp
                  go_upto_region 17 with fail
                  go_cut [126] (fun s W => ∃ b, s = .bool b ∧ (b = false → x.facts.length ≤ 33) ∧ W = wr.alloc (shtC x (.slice Af x.facts.length cf)))
                  case first =>
                    go_wp2_with fail
                    all_goals go_meet
                    all_goals exact ⟨_, rfl, (fun hb => by first | cases hb | (simp at *; omega)), rfl⟩
                  case rest =>
                    obtain ⟨b', rfl, hb', rfl⟩ := hcut
                    cases b'
                    · have HT3 := Lib.hid (hb' rfl)
                      clear hb'
                      go_wp2
                      go_loop [7] (fun v => ∃ k : Nat, k ≤ x.facts.length ∧ v = .int .i64 k) (fun v => x.facts.length - (intOf v).toNat)
                      case atStart => exact ⟨0, Nat.zero_le _, rfl⟩
                      case round =>
                        obtain ⟨k4, hk4, rfl⟩ := hrel
                        by_cases hlt4 : k4 < x.facts.length
                        · obtain ⟨f, hf⟩ := get_at x.facts hlt4
                          obtain ⟨b4, off4, rfl, hbB4, f0, f1, f2⟩ := Facts.at_ (hvf.below fctS (bx.mono (by omega))) hf
                          have hbw4 : b4 < wr.heap.size := by have : b4 < B := hbB4; omega
                          have hki4 : (0 : Int) ≤ (k4 : Int) := by omega
                          have hki5 : (k4 : Int) < (x.facts.length : Int) := by omega
                          clear hf
                          go_wp2_with fail
                          all_goals first
                            | (go_ret; exact ⟨FewPost.no, BY⟩)
                            | exact ⟨⟨k4 + 1, by omega, by go_num⟩, by simp [intOf]; omega⟩
                        · go_wp2
                          go_roundw
                          case rel =>
                            refine ⟨k3 + 1, by omega, by go_num, Lib.hid (fun s hs => ?_), hbY⟩
                            rw [HX.out] at hs
                            rcases List.mem_append.1 hs with h | h
                            · exact HS.out s h
                            · simp at h
                              subst h
                              exact HT3.out
                          all_goals (simp [intOf]; omega)
                    · go_wp2
                      go_ret
                      exact ⟨FewPost.no, BY⟩
                · have HF := Lib.hid (show ∀ s ∈ xs, s.facts.length ≤ 33 by
                    have := HS.out
                    rwa [List.take_of_length_le (by omega)] at this)
                  go_wp2
                  go_ret
                  exact ⟨⟨true, rfl, fun _ => ⟨HT.out.1, HT.out.2.1, HT.out.2.2.1, HT.out.2.2.2, HF.out⟩⟩, Br⟩
    · go_wp2
      go_ret
      exact ⟨FewPost.no, b1⟩
end Go.Proofs.YtngodakkdhdmjaaGreatDoor
