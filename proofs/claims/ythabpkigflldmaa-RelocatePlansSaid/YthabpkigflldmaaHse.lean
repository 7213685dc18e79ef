/- the house: shelf, index, open; start. -/
import Derived.Test.YthabpkigflldmaaOpn
namespace Go.Proofs.Ythabpkigflldmaa
open Go.RowKit

set_option maxHeartbeats 1000000 in
theorem hshelf_c (u : Int) (ls : List Shelf) (vl vb : Value) (w : World) (B : Nat) (hB : B ≤ w.heap.size) (h : Shelves w B ls vl) (hb' : ∃ A n c, vb = .slice A n c) :
    Calls Try.prog 69 #[.agg #[vl, vb], .int .i64 u] w fun e w' => e = .returned (.int .i64 (shIx ls u)) ∧ Below w.heap.size w w' := by
  obtain ⟨A, c, rfl, hc1, hc2, _⟩ := id h
  obtain ⟨A', n', c', rfl⟩ := hb'
  have b0 : Below w.heap.size w ((w.alloc (.cells #[.slice A ls.length c, .slice A' n' c'] 66)).alloc (.cells #[.int .i64 u] 3)) := ((Below.refl _ _).alloc (Nat.le_refl _) _).alloc (by simp) _
  have HI := Lib.hid (indexSh_c (.pointer (some ⟨w.heap.size + 1, 0, none⟩)) (idS u) ls (.slice A ls.length c) _ B (Nat.le_trans hB b0.size) (h.below shS (b0.mono hB)) (fun x W hW => shelf1_c u (w.heap.size + 1) x W ((hW.cell (p := ⟨w.heap.size + 1, 0, none⟩) (by simp)).trans (by simp)) (by have := hW.size; simp at this; omega)))
  go_enter Try.func69, Try.ntmps69
  go_wp2_with fail
  refine HI.out.mono ?_
  rintro e w1 ⟨rfl, hb1⟩
  go_wp2
  go_ret
  exact ⟨rfl, b0.trans (hb1.mono (by simp; omega))⟩
set_option maxHeartbeats 1000000 in
theorem hindex_c (u : Int) (bs : List Box) (vl vb : Value) (w : World) (B : Nat) (hB : B ≤ w.heap.size) (h : Boxes w B bs vb) (hb' : ∃ A n c, vl = .slice A n c) :
    Calls Try.prog 58 #[.agg #[vl, vb], .int .i64 u] w fun e w' => e = .returned (.int .i64 (bxIx bs u)) ∧ Below w.heap.size w w' := by
  obtain ⟨A, c, rfl, hc1, hc2, _⟩ := id h
  obtain ⟨A', n', c', rfl⟩ := hb'
  have b0 : Below w.heap.size w ((w.alloc (.cells #[.slice A' n' c', .slice A bs.length c] 66)).alloc (.cells #[.int .i64 u] 3)) := ((Below.refl _ _).alloc (Nat.le_refl _) _).alloc (by simp) _
  have HI := Lib.hid (indexBx_c (.pointer (some ⟨w.heap.size + 1, 0, none⟩)) (idB u) bs (.slice A bs.length c) _ B (Nat.le_trans hB b0.size) (h.below boS (b0.mono hB)) (fun x vc W hW hv => index1_c u (w.heap.size + 1) x vc W ((hW.cell (p := ⟨w.heap.size + 1, 0, none⟩) (by simp)).trans (by simp)) (by have := hW.size; simp at this; omega) hv))
  go_enter Try.func58, Try.ntmps58
  go_wp2_with fail
  refine HI.out.mono ?_
  rintro e w1 ⟨rfl, hb1⟩
  go_wp2
  go_ret
  exact ⟨rfl, b0.trans (hb1.mono (by simp; omega))⟩

theorem shelves_len {l : List Shelf} (h : shelvesE l = 0) : l.length ≤ 32 := by
  unfold shelvesE at h
  split at h
  · cases h
  · omega
set_option maxHeartbeats 1000000 in
theorem start_c (ls : List Shelf) (bs : List Box) (vl vb : Value) (w : World) (B : Nat) (hB : B ≤ w.heap.size) (hl : Shelves w B ls vl) (hb : Boxes w B bs vb) :
    Calls Try.prog 60 #[vl, vb] w fun e w' => e = .returned (.int .i64 (startE ls bs)) ∧ Below w.heap.size w w' := by
  have HS := Lib.hid (rshelves_c ls vl w B hB hl)
  have HBX := Lib.hid (fun (W : World) (hW : Below w.heap.size w W) => rboxes_c bs vb W B (Nat.le_trans hB hW.size) (hb.below boS (hW.mono hB)))
  have HSZ := Lib.hid (fun (W : World) (hW : Below w.heap.size w W) (h32 : ls.length ≤ 64) => size_c ls bs vl vb W B (hl.below shS (hW.mono hB)) (hb.below boS (hW.mono hB)) h32)
  rw [boxesR_eq] at HBX
  obtain ⟨A, c, rfl, hc1, hc2, _⟩ := id hl
  obtain ⟨A', c', rfl, hd1, hd2, _⟩ := id hb
  by_cases h1 : shelvesE ls = 0
  · have h32 := shelves_len h1
    have H1 := Lib.hid h1
    rw [h1] at HS
    clear h1
    by_cases h2 : boxesE bs = 0
    · rw [h2] at HBX
      have H2 := Lib.hid h2
      clear h2
      go_enter Try.func60, Try.ntmps60
      go_wp2_with fail
      refine HS.out.mono ?_
      rintro e w1 ⟨rfl, hb1⟩
      go_wp2_with fail
      refine (HBX.out _ hb1).mono ?_
      rintro e w2 ⟨rfl, hb2⟩
      have B2 := hb1.trans (hb2.mono hb1.size)
      go_wp2_with fail
      refine (HSZ.out _ B2 (by omega)).mono ?_
      rintro e w3 ⟨rfl, rfl⟩
      by_cases h3 : 4096 < sizeF ls.length bs.length
      · have HE := Lib.hid (show startE ls bs = 8 by simp [startE, H1.out, H2.out, h3])
        go_wp2
        go_ret
        exact ⟨ret_int HE.out.symm, B2⟩
      · have HE := Lib.hid (show startE ls bs = 0 by simp [startE, H1.out, H2.out, h3])
        go_wp2
        go_ret
        exact ⟨ret_int HE.out.symm, B2⟩
    · have e1 : (boxesE bs != 0) = true := by simpa using h2
      have HE := Lib.hid (show startE ls bs = 1 by simp [startE, h2])
      go_enter Try.func60, Try.ntmps60
      go_wp2_with fail
      refine HS.out.mono ?_
      rintro e w1 ⟨rfl, hb1⟩
      go_wp2_with fail
      refine (HBX.out _ hb1).mono ?_
      rintro e w2 ⟨rfl, hb2⟩
      have B2 := hb1.trans (hb2.mono hb1.size)
      go_wp2
      go_ret
      exact ⟨ret_int HE.out.symm, B2⟩
  · have e1 : (shelvesE ls != 0) = true := by simpa using h1
    have HE := Lib.hid (show startE ls bs = 1 by simp [startE, h1])
    go_enter Try.func60, Try.ntmps60
    go_wp2_with fail
    refine HS.out.mono ?_
    rintro e w1 ⟨rfl, hb1⟩
    go_wp2
    go_ret
    exact ⟨ret_int HE.out.symm, hb1⟩
def zHouse : Value := .agg #[.slice none 0 0, .slice none 0 0]
def openV (ls : List Shelf) (bs : List Box) (vl vb : Value) : Value := .tuple #[if startE ls bs = 0 then .agg #[vl, vb] else zHouse, .int .i64 (startE ls bs)]
set_option maxHeartbeats 2000000 in
theorem open_c (ls : List Shelf) (bs : List Box) (vl vb : Value) (w : World) (B : Nat) (hB : B ≤ w.heap.size) (hl : Shelves w B ls vl) (hb : Boxes w B bs vb) :
    Calls Try.prog 59 #[vl, vb] w fun e w' => e = .returned (openV ls bs vl vb) ∧ Below w.heap.size w w' := by
  obtain ⟨A, c, rfl, hc1, hc2, _⟩ := id hl
  obtain ⟨A', c', rfl, hd1, hd2, _⟩ := id hb
  have b0 : Below w.heap.size w (w.alloc (.cells #[.slice none 0 0, .slice none 0 0] 66)) := (Below.refl _ _).alloc (Nat.le_refl _) _
  have HS := Lib.hid (shelves_c ls _ _ B (Nat.le_trans hB b0.size) (hl.below shS (b0.mono hB)))
  have HBX := Lib.hid (fun (W : World) (hW : Below w.heap.size w W) => boxes_c bs _ W B (Nat.le_trans hB hW.size) (hb.below boS (hW.mono hB)))
  have ZK := Lib.hid (fun (W : World) (hW : Below (w.heap.size + 1) (w.alloc (.cells #[.slice none 0 0, .slice none 0 0] 66)) W) => (⟨(hW.cell (p := ⟨w.heap.size, 0, none⟩) (by simp)).trans (by simp), (hW.cell (p := ⟨w.heap.size, 1, none⟩) (by simp)).trans (by simp), (hW.frozen (p := ⟨w.heap.size, 0, none⟩) (by simp)).trans (by simp), (hW.frozen (p := ⟨w.heap.size, 1, none⟩) (by simp)).trans (by simp), by have := hW.size; simp at this; omega⟩ : W.cell? ⟨w.heap.size, 0, none⟩ = some (.slice none 0 0) ∧ W.cell? ⟨w.heap.size, 1, none⟩ = some (.slice none 0 0) ∧ W.frozen? ⟨w.heap.size, 0, none⟩ = false ∧ W.frozen? ⟨w.heap.size, 1, none⟩ = false ∧ w.heap.size < W.heap.size))
  by_cases h1 : shelvesE ls = 0
  · have h32 := shelves_len h1
    have H1 := Lib.hid h1
    rw [h1] at HS
    clear h1
    by_cases h2 : boxesE bs = 0
    · rw [h2] at HBX
      have H2 := Lib.hid h2
      clear h2
      go_enter Try.func59, Try.ntmps59
      go_wp2_with fail
      refine HS.out.mono ?_
      rintro e w1 ⟨rfl, hb1⟩
      have B1 := b0.trans (hb1.mono (by simp))
      go_wp2_with fail
      refine (HBX.out _ B1).mono ?_
      rintro e w2 ⟨rfl, hb2⟩
      have B2 := B1.trans (hb2.mono B1.size)
      obtain ⟨z0, z1, f0, f1, hlt2⟩ := ZK.out w2 ((hb1.trans (hb2.mono hb1.size)).mono (by simp))
      clear ZK HS HBX
      go_wp2
      go_loop [6, 18] (fun n i => ∃ k : Nat, k ≤ bs.length ∧ i = .int .i64 k ∧ n = .int .i64 (sizeF ls.length k) ∧ sizeF ls.length k ≤ 4096) (fun _ i => bs.length - (intOf i).toNat)
      case atStart => exact ⟨0, Nat.zero_le _, rfl, rfl, by simp [sizeF]⟩
      case round =>
        obtain ⟨k, hk, rfl, rfl, hz⟩ := hrel
        by_cases hlt : k < bs.length
        · have hp2 : ((sizeF ls.length k * ls.length : Nat) : Int) = (sizeF ls.length k : Int) * ls.length := by simp
          have hp : sizeF ls.length k * ls.length ≤ 4096 * 32 := Nat.mul_le_mul hz h32
          have hp3 : (sizeF ls.length k : Int) * ls.length ≤ 131072 := by omega
          have hp4 : (0 : Int) ≤ (sizeF ls.length k : Int) * ls.length := by omega
          have HP2 := Lib.hid hp2
          clear hp2 hp
          by_cases hbig : sizeF ls.length (k + 1) ≤ 4096
          · have HST := Lib.hid (sizeF_step ls.length k hbig)
            have hle : (sizeF ls.length k : Int) * ls.length ≤ 4096 := by rw [← HP2.out, ← HST.out]; omega
            go_wp2
            go_round
            case rel => exact ⟨k + 1, by omega, by go_num, by rw [HST.out, HP2.out], hbig⟩
            case measure => simp [intOf]; omega
          · have hle : (4096 : Int) < (sizeF ls.length k : Int) * ls.length := by
              rw [← HP2.out]
              simp only [sizeF] at hbig
              omega
            have HE := Lib.hid (show startE ls bs = 8 by
              have := sizeF_mono ls.length (show k + 1 ≤ bs.length by omega) (show 4096 < sizeF ls.length (k + 1) by omega)
              simp [startE, H1.out, H2.out, this])
            go_wp2
            refine bodyPost_ret (v := .tuple #[zHouse, .int .i64 8]) (by simp [results, Try.results59, go_sem, zHouse, z0, z1]) rfl ⟨by simp [openV, HE.out], ?_⟩
            first
              | exact (B2.setCell (Nat.le_refl _) _).setCell (Nat.le_refl _) _
              | exact B2
        · have HE := Lib.hid (show startE ls bs = 0 by
            obtain rfl : k = bs.length := by omega
            have : ¬ 4096 < sizeF ls.length bs.length := by omega
            simp [startE, H1.out, H2.out, this])
          go_wp2
          refine bodyPost_ret (v := .tuple #[.agg #[.slice A ls.length c, .slice A' bs.length c'], .int .i64 0]) (by simp [results, Try.results59, go_sem, z0, z1]) rfl ⟨by simp [openV, HE.out], ?_⟩
          exact (B2.setCell (Nat.le_refl _) _).setCell (Nat.le_refl _) _
    · have e1 : (boxesE bs != 0) = true := by simpa using h2
      have HE := Lib.hid (show startE ls bs = 1 by simp [startE, h2])
      go_enter Try.func59, Try.ntmps59
      go_wp2_with fail
      refine HS.out.mono ?_
      rintro e w1 ⟨rfl, hb1⟩
      have B1 := b0.trans (hb1.mono (by simp))
      go_wp2_with fail
      refine (HBX.out _ B1).mono ?_
      rintro e w2 ⟨rfl, hb2⟩
      have B2 := B1.trans (hb2.mono B1.size)
      obtain ⟨z0, z1, f0, f1, hlt2⟩ := ZK.out w2 ((hb1.trans (hb2.mono hb1.size)).mono (by simp))
      go_wp2
      refine bodyPost_ret (v := .tuple #[zHouse, .int .i64 1]) (by simp [results, Try.results59, go_sem, zHouse, z0, z1]) rfl ⟨by simp [openV, HE.out], ?_⟩
      exact (B2.setCell (Nat.le_refl _) _).setCell (Nat.le_refl _) _
  · have e1 : (shelvesE ls != 0) = true := by simpa using h1
    have HE := Lib.hid (show startE ls bs = 1 by simp [startE, h1])
    go_enter Try.func59, Try.ntmps59
    go_wp2_with fail
    refine HS.out.mono ?_
    rintro e w1 ⟨rfl, hb1⟩
    have B1 := b0.trans (hb1.mono (by simp))
    obtain ⟨z0, z1, f0, f1, hlt2⟩ := ZK.out w1 (hb1.mono (by simp))
    go_wp2
    refine bodyPost_ret (v := .tuple #[zHouse, .int .i64 1]) (by simp [results, Try.results59, go_sem, zHouse, z0, z1]) rfl ⟨by simp [openV, HE.out], ?_⟩
    exact (B1.setCell (Nat.le_refl _) _).setCell (Nat.le_refl _) _
end Go.Proofs.Ythabpkigflldmaa
