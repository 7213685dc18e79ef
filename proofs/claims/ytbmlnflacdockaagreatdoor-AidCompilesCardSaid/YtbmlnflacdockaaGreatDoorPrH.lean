/- What a right catalog is made of; the program: Cite, Choose. -/
import Derived.Test.YtbmlnflacdockaaGreatDoorPrF
import Derived.Test.YtbmlnflacdockaaGreatDoorPlD
namespace Go.Proofs.YtbmlnflacdockaaGreatDoor
open Go.RowKit

def citeS (s : Sheet) : ByteArray := if s.mark = ⟨#[]⟩ then s.title else s.mark ++ ⟨#[32]⟩ ++ s.title
/-- how a unit is cited -/
def citeF (l : List Sheet) (u : Int) : ByteArray := if shtIx l u < 0 then ⟨#[63]⟩ else (l[(shtIx l u).toNat]?.map citeS).getD ⟨#[]⟩
set_option maxRecDepth 100000 in
set_option maxHeartbeats 4000000 in
theorem cite_c (c : Cat) (u : Int) (v1 v2 v3 : Value) (w : World) (B : Nat) (hB : B ≤ w.heap.size) (h : Sheets w B c.sheets v3) (hz : ∀ s ∈ c.sheets, s.mark.size ≤ 64 ∧ s.title.size ≤ 64) :
    Calls Tryz.prog 58 #[.agg #[v1, v2, v3], .int .i64 u] w fun e w' => e = .returned (.string (citeF c.sheets u)) ∧ Below w.heap.size w w' := by
  have b1 : Below w.heap.size w (w.alloc (catC v1 v2 v3)) := (Below.refl _ _).alloc (Nat.le_refl _) _
  have KC := Lib.hid (fun (W : World) (hW : Below (w.heap.size + 1) (w.alloc (catC v1 v2 v3)) W) => (⟨(hW.cell (p := ⟨w.heap.size, 2, none⟩) (by simp)).trans (by simp), by have := hW.size; simp at this; omega⟩ : W.cell? ⟨w.heap.size, 2, none⟩ = some v3 ∧ w.heap.size < W.heap.size))
  obtain ⟨ls, lb, xs⟩ := c
  simp only at h hz ⊢
  have HF := Lib.hid (fun (W : World) (hW : Below w.heap.size w W) => find_c xs u v3 W B (Nat.le_trans hB hW.size) (h.below shtS (hW.mono hB)))
  have hb0 : Below (w.heap.size + 1) (w.alloc (catC v1 v2 v3)) (w.alloc (catC v1 v2 v3)) := Below.refl _ _
  rcases idxF_cases (fun s : Sheet => decide (s.unit = u)) xs with ⟨h1, -⟩ | ⟨k, s, h1, h2, -, -⟩
  · have hi : shtIx xs u = -1 := h1
    have HE := Lib.hid (show citeF xs u = ⟨#[63]⟩ by unfold citeF; rw [hi]; rfl)
    rw [hi] at HF
    clear h1 hi
    go_enter Tryz.func58, Tryz.ntmps58
    go_wp2_with fail
    refine (HF.out _ b1).mono ?_
    rintro e w1 ⟨rfl, hb1⟩
    go_wp2
    go_ret
    exact ⟨ret_val (congrArg Value.string HE.out.symm), b1.trans (hb1.mono (by simp))⟩
  · have hi : shtIx xs u = (k : Int) := h1
    have HC := Lib.hid (show citeF xs u = citeS s by unfold citeF; rw [hi, if_neg (by omega)]; simp [h2])
    rw [hi] at HF
    have hkl := lt_of_at h2
    obtain ⟨A, ca, rfl, hc1, hc2, _⟩ := id h
    have hki0 : (0 : Int) ≤ (k : Int) := by omega
    have hki1 : (k : Int) < (xs.length : Int) := by omega
    have hki2 : decide ((k : Int) < 0) = false := by simp
    clear h1 hi
    go_enter Tryz.func58, Tryz.ntmps58
    go_wp2_with fail
    refine (HF.out _ b1).mono ?_
    rintro e w1 ⟨rfl, hb1⟩
    have hbX := bnd_call hb0 (by simp) hb1
    obtain ⟨z2, zl⟩ := KC.out _ hbX
    have B1 := b1.trans (hbX.mono (Nat.le_succ _))
    obtain ⟨b, off, vf, rfl, hbB, g0, g1, g2, g3, g4, g5, hvf⟩ := Sheets.at_ (h.below shtS (B1.mono hB)) h2
    have hbw : b < w1.heap.size := by have := B1.size; omega
    obtain ⟨Af, cf, rfl, -⟩ := id hvf
    have bx := (Below.refl w1.heap.size w1).alloc (Nat.le_refl _) (shtC s (.slice Af s.facts.length cf))
    have y4 := (bx.cell (p := ⟨b, off + k * 6 + 4, none⟩) hbw).trans g4
    have y2 := (bx.cell (p := ⟨w.heap.size, 2, none⟩) zl).trans z2
    obtain ⟨hz1, hz2⟩ := hz s (List.mem_of_getElem? h2)
    clear h2
    by_cases hm : s.mark = ⟨#[]⟩
    · have HE := Lib.hid (show citeF xs u = s.title by rw [HC.out]; unfold citeS; rw [if_pos hm])
      have hm1 : s.mark.toList.isEmpty = true := by rw [str_empty, hm]; rfl
      clear HC hm
      go_wp2
      go_ret
      exact ⟨ret_val (congrArg Value.string HE.out.symm), B1.trans (bx.mono B1.size)⟩
    · have HE := Lib.hid (show citeF xs u = s.mark ++ ⟨#[32]⟩ ++ s.title by rw [HC.out]; unfold citeS; rw [if_neg hm])
      have hm1 : s.mark.toList.isEmpty = false := by
        rw [str_empty, decide_eq_false_iff_not]
        intro e
        exact hm (ByteArray.ext (Array.eq_empty_of_size_eq_zero e))
      have hq1 : ¬ 9223372036854775807 < s.mark.size + 1 := by omega
      have hq2 : ¬ 9223372036854775807 < s.mark.size + 1 + s.title.size := by omega
      have hq3 : (s.mark ++ ⟨#[32]⟩).size = s.mark.size + 1 := by rw [ByteArray.size_append]; rfl
      clear HC hm
      go_wp2
      go_ret
      exact ⟨ret_val (congrArg Value.string HE.out.symm), B1.trans (bx.mono B1.size)⟩
open Go.RowKit

theorem shtG_zero {ls : List ByteArray} : ∀ (r bf : List Sheet) (p : List Int), shtG ls bf p r = 0 → ∀ s ∈ r, (1 ≤ s.unit ∧ s.unit ≤ 1073741824 ∧ 1 ≤ s.level ∧ s.level ≤ 4) ∧ (s.mark.size ≤ 64 ∧ 1 ≤ s.title.size ∧ s.title.size ≤ 64) ∧ fctE ls s.facts = 0
  | [], _, _, _ => by simp
  | x :: r, bf, p, h => by
    rw [shtG_cons] at h
    by_cases h0 : shtF ls bf p x = 0
    · rw [if_pos h0] at h
      intro s hs
      rcases List.mem_cons.1 hs with rfl | hs
      · obtain ⟨a, b, _, _, _, e⟩ := shtF_zero h0
        exact ⟨a, b, e⟩
      · exact shtG_zero r _ _ h s hs
    · rw [if_neg h0] at h
      exact absurd h h0
theorem catE_zero {c : Cat} (h : catE c = 0) : langE c.langs = 0 ∧ labE c.langs c.labels = 0 ∧ c.sheets.length ≤ 256 ∧ ∀ s ∈ c.sheets, (1 ≤ s.unit ∧ s.unit ≤ 1073741824 ∧ 1 ≤ s.level ∧ s.level ≤ 4) ∧ (s.mark.size ≤ 64 ∧ 1 ≤ s.title.size ∧ s.title.size ≤ 64) ∧ fctE c.langs s.facts = 0 := by
  unfold catE at h
  by_cases h1 : langE c.langs = 0
  · rw [if_neg (by simp [h1])] at h
    by_cases h2 : labE c.langs c.labels = 0
    · rw [if_neg (by simp [h2])] at h
      unfold shtE at h
      by_cases h3 : 256 < c.sheets.length
      · rw [if_pos h3] at h; cases h
      rw [if_neg h3] at h
      exact ⟨h1, h2, by omega, shtG_zero _ _ _ h⟩
    · rw [if_pos h2] at h; exact absurd h h2
  · rw [if_pos h1] at h; exact absurd h h1
theorem fctE_len {ls : List ByteArray} {l : List Fact} (h : fctE ls l = 0) : l.length ≤ 32 := by
  unfold fctE at h
  by_cases h3 : 32 < l.length
  · rw [if_pos h3] at h; cases h
  · omega
def citeR (c : Cat) (u : Int) : ByteArray := if catE c = 0 then citeF c.sheets u else ⟨#[]⟩
set_option maxRecDepth 100000 in
set_option maxHeartbeats 4000000 in
theorem Cite_c (c : Cat) (u : Int) (v1 v2 v3 : Value) (w : World) (B : Nat) (hB : B ≤ w.heap.size) (h : CatRep w B c v1 v2 v3) :
    Calls Tryz.prog 24 #[.agg #[v1, v2, v3], .int .i64 u] w fun e w' => e = .returned (.string (citeR c u)) ∧ Below w.heap.size w w' := by
  have b1 : Below w.heap.size w (w.alloc (catC v1 v2 v3)) := (Below.refl _ _).alloc (Nat.le_refl _) _
  have KC := Lib.hid (fun (W : World) (hW : Below (w.heap.size + 1) (w.alloc (catC v1 v2 v3)) W) => (⟨(hW.cell (p := ⟨w.heap.size, 0, none⟩) (by simp)).trans (by simp), (hW.cell (p := ⟨w.heap.size, 1, none⟩) (by simp)).trans (by simp), (hW.cell (p := ⟨w.heap.size, 2, none⟩) (by simp)).trans (by simp), by have := hW.size; simp at this; omega⟩ : W.cell? ⟨w.heap.size, 0, none⟩ = some v1 ∧ W.cell? ⟨w.heap.size, 1, none⟩ = some v2 ∧ W.cell? ⟨w.heap.size, 2, none⟩ = some v3 ∧ w.heap.size < W.heap.size))
  have HC := Lib.hid (fun (W : World) (hW : Below w.heap.size w W) => Check_c c v1 v2 v3 W B (Nat.le_trans hB hW.size) (h.below (hW.mono hB)))
  have hb0 : Below (w.heap.size + 1) (w.alloc (catC v1 v2 v3)) (w.alloc (catC v1 v2 v3)) := Below.refl _ _
  by_cases h1 : catE c = 0
  · have HE := Lib.hid (show citeR c u = citeF c.sheets u by unfold citeR; rw [if_pos h1])
    have HCI := Lib.hid (fun (W : World) (hW : Below w.heap.size w W) => cite_c c u v1 v2 v3 W B (Nat.le_trans hB hW.size) (h.sheets.below shtS (hW.mono hB)) (fun s hs => by have := ((catE_zero h1).2.2.2 s hs).2.1; exact ⟨this.1, this.2.2⟩))
    rw [h1] at HC
    clear h1
    go_enter Tryz.func24, Tryz.ntmps24
    go_wp2_with fail
    refine (HC.out _ b1).mono ?_
    rintro e w1 ⟨rfl, hb1⟩
    have hbX := bnd_call hb0 (by simp) hb1
    obtain ⟨z0, z1, z2, zl⟩ := KC.out _ hbX
    have B1 := b1.trans (hbX.mono (Nat.le_succ _))
    go_wp2_with fail
    refine (HCI.out _ B1).mono ?_
    rintro e w2 ⟨rfl, hb2⟩
    go_wp2
    go_ret
    exact ⟨ret_val (congrArg Value.string HE.out.symm), B1.trans (hb2.mono B1.size)⟩
  · have HE := Lib.hid (show citeR c u = ⟨#[]⟩ by unfold citeR; rw [if_neg h1])
    obtain ⟨n1, n2⟩ := ne_bool h1
    clear h1
    go_enter Tryz.func24, Tryz.ntmps24
    go_wp2_with fail
    refine (HC.out _ b1).mono ?_
    rintro e w1 ⟨rfl, hb1⟩
    go_wp2
    go_ret
    exact ⟨ret_val (congrArg Value.string HE.out.symm), b1.trans (hb1.mono (by simp))⟩
end Go.Proofs.YtbmlnflacdockaaGreatDoor
