/- The program's concordance: Standing. -/
import Derived.Test.YtgnaknanpgfpnaaCncE
namespace Go.Proofs.Ytgnaknanpgfpnaa
open Go.RowKit

theorem atF_cases (hs : List Shot) (d : Int) : atF hs d = -1 ∨ ∃ (n : Nat) (s : Shot), atF hs d = (n : Int) ∧ hs[n]? = some s := by
  unfold atF
  rcases idxF_cases (fun x : Shot => decide (d < x.day)) hs with ⟨hf, _⟩ | ⟨k, y, hf, hk, _⟩
  · rw [hf, if_pos (by decide)]
    rcases Nat.eq_zero_or_pos hs.length with h0 | h0
    · left; omega
    · obtain ⟨s, hs'⟩ := get_at hs (show hs.length - 1 < hs.length by omega)
      exact .inr ⟨hs.length - 1, s, by omega, hs'⟩
  · rw [hf, if_neg (by omega)]
    rcases Nat.eq_zero_or_pos k with h0 | h0
    · left; omega
    · obtain ⟨s, hs'⟩ := get_at hs (show k - 1 < hs.length by have := lt_of_at hk; omega)
      exact .inr ⟨k - 1, s, by omega, hs'⟩
theorem progAt_cases (hs : List Shot) (d : Int) : progAt hs d = -1 ∨ ∃ (n : Nat) (s : Shot), progAt hs d = (n : Int) ∧ hs[n]? = some s := by
  unfold progAt
  split
  · exact .inl rfl
  · exact atF_cases hs d
def stNone : Standing := ⟨0, 0, 0, ⟨#[]⟩, ⟨#[]⟩⟩
def standF (hs : List Shot) (i : Int) (u : Int) : Option Standing := if i < 0 then none else match hs[i.toNat]? with
  | none => none
  | some s => s.units.find? (fun x => x.unit == u)
def progStanding (hs : List Shot) (u d : Int) : Option Standing := standF hs (progAt hs d) u
def stVal (o : Option Standing) : Value := match o with
  | none => .tuple #[.agg #[.int .i64 0, .int .i64 0, .int .i64 0, .string ⟨#[]⟩, .string ⟨#[]⟩], .bool false]
  | some x => .tuple #[.agg #[.int .i64 x.unit, .int .i64 x.parent, .int .i64 x.level, .string x.mark, .string x.title], .bool true]

theorem set5 {w : World} {g : Nat} {a0 a1 a2 a3 a4 : Value} (v0 v1 v2 v3 v4 : Value) (h0 : w.cell? ⟨g, 0, none⟩ = some a0) (h1 : w.cell? ⟨g, 1, none⟩ = some a1) (h2 : w.cell? ⟨g, 2, none⟩ = some a2) (h3 : w.cell? ⟨g, 3, none⟩ = some a3) (h4 : w.cell? ⟨g, 4, none⟩ = some a4) :
    (w.setCell ⟨g, 0, none⟩ v0).cell? ⟨g, 0, none⟩ = some v0 ∧ ((w.setCell ⟨g, 0, none⟩ v0).setCell ⟨g, 1, none⟩ v1).cell? ⟨g, 1, none⟩ = some v1 ∧ (((w.setCell ⟨g, 0, none⟩ v0).setCell ⟨g, 1, none⟩ v1).setCell ⟨g, 2, none⟩ v2).cell? ⟨g, 2, none⟩ = some v2 ∧
    ((((w.setCell ⟨g, 0, none⟩ v0).setCell ⟨g, 1, none⟩ v1).setCell ⟨g, 2, none⟩ v2).setCell ⟨g, 3, none⟩ v3).cell? ⟨g, 3, none⟩ = some v3 ∧ (((((w.setCell ⟨g, 0, none⟩ v0).setCell ⟨g, 1, none⟩ v1).setCell ⟨g, 2, none⟩ v2).setCell ⟨g, 3, none⟩ v3).setCell ⟨g, 4, none⟩ v4).cell? ⟨g, 4, none⟩ = some v4 := by
  have o : ∀ (W : World) (i j : Nat) (v : Value), i ≠ j → (W.setCell ⟨g, i, none⟩ v).cell? ⟨g, j, none⟩ = W.cell? ⟨g, j, none⟩ := fun W i j v hij => World.cell?_setCell_other W _ _ v (fun he => hij (by injection he))
  refine ⟨World.cell?_setCell_same _ _ _ h0, World.cell?_setCell_same _ _ _ (u := a1) ?_, World.cell?_setCell_same _ _ _ (u := a2) ?_, World.cell?_setCell_same _ _ _ (u := a3) ?_, World.cell?_setCell_same _ _ _ (u := a4) ?_⟩
  · rw [o _ 0 1 _ (by decide)]; exact h1
  · rw [o _ 1 2 _ (by decide), o _ 0 2 _ (by decide)]; exact h2
  · rw [o _ 2 3 _ (by decide), o _ 1 3 _ (by decide), o _ 0 3 _ (by decide)]; exact h3
  · rw [o _ 3 4 _ (by decide), o _ 2 4 _ (by decide), o _ 1 4 _ (by decide), o _ 0 4 _ (by decide)]; exact h4

set_option maxHeartbeats 2000000 in
theorem standing_c (u d : Int) (hs : List Shot) (v : Value) (w : World) (B : Nat) (hB : B ≤ w.heap.size) (h : Shots w B hs v) :
    Calls Try.prog 25 #[v, .int .i64 u, .int .i64 d] w fun e w' => e = .returned (stVal (progStanding hs u d)) ∧ Below w.heap.size w w' := by
  have hbox : Below w.heap.size w (w.alloc (.cells #[.int .i64 0, .int .i64 0, .int .i64 0, .string ⟨#[]⟩, .string ⟨#[]⟩] 46)) := (Below.refl _ _).alloc (Nat.le_refl _) _
  have HC := Lib.hid (progAt_c d hs _ _ B (by simp; omega) (h.below shS (hbox.mono hB)))
  obtain ⟨A, c, rfl, hc1, hc2, _⟩ := id h
  rcases progAt_cases hs d with hf | ⟨n, s, hf, hn⟩
  · have HE := Lib.hid (show progStanding hs u d = none by simp [progStanding, standF, hf])
    rw [hf] at HC
    clear hf
    go_enter Try.func25, Try.ntmps25
    go_wp2_with fail
    refine HC.out.mono ?_
    rintro e w1 ⟨rfl, hb1⟩
    have hs1 := hb1.size
    simp only [World.size_alloc] at hs1
    have q0 : w1.cell? ⟨w.heap.size, 0, none⟩ = some (.int .i64 0) := (hb1.cell (p := ⟨w.heap.size, 0, none⟩) (by simp)).trans (by simp)
    have r0 : w1.frozen? ⟨w.heap.size, 0, none⟩ = false := (hb1.frozen (p := ⟨w.heap.size, 0, none⟩) (by simp)).trans (by simp)
    have q1 : w1.cell? ⟨w.heap.size, 1, none⟩ = some (.int .i64 0) := (hb1.cell (p := ⟨w.heap.size, 1, none⟩) (by simp)).trans (by simp)
    have r1 : w1.frozen? ⟨w.heap.size, 1, none⟩ = false := (hb1.frozen (p := ⟨w.heap.size, 1, none⟩) (by simp)).trans (by simp)
    have q2 : w1.cell? ⟨w.heap.size, 2, none⟩ = some (.int .i64 0) := (hb1.cell (p := ⟨w.heap.size, 2, none⟩) (by simp)).trans (by simp)
    have r2 : w1.frozen? ⟨w.heap.size, 2, none⟩ = false := (hb1.frozen (p := ⟨w.heap.size, 2, none⟩) (by simp)).trans (by simp)
    have q3 : w1.cell? ⟨w.heap.size, 3, none⟩ = some (.string ⟨#[]⟩) := (hb1.cell (p := ⟨w.heap.size, 3, none⟩) (by simp)).trans (by simp)
    have r3 : w1.frozen? ⟨w.heap.size, 3, none⟩ = false := (hb1.frozen (p := ⟨w.heap.size, 3, none⟩) (by simp)).trans (by simp)
    have q4 : w1.cell? ⟨w.heap.size, 4, none⟩ = some (.string ⟨#[]⟩) := (hb1.cell (p := ⟨w.heap.size, 4, none⟩) (by simp)).trans (by simp)
    have r4 : w1.frozen? ⟨w.heap.size, 4, none⟩ = false := (hb1.frozen (p := ⟨w.heap.size, 4, none⟩) (by simp)).trans (by simp)
    go_wp2
    obtain ⟨k0, k1, k2, k3, k4⟩ := set5 (.int .i64 0) (.int .i64 0) (.int .i64 0) (.string ⟨#[]⟩) (.string ⟨#[]⟩) q0 q1 q2 q3 q4
    refine bodyPost_ret (v := stVal (none)) (by simp [results, Try.results25, go_sem, k0, k1, k2, k3, k4, stVal]) rfl ?_
    refine ⟨by rw [HE.out], ?_⟩
    have hbb := hbox.trans (hb1.mono (by simp))
    exact ((((hbb.setCell (Nat.le_refl _) _).setCell (Nat.le_refl _) _).setCell (Nat.le_refl _) _).setCell (Nat.le_refl _) _).setCell (Nat.le_refl _) _
  · have hnl := lt_of_at hn
    have HC2 := Lib.hid (fun (W : World) (hW : Below w.heap.size w W) => (Shots.at_ (h.below shS (hW.mono hB)) hn))
    rw [hf] at HC
    obtain ⟨b, off, v, hA, hbB, g0, g1, hu⟩ := Shots.at_ h hn
    subst hA
    obtain ⟨A', c', rfl, hd1, hd2, _⟩ := id hu
    have hbw : b < w.heap.size := by omega
    rcases idxF_cases (fun x : Standing => x.unit == u) s.units with ⟨hi, hq⟩ | ⟨k, y, hi, hk, _, hq⟩
    · have HE := Lib.hid (show progStanding hs u d = none by simp [progStanding, standF, hf, hn, hq])
      clear hf hn hq HC2
      go_enter Try.func25, Try.ntmps25
      go_wp2_with fail
      refine HC.out.mono ?_
      rintro e w1 ⟨rfl, hb1⟩
      have hs1 := hb1.size
      simp only [World.size_alloc] at hs1
      have hbb := hbox.trans (hb1.mono (by simp))
      have e1 := (hbb.cell (p := ⟨b, off + n * 2 + 1, none⟩) hbw).trans g1
      have HD := Lib.hid (cfind_c u s.units _ w1 B (by omega) (hu.below stS (hbb.mono hB)))
      rw [hi] at HD
      clear hi
      go_wp2_with fail
      refine HD.out.mono ?_
      rintro e w2 ⟨rfl, hb2⟩
      have hs2 := hb2.size
      have q0 : w1.cell? ⟨w.heap.size, 0, none⟩ = some (.int .i64 0) := (hb1.cell (p := ⟨w.heap.size, 0, none⟩) (by simp)).trans (by simp)
      have r0 : w1.frozen? ⟨w.heap.size, 0, none⟩ = false := (hb1.frozen (p := ⟨w.heap.size, 0, none⟩) (by simp)).trans (by simp)
      have q1 : w1.cell? ⟨w.heap.size, 1, none⟩ = some (.int .i64 0) := (hb1.cell (p := ⟨w.heap.size, 1, none⟩) (by simp)).trans (by simp)
      have r1 : w1.frozen? ⟨w.heap.size, 1, none⟩ = false := (hb1.frozen (p := ⟨w.heap.size, 1, none⟩) (by simp)).trans (by simp)
      have q2 : w1.cell? ⟨w.heap.size, 2, none⟩ = some (.int .i64 0) := (hb1.cell (p := ⟨w.heap.size, 2, none⟩) (by simp)).trans (by simp)
      have r2 : w1.frozen? ⟨w.heap.size, 2, none⟩ = false := (hb1.frozen (p := ⟨w.heap.size, 2, none⟩) (by simp)).trans (by simp)
      have q3 : w1.cell? ⟨w.heap.size, 3, none⟩ = some (.string ⟨#[]⟩) := (hb1.cell (p := ⟨w.heap.size, 3, none⟩) (by simp)).trans (by simp)
      have r3 : w1.frozen? ⟨w.heap.size, 3, none⟩ = false := (hb1.frozen (p := ⟨w.heap.size, 3, none⟩) (by simp)).trans (by simp)
      have q4 : w1.cell? ⟨w.heap.size, 4, none⟩ = some (.string ⟨#[]⟩) := (hb1.cell (p := ⟨w.heap.size, 4, none⟩) (by simp)).trans (by simp)
      have r4 : w1.frozen? ⟨w.heap.size, 4, none⟩ = false := (hb1.frozen (p := ⟨w.heap.size, 4, none⟩) (by simp)).trans (by simp)
      have s0 := (hb2.cell (p := ⟨w.heap.size, 0, none⟩) (by show w.heap.size < _; omega)).trans q0
      have t0 := (hb2.frozen (p := ⟨w.heap.size, 0, none⟩) (by show w.heap.size < _; omega)).trans r0
      have s1 := (hb2.cell (p := ⟨w.heap.size, 1, none⟩) (by show w.heap.size < _; omega)).trans q1
      have t1 := (hb2.frozen (p := ⟨w.heap.size, 1, none⟩) (by show w.heap.size < _; omega)).trans r1
      have s2 := (hb2.cell (p := ⟨w.heap.size, 2, none⟩) (by show w.heap.size < _; omega)).trans q2
      have t2 := (hb2.frozen (p := ⟨w.heap.size, 2, none⟩) (by show w.heap.size < _; omega)).trans r2
      have s3 := (hb2.cell (p := ⟨w.heap.size, 3, none⟩) (by show w.heap.size < _; omega)).trans q3
      have t3 := (hb2.frozen (p := ⟨w.heap.size, 3, none⟩) (by show w.heap.size < _; omega)).trans r3
      have s4 := (hb2.cell (p := ⟨w.heap.size, 4, none⟩) (by show w.heap.size < _; omega)).trans q4
      have t4 := (hb2.frozen (p := ⟨w.heap.size, 4, none⟩) (by show w.heap.size < _; omega)).trans r4
      go_wp2
      obtain ⟨k0, k1, k2, k3, k4⟩ := set5 (.int .i64 0) (.int .i64 0) (.int .i64 0) (.string ⟨#[]⟩) (.string ⟨#[]⟩) s0 s1 s2 s3 s4
      refine bodyPost_ret (v := stVal (none)) (by simp [results, Try.results25, go_sem, k0, k1, k2, k3, k4, stVal]) rfl ?_
      refine ⟨by rw [HE.out], ?_⟩
      have hbb2 := hbb.trans (hb2.mono (by omega))
      exact ((((hbb2.setCell (Nat.le_refl _) _).setCell (Nat.le_refl _) _).setCell (Nat.le_refl _) _).setCell (Nat.le_refl _) _).setCell (Nat.le_refl _) _
    · have hkl := lt_of_at hk
      have HE := Lib.hid (show progStanding hs u d = some y by simp [progStanding, standF, hf, hn, hq])
      clear hf hn hq HC2
      obtain ⟨b2, off2, hA2, hbB2, y0, y1, y2, y3, y4⟩ := Units.at_ hu hk
      subst hA2
      have hbw2 : b2 < w.heap.size := by omega
      go_enter Try.func25, Try.ntmps25
      go_wp2_with fail
      refine HC.out.mono ?_
      rintro e w1 ⟨rfl, hb1⟩
      have hs1 := hb1.size
      simp only [World.size_alloc] at hs1
      have hbb := hbox.trans (hb1.mono (by simp))
      have e1 := (hbb.cell (p := ⟨b, off + n * 2 + 1, none⟩) hbw).trans g1
      have HD := Lib.hid (cfind_c u s.units _ w1 B (by omega) (hu.below stS (hbb.mono hB)))
      rw [hi] at HD
      clear hi hk
      go_wp2_with fail
      refine HD.out.mono ?_
      rintro e w2 ⟨rfl, hb2⟩
      have hs2 := hb2.size
      have hbb2 := hbb.trans (hb2.mono (by omega))
      have q0 : w1.cell? ⟨w.heap.size, 0, none⟩ = some (.int .i64 0) := (hb1.cell (p := ⟨w.heap.size, 0, none⟩) (by simp)).trans (by simp)
      have r0 : w1.frozen? ⟨w.heap.size, 0, none⟩ = false := (hb1.frozen (p := ⟨w.heap.size, 0, none⟩) (by simp)).trans (by simp)
      have q1 : w1.cell? ⟨w.heap.size, 1, none⟩ = some (.int .i64 0) := (hb1.cell (p := ⟨w.heap.size, 1, none⟩) (by simp)).trans (by simp)
      have r1 : w1.frozen? ⟨w.heap.size, 1, none⟩ = false := (hb1.frozen (p := ⟨w.heap.size, 1, none⟩) (by simp)).trans (by simp)
      have q2 : w1.cell? ⟨w.heap.size, 2, none⟩ = some (.int .i64 0) := (hb1.cell (p := ⟨w.heap.size, 2, none⟩) (by simp)).trans (by simp)
      have r2 : w1.frozen? ⟨w.heap.size, 2, none⟩ = false := (hb1.frozen (p := ⟨w.heap.size, 2, none⟩) (by simp)).trans (by simp)
      have q3 : w1.cell? ⟨w.heap.size, 3, none⟩ = some (.string ⟨#[]⟩) := (hb1.cell (p := ⟨w.heap.size, 3, none⟩) (by simp)).trans (by simp)
      have r3 : w1.frozen? ⟨w.heap.size, 3, none⟩ = false := (hb1.frozen (p := ⟨w.heap.size, 3, none⟩) (by simp)).trans (by simp)
      have q4 : w1.cell? ⟨w.heap.size, 4, none⟩ = some (.string ⟨#[]⟩) := (hb1.cell (p := ⟨w.heap.size, 4, none⟩) (by simp)).trans (by simp)
      have r4 : w1.frozen? ⟨w.heap.size, 4, none⟩ = false := (hb1.frozen (p := ⟨w.heap.size, 4, none⟩) (by simp)).trans (by simp)
      have s0 := (hb2.cell (p := ⟨w.heap.size, 0, none⟩) (by show w.heap.size < _; omega)).trans q0
      have t0 := (hb2.frozen (p := ⟨w.heap.size, 0, none⟩) (by show w.heap.size < _; omega)).trans r0
      have s1 := (hb2.cell (p := ⟨w.heap.size, 1, none⟩) (by show w.heap.size < _; omega)).trans q1
      have t1 := (hb2.frozen (p := ⟨w.heap.size, 1, none⟩) (by show w.heap.size < _; omega)).trans r1
      have s2 := (hb2.cell (p := ⟨w.heap.size, 2, none⟩) (by show w.heap.size < _; omega)).trans q2
      have t2 := (hb2.frozen (p := ⟨w.heap.size, 2, none⟩) (by show w.heap.size < _; omega)).trans r2
      have s3 := (hb2.cell (p := ⟨w.heap.size, 3, none⟩) (by show w.heap.size < _; omega)).trans q3
      have t3 := (hb2.frozen (p := ⟨w.heap.size, 3, none⟩) (by show w.heap.size < _; omega)).trans r3
      have s4 := (hb2.cell (p := ⟨w.heap.size, 4, none⟩) (by show w.heap.size < _; omega)).trans q4
      have t4 := (hb2.frozen (p := ⟨w.heap.size, 4, none⟩) (by show w.heap.size < _; omega)).trans r4
      have f1 := (hbb2.cell (p := ⟨b, off + n * 2 + 1, none⟩) hbw).trans g1
      have z0 := (hbb2.cell (p := ⟨b2, off2 + k * 5, none⟩) hbw2).trans y0
      have z1 := (hbb2.cell (p := ⟨b2, off2 + k * 5 + 1, none⟩) hbw2).trans y1
      have z2 := (hbb2.cell (p := ⟨b2, off2 + k * 5 + 2, none⟩) hbw2).trans y2
      have z3 := (hbb2.cell (p := ⟨b2, off2 + k * 5 + 3, none⟩) hbw2).trans y3
      have z4 := (hbb2.cell (p := ⟨b2, off2 + k * 5 + 4, none⟩) hbw2).trans y4
      go_wp2
      obtain ⟨k0, k1, k2, k3, k4⟩ := set5 (.int .i64 y.unit) (.int .i64 y.parent) (.int .i64 y.level) (.string y.mark) (.string y.title) s0 s1 s2 s3 s4
      refine bodyPost_ret (v := stVal (some y)) (by simp [results, Try.results25, go_sem, k0, k1, k2, k3, k4, stVal]) rfl ?_
      refine ⟨by rw [HE.out], ?_⟩
      exact ((((hbb2.setCell (Nat.le_refl _) _).setCell (Nat.le_refl _) _).setCell (Nat.le_refl _) _).setCell (Nat.le_refl _) _).setCell (Nat.le_refl _) _
end Go.Proofs.Ytgnaknanpgfpnaa
