/- The reference of chapter 49: Standing. -/
import Derived.Test.YtgnaknanpgfpnaaRefJ
namespace Go.Proofs.Ytgnaknanpgfpnaa
open Go.RowKit

theorem atG_cases (d : Int) : ∀ (l pre : List Shot) (o : Int), (o = -1 ∨ ∃ (n : Nat) (s : Shot), o = (n : Int) ∧ (pre ++ l)[n]? = some s) → atG d l pre.length o = -1 ∨ ∃ (n : Nat) (s : Shot), atG d l pre.length o = (n : Int) ∧ (pre ++ l)[n]? = some s
  | [], _, _, h => h
  | x :: l, pre, o, h => by
    have := atG_cases d l (pre ++ [x]) (if x.day ≤ d then (pre.length : Int) else o) (by
      split
      · exact .inr ⟨pre.length, x, rfl, by simp⟩
      · simpa using h)
    simpa [atG] using this
theorem refAt_cases (hs : List Shot) (d : Int) : refAt hs d = -1 ∨ ∃ (n : Nat) (s : Shot), refAt hs d = (n : Int) ∧ hs[n]? = some s := by
  unfold refAt
  split
  · exact .inl rfl
  · exact atG_cases d hs [] (-1) (.inl rfl)
def refStanding (hs : List Shot) (u d : Int) : Option Standing := standF hs (refAt hs d) u
set_option maxHeartbeats 2000000 in
theorem rstanding_c (u d : Int) (hs : List Shot) (v : Value) (w : World) (B : Nat) (hB : B ≤ w.heap.size) (h : Shots w B hs v) :
    Calls Try.prog 26 #[v, .int .i64 u, .int .i64 d] w fun e w' => e = .returned (stVal (refStanding hs u d)) ∧ Below w.heap.size w w' := by
  have hbox : Below w.heap.size w (w.alloc (.cells #[.int .i64 0, .int .i64 0, .int .i64 0, .string ⟨#[]⟩, .string ⟨#[]⟩] 46)) := (Below.refl _ _).alloc (Nat.le_refl _) _
  have HC := Lib.hid (refAt_c hs d _ _ B (by simp; omega) (h.below shS (hbox.mono hB)))
  obtain ⟨A, c, rfl, hc1, hc2, _⟩ := id h
  rcases refAt_cases hs d with hf | ⟨n, s, hf, hn⟩
  · have HE := Lib.hid (show refStanding hs u d = none by simp [refStanding, standF, hf])
    rw [hf] at HC
    clear hf
    go_enter Try.func26, Try.ntmps26
    go_wp2_with fail
    refine HC.out.mono ?_
    rintro e w1 ⟨rfl, hb1⟩
    have hs1 := hb1.size
    simp only [World.size_alloc] at hs1
    have q0 : w1.cell? ⟨w.heap.size, 0, none⟩ = some (.int .i64 0) := (hb1.cell (p := ⟨w.heap.size, 0, none⟩) (by simp)).trans (by simp)
    have r0 : w1.frozen? ⟨w.heap.size, 0, none⟩ = false := (hb1.frozen (p := ⟨w.heap.size, 0, none⟩) (by simp)).trans (by simp)
    have q1 : w1.cell? ⟨w.heap.size, 1, none⟩ = some (.int .i64 0) := (hb1.cell (p := ⟨w.heap.size, 1, none⟩) (by simp)).trans (by simp)
    have r1 : w1.frozen? ⟨w.heap.size, 1, none⟩ = false := (hb1.frozen (p := ⟨w.heap.size, 1, none⟩) (by simp)).trans (by simp)
    have q2 : w1.cell? ⟨w.heap.size, 2, none⟩ = some (.int .i64 0) := (hb1.cell (p := ⟨w.heap.size, 2, none⟩) (by simp)).trans (by simp)
    have r2 : w1.frozen? ⟨w.heap.size, 2, none⟩ = false := (hb1.frozen (p := ⟨w.heap.size, 2, none⟩) (by simp)).trans (by simp)
    have q3 : w1.cell? ⟨w.heap.size, 3, none⟩ = some (.string ⟨#[]⟩) := (hb1.cell (p := ⟨w.heap.size, 3, none⟩) (by simp)).trans (by simp)
    have r3 : w1.frozen? ⟨w.heap.size, 3, none⟩ = false := (hb1.frozen (p := ⟨w.heap.size, 3, none⟩) (by simp)).trans (by simp)
    have q4 : w1.cell? ⟨w.heap.size, 4, none⟩ = some (.string ⟨#[]⟩) := (hb1.cell (p := ⟨w.heap.size, 4, none⟩) (by simp)).trans (by simp)
    have r4 : w1.frozen? ⟨w.heap.size, 4, none⟩ = false := (hb1.frozen (p := ⟨w.heap.size, 4, none⟩) (by simp)).trans (by simp)
    go_wp2
    obtain ⟨k0, k1, k2, k3, k4⟩ := set5 (.int .i64 0) (.int .i64 0) (.int .i64 0) (.string ⟨#[]⟩) (.string ⟨#[]⟩) q0 q1 q2 q3 q4
    refine bodyPost_ret (v := stVal (none)) (by simp [results, Try.results26, go_sem, k0, k1, k2, k3, k4, stVal]) rfl ?_
    refine ⟨by rw [HE.out], ?_⟩
    exact (((((hbox.trans (hb1.mono (by simp))).setCell (Nat.le_refl _) _).setCell (Nat.le_refl _) _).setCell (Nat.le_refl _) _).setCell (Nat.le_refl _) _).setCell (Nat.le_refl _) _
  · have hnl := lt_of_at hn
    rw [hf] at HC
    obtain ⟨b, off, v, hA, hbB, g0, g1, hu⟩ := Shots.at_ h hn
    subst hA
    obtain ⟨A', c', rfl, hd1, hd2, _⟩ := id hu
    have hbw : b < w.heap.size := by omega
    have HF := Lib.hid (fun (W : World) (hW : Below w.heap.size w W) => find_c s.day u s.units _ W B (by have := hW.size; omega) (hu.below stS (hW.mono hB)))
    rcases findF_cases s.units u with ⟨hi, hq⟩ | ⟨k, y, hi, hk, hyu, hq⟩
    · have HE := Lib.hid (show refStanding hs u d = none by have hq' : s.units.find? (fun x => x.unit == u) = none := hq; simp [refStanding, standF, hf, hn, hq'])
      rw [hi] at HF
      clear hf hn hq hi
      go_enter Try.func26, Try.ntmps26
      go_wp2_with fail
      refine HC.out.mono ?_
      rintro e w1 ⟨rfl, hb1⟩
      have hs1 := hb1.size
      simp only [World.size_alloc] at hs1
      have hbb := hbox.trans (hb1.mono (by simp))
      have e0 := (hbb.cell (p := ⟨b, off + n * 2, none⟩) hbw).trans g0
      have e1 := (hbb.cell (p := ⟨b, off + n * 2 + 1, none⟩) hbw).trans g1
      have hb1w : b < w1.heap.size := by omega
      go_wp2_with fail
      refine (HF.out _ hbb).mono ?_
      rintro e w2 ⟨rfl, hb2⟩
      have hs2 := hb2.size
      have q0 : w1.cell? ⟨w.heap.size, 0, none⟩ = some (.int .i64 0) := (hb1.cell (p := ⟨w.heap.size, 0, none⟩) (by simp)).trans (by simp)
      have r0 : w1.frozen? ⟨w.heap.size, 0, none⟩ = false := (hb1.frozen (p := ⟨w.heap.size, 0, none⟩) (by simp)).trans (by simp)
      have q1 : w1.cell? ⟨w.heap.size, 1, none⟩ = some (.int .i64 0) := (hb1.cell (p := ⟨w.heap.size, 1, none⟩) (by simp)).trans (by simp)
      have r1 : w1.frozen? ⟨w.heap.size, 1, none⟩ = false := (hb1.frozen (p := ⟨w.heap.size, 1, none⟩) (by simp)).trans (by simp)
      have q2 : w1.cell? ⟨w.heap.size, 2, none⟩ = some (.int .i64 0) := (hb1.cell (p := ⟨w.heap.size, 2, none⟩) (by simp)).trans (by simp)
      have r2 : w1.frozen? ⟨w.heap.size, 2, none⟩ = false := (hb1.frozen (p := ⟨w.heap.size, 2, none⟩) (by simp)).trans (by simp)
      have q3 : w1.cell? ⟨w.heap.size, 3, none⟩ = some (.string ⟨#[]⟩) := (hb1.cell (p := ⟨w.heap.size, 3, none⟩) (by simp)).trans (by simp)
      have r3 : w1.frozen? ⟨w.heap.size, 3, none⟩ = false := (hb1.frozen (p := ⟨w.heap.size, 3, none⟩) (by simp)).trans (by simp)
      have q4 : w1.cell? ⟨w.heap.size, 4, none⟩ = some (.string ⟨#[]⟩) := (hb1.cell (p := ⟨w.heap.size, 4, none⟩) (by simp)).trans (by simp)
      have r4 : w1.frozen? ⟨w.heap.size, 4, none⟩ = false := (hb1.frozen (p := ⟨w.heap.size, 4, none⟩) (by simp)).trans (by simp)
      have s0 := (hb2.cell (p := ⟨w.heap.size, 0, none⟩) (by show w.heap.size < _; omega)).trans q0
      have t0 := (hb2.frozen (p := ⟨w.heap.size, 0, none⟩) (by show w.heap.size < _; omega)).trans r0
      have s1 := (hb2.cell (p := ⟨w.heap.size, 1, none⟩) (by show w.heap.size < _; omega)).trans q1
      have t1 := (hb2.frozen (p := ⟨w.heap.size, 1, none⟩) (by show w.heap.size < _; omega)).trans r1
      have s2 := (hb2.cell (p := ⟨w.heap.size, 2, none⟩) (by show w.heap.size < _; omega)).trans q2
      have t2 := (hb2.frozen (p := ⟨w.heap.size, 2, none⟩) (by show w.heap.size < _; omega)).trans r2
      have s3 := (hb2.cell (p := ⟨w.heap.size, 3, none⟩) (by show w.heap.size < _; omega)).trans q3
      have t3 := (hb2.frozen (p := ⟨w.heap.size, 3, none⟩) (by show w.heap.size < _; omega)).trans r3
      have s4 := (hb2.cell (p := ⟨w.heap.size, 4, none⟩) (by show w.heap.size < _; omega)).trans q4
      have t4 := (hb2.frozen (p := ⟨w.heap.size, 4, none⟩) (by show w.heap.size < _; omega)).trans r4
      go_wp2
      obtain ⟨k0, k1, k2, k3, k4⟩ := set5 (.int .i64 0) (.int .i64 0) (.int .i64 0) (.string ⟨#[]⟩) (.string ⟨#[]⟩) s0 s1 s2 s3 s4
      refine bodyPost_ret (v := stVal (none)) (by simp [results, Try.results26, go_sem, k0, k1, k2, k3, k4, stVal]) rfl ?_
      refine ⟨by rw [HE.out], ?_⟩
      exact (((((hbb.trans (hb2.mono (by omega))).setCell (Nat.le_refl _) _).setCell (Nat.le_refl _) _).setCell (Nat.le_refl _) _).setCell (Nat.le_refl _) _).setCell (Nat.le_refl _) _
    · have hkl := lt_of_at hk
      have HE := Lib.hid (show refStanding hs u d = some y by have hq' : s.units.find? (fun x => x.unit == u) = some y := hq; simp [refStanding, standF, hf, hn, hq'])
      rw [hi] at HF
      obtain ⟨b2, off2, hA2, hbB2, y0, y1, y2, y3, y4⟩ := Units.at_ hu hk
      subst hA2
      have hbw2 : b2 < w.heap.size := by omega
      clear hf hn hq hi hk hyu
      go_enter Try.func26, Try.ntmps26
      go_wp2_with fail
      refine HC.out.mono ?_
      rintro e w1 ⟨rfl, hb1⟩
      have hs1 := hb1.size
      simp only [World.size_alloc] at hs1
      have hbb := hbox.trans (hb1.mono (by simp))
      have e0 := (hbb.cell (p := ⟨b, off + n * 2, none⟩) hbw).trans g0
      have e1 := (hbb.cell (p := ⟨b, off + n * 2 + 1, none⟩) hbw).trans g1
      have hb1w : b < w1.heap.size := by omega
      go_wp2_with fail
      refine (HF.out _ hbb).mono ?_
      rintro e w2 ⟨rfl, hb2⟩
      have hs2 := hb2.size
      have hbb2 := hbb.trans (hb2.mono (by omega))
      have hB2 : Below (w.heap.size + 1) (w.alloc (.cells #[.int .i64 0, .int .i64 0, .int .i64 0, .string ⟨#[]⟩, .string ⟨#[]⟩] 46)) w2 := (hb1.mono (by simp)).trans (hb2.mono (by omega))
      have KEEP := Lib.hid (fun (w' : World) (hW : Below w.heap.size w w') => (⟨(hW.cell (p := ⟨b, off + n * 2, none⟩) hbw).trans g0, (hW.cell (p := ⟨b, off + n * 2 + 1, none⟩) hbw).trans g1, (hW.cell (p := ⟨b2, off2 + k * 5, none⟩) hbw2).trans y0, (hW.cell (p := ⟨b2, off2 + k * 5 + 1, none⟩) hbw2).trans y1, (hW.cell (p := ⟨b2, off2 + k * 5 + 2, none⟩) hbw2).trans y2, (hW.cell (p := ⟨b2, off2 + k * 5 + 3, none⟩) hbw2).trans y3, (hW.cell (p := ⟨b2, off2 + k * 5 + 4, none⟩) hbw2).trans y4⟩ : w'.cell? ⟨b, off + n * 2, none⟩ = some (.int .i64 s.day) ∧ w'.cell? ⟨b, off + n * 2 + 1, none⟩ = some (.slice (some ⟨b2, off2, none⟩) s.units.length c') ∧ w'.cell? ⟨b2, off2 + k * 5, none⟩ = some (.int .i64 y.unit) ∧ w'.cell? ⟨b2, off2 + k * 5 + 1, none⟩ = some (.int .i64 y.parent) ∧ w'.cell? ⟨b2, off2 + k * 5 + 2, none⟩ = some (.int .i64 y.level) ∧ w'.cell? ⟨b2, off2 + k * 5 + 3, none⟩ = some (.string y.mark) ∧ w'.cell? ⟨b2, off2 + k * 5 + 4, none⟩ = some (.string y.title)))
      have KEEPR := Lib.hid (fun (w' : World) (hW : Below (w.heap.size + 1) (w.alloc (.cells #[.int .i64 0, .int .i64 0, .int .i64 0, .string ⟨#[]⟩, .string ⟨#[]⟩] 46)) w') => (⟨(hW.cell (p := ⟨w.heap.size, 0, none⟩) (by simp)).trans (by simp), (hW.cell (p := ⟨w.heap.size, 1, none⟩) (by simp)).trans (by simp), (hW.cell (p := ⟨w.heap.size, 2, none⟩) (by simp)).trans (by simp), (hW.cell (p := ⟨w.heap.size, 3, none⟩) (by simp)).trans (by simp), (hW.cell (p := ⟨w.heap.size, 4, none⟩) (by simp)).trans (by simp), (hW.frozen (p := ⟨w.heap.size, 0, none⟩) (by simp)).trans (by simp), (hW.frozen (p := ⟨w.heap.size, 1, none⟩) (by simp)).trans (by simp), (hW.frozen (p := ⟨w.heap.size, 2, none⟩) (by simp)).trans (by simp), (hW.frozen (p := ⟨w.heap.size, 3, none⟩) (by simp)).trans (by simp), (hW.frozen (p := ⟨w.heap.size, 4, none⟩) (by simp)).trans (by simp)⟩ : w'.cell? ⟨w.heap.size, 0, none⟩ = some (.int .i64 0) ∧ w'.cell? ⟨w.heap.size, 1, none⟩ = some (.int .i64 0) ∧ w'.cell? ⟨w.heap.size, 2, none⟩ = some (.int .i64 0) ∧ w'.cell? ⟨w.heap.size, 3, none⟩ = some (.string ⟨#[]⟩) ∧ w'.cell? ⟨w.heap.size, 4, none⟩ = some (.string ⟨#[]⟩) ∧ w'.frozen? ⟨w.heap.size, 0, none⟩ = false ∧ w'.frozen? ⟨w.heap.size, 1, none⟩ = false ∧ w'.frozen? ⟨w.heap.size, 2, none⟩ = false ∧ w'.frozen? ⟨w.heap.size, 3, none⟩ = false ∧ w'.frozen? ⟨w.heap.size, 4, none⟩ = false))
      obtain ⟨e0, e1, z0, z1, z2, z3, z4⟩ := KEEP.out _ hbb2
      have hb2w : b < w2.heap.size := by omega
      have hb2w2 : b2 < w2.heap.size := by omega
      go_wp2
      go_region_held3 (fun w' => w'.cell? ⟨b, off + n * 2, none⟩ = some (.int .i64 s.day) ∧ w'.cell? ⟨b, off + n * 2 + 1, none⟩ = some (.slice (some ⟨b2, off2, none⟩) s.units.length c') ∧ w'.cell? ⟨b2, off2 + k * 5, none⟩ = some (.int .i64 y.unit) ∧ w'.cell? ⟨b2, off2 + k * 5 + 1, none⟩ = some (.int .i64 y.parent) ∧ w'.cell? ⟨b2, off2 + k * 5 + 2, none⟩ = some (.int .i64 y.level) ∧ w'.cell? ⟨b2, off2 + k * 5 + 3, none⟩ = some (.string y.mark) ∧ w'.cell? ⟨b2, off2 + k * 5 + 4, none⟩ = some (.string y.title)) (first | exact KEEP.out _ hbb2.drew | exact KEEP.out _ bw3 | exact KEEP.out _ (((((bw3.setCell (Nat.le_refl _) _).setCell (Nat.le_refl _) _).setCell (Nat.le_refl _) _).setCell (Nat.le_refl _) _).setCell (Nat.le_refl _) _)) (first | (go_at_call 50; refine (HF.out _ hbb2.drew).mono ?_; rintro e w3 ⟨rfl, hb3⟩; have bw3 := hbb2.drew.trans (hb3.mono (by simp; omega)); obtain ⟨q0, q1, q2, q3, q4, r0, r1, r2, r3, r4⟩ := KEEPR.out _ (hB2.drew.trans (hb3.mono (by simp; omega)))))
      go_wp2
      obtain ⟨k0, k1, k2, k3, k4⟩ := set5 (.int .i64 y.unit) (.int .i64 y.parent) (.int .i64 y.level) (.string y.mark) (.string y.title) q0 q1 q2 q3 q4
      refine bodyPost_ret (v := stVal (some y)) (by simp [results, Try.results26, go_sem, k0, k1, k2, k3, k4, stVal]) rfl ?_
      refine ⟨by rw [HE.out], ?_⟩
      exact ((((bw3.setCell (Nat.le_refl _) _).setCell (Nat.le_refl _) _).setCell (Nat.le_refl _) _).setCell (Nat.le_refl _) _).setCell (Nat.le_refl _) _
end Go.Proofs.Ytgnaknanpgfpnaa
