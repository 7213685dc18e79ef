/- The statement ConcordanceAnswers, walked. -/
import Derived.Test.YtgnaknanpgfpnaaLawB
namespace Go.Proofs.Ytgnaknanpgfpnaa
open Go.RowKit

theorem stVal_agg (o : Option Standing) : ∃ (x : Standing) (b : Bool), stVal o = .tuple #[.agg #[.int .i64 x.unit, .int .i64 x.parent, .int .i64 x.level, .string x.mark, .string x.title], .bool b] := by
  cases o with
  | none => exact ⟨stNone, false, rfl⟩
  | some x => exact ⟨x, true, rfl⟩
theorem set5_all {w : World} {g : Nat} {a0 a1 a2 a3 a4 : Value} (v0 v1 v2 v3 v4 : Value) (h0 : w.cell? ⟨g, 0, none⟩ = some a0) (h1 : w.cell? ⟨g, 1, none⟩ = some a1) (h2 : w.cell? ⟨g, 2, none⟩ = some a2) (h3 : w.cell? ⟨g, 3, none⟩ = some a3) (h4 : w.cell? ⟨g, 4, none⟩ = some a4) (W : World)
    (hW : W = ((((w.setCell ⟨g, 0, none⟩ v0).setCell ⟨g, 1, none⟩ v1).setCell ⟨g, 2, none⟩ v2).setCell ⟨g, 3, none⟩ v3).setCell ⟨g, 4, none⟩ v4) :
    W.cell? ⟨g, 0, none⟩ = some v0 ∧ W.cell? ⟨g, 1, none⟩ = some v1 ∧ W.cell? ⟨g, 2, none⟩ = some v2 ∧ W.cell? ⟨g, 3, none⟩ = some v3 ∧ W.cell? ⟨g, 4, none⟩ = some v4 := by
  have o : ∀ (W : World) (i j : Nat) (v : Value), i ≠ j → (W.setCell ⟨g, i, none⟩ v).cell? ⟨g, j, none⟩ = W.cell? ⟨g, j, none⟩ := fun W i j v hij => World.cell?_setCell_other W _ _ v (fun he => hij (by injection he))
  obtain ⟨k0, k1, k2, k3, k4⟩ := set5 v0 v1 v2 v3 v4 h0 h1 h2 h3 h4
  subst hW
  refine ⟨?_, ?_, ?_, ?_, k4⟩
  · rw [o _ 4 0 _ (by decide), o _ 3 0 _ (by decide), o _ 2 0 _ (by decide), o _ 1 0 _ (by decide)]; exact k0
  · rw [o _ 4 1 _ (by decide), o _ 3 1 _ (by decide), o _ 2 1 _ (by decide)]; exact k1
  · rw [o _ 4 2 _ (by decide), o _ 3 2 _ (by decide)]; exact k2
  · rw [o _ 4 3 _ (by decide)]; exact k3
theorem eqS_self (x : Standing) : eqS x x = true := (eqS_iff x x).2 rfl
set_option maxRecDepth 100000 in
set_option maxHeartbeats 4000000 in
theorem answers_c (hs : List Shot) (m : ByteArray) (u day : Int) (v : Value) (w : World) (B : Nat) (hB : B ≤ w.heap.size) (h : Shots w B hs v) :
    Calls Try.prog 5 #[v, .agg #[.string m, .int .i64 u, .int .i64 day]] w fun e w' => e = .returned (.bool true) ∧ Below w.heap.size w w' := by
  obtain ⟨A, c, rfl, hc1, hc2, _⟩ := id h
  have hbox : Below w.heap.size w (w.alloc (.cells #[.string m, .int .i64 u, .int .i64 day] 42)) := (Below.refl _ _).alloc (Nat.le_refl _) _
  have KEEP := Lib.hid (fun (w' : World) (hW : Below (w.heap.size + 1) (w.alloc (.cells #[.string m, .int .i64 u, .int .i64 day] 42)) w') => (⟨(hW.cell (p := ⟨w.heap.size, 0, none⟩) (by simp)).trans (by simp), (hW.cell (p := ⟨w.heap.size, 1, none⟩) (by simp)).trans (by simp), (hW.cell (p := ⟨w.heap.size, 2, none⟩) (by simp)).trans (by simp)⟩ : w'.cell? ⟨w.heap.size, 0, none⟩ = some (.string m) ∧ w'.cell? ⟨w.heap.size, 1, none⟩ = some (.int .i64 u) ∧ w'.cell? ⟨w.heap.size, 2, none⟩ = some (.int .i64 day)))
  go_enter Try.func5, Try.ntmps5
  go_wp2_with fail
  refine (awake_c _).mono ?_
  rintro e w1 ⟨rfl, hb1'⟩
  have hb1 : Below (w.heap.size + 1) (w.alloc (.cells #[.string m, .int .i64 u, .int .i64 day] 42)) w1 := hb1'.mono (by simp)
  have hs1 := hb1.size
  simp only [World.size_alloc] at hs1
  have bw1 := hbox.trans (hb1.mono (Nat.le_succ _))
  have h1 := h.below shS (bw1.mono hB)
  obtain ⟨q0, q1, q2⟩ := KEEP.out _ hb1
  have HF := Lib.hid (few_c hs _ w1 B (by omega) h1)
  clear hb1'
  go_wp2_with fail
  cases hf : fewE hs
  · rw [hf] at HF
    clear hf
    refine HF.out.mono ?_
    rintro e w2 ⟨rfl, rfl⟩
    go_wp2
    go_ret
    exact ⟨rfl, bw1⟩
  · rw [hf] at HF
    have hsm := (few_small hf).1
    have HSU := Lib.hid (few_small hf).2
    clear hf
    refine HF.out.mono ?_
    rintro e w2 ⟨rfl, rfl⟩
    clear HF
    by_cases hm70 : 70 < m.size
    · have hm71 : (70 : Int) < m.size := by omega
      go_wp2
      go_ret
      exact ⟨rfl, bw1⟩
    have hm71 : ¬ (70 : Int) < m.size := by omega
    have hl64 : refCheck hs = 0 → hs.length ≤ 64 := fun e => (good_of (by rw [progCheck_eq]; exact e)).1
    have hfew : refCheck hs = 0 → ∀ s ∈ hs, s.units.length ≤ 256 := fun e => good_few hs _ _ (good_of (by rw [progCheck_eq]; exact e)).2
    have HL := Lib.hid hl64
    have HW := Lib.hid hfew
    clear hl64 hfew
    have HCP := Lib.hid (fun (W : World) (hW : Below w.heap.size w W) => copy_c hs _ W B (by have := hW.size; omega) (h.below shS (hW.mono hB)) hsm HSU.out)
    have HHO := Lib.hid (fun (V : Value) (W : World) (hV : Shots W W.heap.size hs V) => holder_c m hs V W W.heap.size (Nat.le_refl _) hV)
    go_wp2
    go_region_held3 (fun w' => w'.cell? ⟨w.heap.size, 0, none⟩ = some (.string m)) (first | exact (KEEP.out _ hb1.drew).1 | exact (KEEP.out _ hb2).1 | exact (KEEP.out _ hb3).1) (first | (go_at_call 13; refine (HCP.out _ bw1.drew).mono ?_; rintro e w2 ⟨v2, rfl, hown2, hb2'⟩; have hb2 := hb1.drew.trans (hb2'.mono (by simp; omega))) | (go_at_call 23; refine (HHO.out _ _ (hown2.toSl shS)).mono ?_; rintro e w3 ⟨rfl, hb3'⟩; have hb3 := hb2.trans (hb3'.mono (by have := hb2.size; simp at this; omega))))
    have bw3 := hbox.trans (hb3.mono (Nat.le_succ _))
    obtain ⟨a0, a1, a2⟩ := KEEP.out _ hb3
    have hs3 := hb3.size
    simp only [World.size_alloc] at hs3
    have hw3 : w.heap.size < w3.heap.size := by omega
    have HRH := Lib.hid (rholder_c m hs _ w3 B (by omega) (h.below shS (bw3.mono hB)) HL.out HW.out)
    rw [← holder_eq] at HRH
    clear hb3' hb2' hb2 hown2 q0 q1 q2 h1
    go_wp2_with fail
    refine HRH.out.mono ?_
    rintro e w4 ⟨rfl, hb4'⟩
    have hb4 := hb3.trans (hb4'.mono (by omega))
    have bw4 := hbox.trans (hb4.mono (Nat.le_succ _))
    obtain ⟨q0, q1, q2⟩ := KEEP.out _ hb4
    have hs4 := hb4.size
    simp only [World.size_alloc] at hs4
    have hw4 : w.heap.size < w4.heap.size := by omega
    obtain ⟨sx, sb, hsx⟩ := stVal_agg (refStanding hs u day)
    have HST := Lib.hid (fun (V : Value) (W : World) (hV : Shots W W.heap.size hs V) => standing_c u day hs V W W.heap.size (Nat.le_refl _) hV)
    rw [standing_eq, hsx] at HST
    have HRS := Lib.hid (fun (W : World) (hW : Below w.heap.size w W) => rstanding_c u day hs _ W B (by have := hW.size; omega) (h.below shS (hW.mono hB)))
    rw [hsx] at HRS
    clear hsx a0 a1 a2 HRH hb4' HHO
    have ZK := Lib.hid (fun (W W' : World) (hW : Below (W.heap.size + 1) (W.alloc (.cells #[.int .i64 0, .int .i64 0, .int .i64 0, .string ⟨#[]⟩, .string ⟨#[]⟩] 46)) W') => (⟨(hW.cell (p := ⟨W.heap.size, 0, none⟩) (by simp)).trans (by simp), (hW.cell (p := ⟨W.heap.size, 1, none⟩) (by simp)).trans (by simp), (hW.cell (p := ⟨W.heap.size, 2, none⟩) (by simp)).trans (by simp), (hW.cell (p := ⟨W.heap.size, 3, none⟩) (by simp)).trans (by simp), (hW.cell (p := ⟨W.heap.size, 4, none⟩) (by simp)).trans (by simp), (hW.frozen (p := ⟨W.heap.size, 0, none⟩) (by simp)).trans (by simp), (hW.frozen (p := ⟨W.heap.size, 1, none⟩) (by simp)).trans (by simp), (hW.frozen (p := ⟨W.heap.size, 2, none⟩) (by simp)).trans (by simp), (hW.frozen (p := ⟨W.heap.size, 3, none⟩) (by simp)).trans (by simp), (hW.frozen (p := ⟨W.heap.size, 4, none⟩) (by simp)).trans (by simp)⟩ : W'.cell? ⟨W.heap.size, 0, none⟩ = some (.int .i64 0) ∧ W'.cell? ⟨W.heap.size, 1, none⟩ = some (.int .i64 0) ∧ W'.cell? ⟨W.heap.size, 2, none⟩ = some (.int .i64 0) ∧ W'.cell? ⟨W.heap.size, 3, none⟩ = some (.string ⟨#[]⟩) ∧ W'.cell? ⟨W.heap.size, 4, none⟩ = some (.string ⟨#[]⟩) ∧ W'.frozen? ⟨W.heap.size, 0, none⟩ = false ∧ W'.frozen? ⟨W.heap.size, 1, none⟩ = false ∧ W'.frozen? ⟨W.heap.size, 2, none⟩ = false ∧ W'.frozen? ⟨W.heap.size, 3, none⟩ = false ∧ W'.frozen? ⟨W.heap.size, 4, none⟩ = false))
    go_upto_region 7 with fail
    go_cut [9, 10] (fun s9 s10 wx => ∃ g : Nat, s9 = .pointer (some ⟨g, 0, none⟩) ∧ s10 = .bool sb ∧ w.heap.size < g ∧ g < wx.heap.size ∧ Below (w.heap.size + 1) (w.alloc (.cells #[.string m, .int .i64 u, .int .i64 day] 42)) wx ∧ wx.cell? ⟨g, 0, none⟩ = some (.int .i64 sx.unit) ∧ wx.cell? ⟨g, 1, none⟩ = some (.int .i64 sx.parent) ∧ wx.cell? ⟨g, 2, none⟩ = some (.int .i64 sx.level) ∧ wx.cell? ⟨g, 3, none⟩ = some (.string sx.mark) ∧ wx.cell? ⟨g, 4, none⟩ = some (.string sx.title))
    case first =>
      go_region_held3 (fun w' => w'.cell? ⟨w.heap.size, 1, none⟩ = some (.int .i64 u) ∧ w'.cell? ⟨w.heap.size, 2, none⟩ = some (.int .i64 day)) (first | with_reducible exact (KEEP.out _ hb4.drew).2 | with_reducible exact (KEEP.out _ (hb4.alloc (by omega) _).drew).2 | with_reducible exact (KEEP.out _ hb5).2 | with_reducible exact (KEEP.out _ (hb5.alloc (by omega) _)).2 | with_reducible exact (KEEP.out _ hb6).2 | with_reducible exact (KEEP.out _ (hb6.alloc (by omega) _)).2 | exact (KEEP.out _ (((((hb6.setCell hs5 _).setCell hs5 _).setCell hs5 _).setCell hs5 _).setCell hs5 _)).2 | exact (KEEP.out _ (((((hb6.setCell hs4 _).setCell hs4 _).setCell hs4 _).setCell hs4 _).setCell hs4 _)).2) (first
        | (go_at_call 13; (with_reducible refine (HCP.out _ bw4.drew).mono ?_); rintro e w5 ⟨v5, rfl, hown5, hb5'⟩; have hb5 := hb4.drew.trans (hb5'.mono (by simp; omega)); have hs5 := hb5.size; simp only [World.size_alloc] at hs5; have tokA : True := trivial)
        | (go_at_call 13; (with_reducible refine (HCP.out _ (bw4.alloc (by omega) _).drew).mono ?_); rintro e w5 ⟨v5, rfl, hown5, hb5'⟩; have hb5 := (hb4.alloc (by omega) _).drew.trans (hb5'.mono (by simp; omega)); have hs5 := hb5.size; simp only [World.size_alloc] at hs5; have hs5c := hb5'.size; simp only [World.size_drew, World.size_alloc] at hs5c; have hbC5 := hb5'.mono (show w4.heap.size + 1 ≤ _ by simp))
        | (go_at_call 25; (with_reducible refine (HST.out _ _ (hown5.toSl shS)).mono ?_); rintro e w6 ⟨rfl, hb6'⟩; have hb6 := hb5.trans (hb6'.mono (by omega)); have hs6 := hb6.size; simp only [World.size_alloc] at hs6; (first | clear tokA | (obtain ⟨z0, z1, z2, z3, z4, f0, f1, f2, f3, f4⟩ := ZK.out w4 w6 ((Below.refl _ _).drew.trans (hbC5.trans (hb6'.mono hs5c))))))
        | (go_at_call 25; (with_reducible refine (HST.out _ _ (((hown5.toSl shS).below shS ((Below.refl _ _).alloc (Nat.le_refl _) _)).mono shS (by simp))).mono ?_); rintro e w6 ⟨rfl, hb6'⟩; have hb6 := (hb5.alloc (by omega) _).trans (hb6'.mono (by simp; omega)); have hs6 := hb6.size; simp only [World.size_alloc] at hs6; obtain ⟨z0, z1, z2, z3, z4, f0, f1, f2, f3, f4⟩ := ZK.out w5 w6 (hb6'.mono (by simp))))
      all_goals (go_wp2_with fail; go_meet)
      · exact ⟨w6.heap.size, rfl, rfl, by omega, by simp, hb6.alloc (by omega) _, by simp, by simp, by simp, by simp, by simp⟩
      · exact ⟨w5.heap.size, rfl, rfl, by omega, by have := hb6'.size; simp at this ⊢; omega, (((((hb6.setCell hs5 _).setCell hs5 _).setCell hs5 _).setCell hs5 _).setCell hs5 _), set5_all _ _ _ _ _ z0 z1 z2 z3 z4 _ rfl⟩
      · exact ⟨w4.heap.size, rfl, rfl, by omega, by have := hb6'.size; simp at this ⊢; omega, (((((hb6.setCell hs4 _).setCell hs4 _).setCell hs4 _).setCell hs4 _).setCell hs4 _), set5_all _ _ _ _ _ z0 z1 z2 z3 z4 _ rfl⟩
    case rest =>
      obtain ⟨g, rfl, rfl, hg1, hg2, hbc, c0, c1, c2, c3, c4⟩ := hcut
      have bwc := hbox.trans (hbc.mono (Nat.le_succ _))
      obtain ⟨a0, a1, a2⟩ := KEEP.out _ hbc
      have hsc := hbc.size
      simp only [World.size_alloc] at hsc
      have hwc : w.heap.size < wc.heap.size := by omega
      have HRS1 := Lib.hid (HRS.out wc bwc)
      clear HST HRS q0 q1 q2
      go_wp2_with fail
      refine HRS1.out.mono ?_
      rintro e w7 ⟨rfl, hb7'⟩
      have hb7 := hbc.trans (hb7'.mono (by omega))
      have bw7 := hbox.trans (hb7.mono (Nat.le_succ _))
      obtain ⟨q0, q1, q2⟩ := KEEP.out _ hb7
      have hs7 := hb7'.size
      have x0 := (hb7'.cell (p := ⟨g, 0, none⟩) hg2).trans c0
      have x1 := (hb7'.cell (p := ⟨g, 1, none⟩) hg2).trans c1
      have x2 := (hb7'.cell (p := ⟨g, 2, none⟩) hg2).trans c2
      have x3 := (hb7'.cell (p := ⟨g, 3, none⟩) hg2).trans c3
      have x4 := (hb7'.cell (p := ⟨g, 4, none⟩) hg2).trans c4
      clear a0 a1 a2 c0 c1 c2 c3 c4
      have hg7 : g < w7.heap.size := by omega
      have hw7 : w.heap.size < w7.heap.size := by omega
      have KEEP9 := Lib.hid (fun (w' : World) (hW : Below (w7.heap.size + 1) (w7.alloc (.cells #[.int .i64 sx.unit, .int .i64 sx.parent, .int .i64 sx.level, .string sx.mark, .string sx.title] 46)) w') => (⟨(hW.cell (p := ⟨w.heap.size, 1, none⟩) (by show w.heap.size < _; omega)).trans ((((Below.refl w7.heap.size w7).alloc (Nat.le_refl _) _).cell (p := ⟨w.heap.size, 1, none⟩) hw7).trans q1), (hW.cell (p := ⟨g, 0, none⟩) (by show g < _; omega)).trans ((((Below.refl w7.heap.size w7).alloc (Nat.le_refl _) _).cell (p := ⟨g, 0, none⟩) hg7).trans x0), (hW.cell (p := ⟨g, 1, none⟩) (by show g < _; omega)).trans ((((Below.refl w7.heap.size w7).alloc (Nat.le_refl _) _).cell (p := ⟨g, 1, none⟩) hg7).trans x1), (hW.cell (p := ⟨g, 2, none⟩) (by show g < _; omega)).trans ((((Below.refl w7.heap.size w7).alloc (Nat.le_refl _) _).cell (p := ⟨g, 2, none⟩) hg7).trans x2), (hW.cell (p := ⟨g, 3, none⟩) (by show g < _; omega)).trans ((((Below.refl w7.heap.size w7).alloc (Nat.le_refl _) _).cell (p := ⟨g, 3, none⟩) hg7).trans x3), (hW.cell (p := ⟨g, 4, none⟩) (by show g < _; omega)).trans ((((Below.refl w7.heap.size w7).alloc (Nat.le_refl _) _).cell (p := ⟨g, 4, none⟩) hg7).trans x4), (hW.cell (p := ⟨w7.heap.size, 0, none⟩) (by simp)).trans (by simp), (hW.cell (p := ⟨w7.heap.size, 1, none⟩) (by simp)).trans (by simp), (hW.cell (p := ⟨w7.heap.size, 2, none⟩) (by simp)).trans (by simp), (hW.cell (p := ⟨w7.heap.size, 3, none⟩) (by simp)).trans (by simp), (hW.cell (p := ⟨w7.heap.size, 4, none⟩) (by simp)).trans (by simp)⟩ : w'.cell? ⟨w.heap.size, 1, none⟩ = some (.int .i64 u) ∧ w'.cell? ⟨g, 0, none⟩ = some (.int .i64 sx.unit) ∧ w'.cell? ⟨g, 1, none⟩ = some (.int .i64 sx.parent) ∧ w'.cell? ⟨g, 2, none⟩ = some (.int .i64 sx.level) ∧ w'.cell? ⟨g, 3, none⟩ = some (.string sx.mark) ∧ w'.cell? ⟨g, 4, none⟩ = some (.string sx.title) ∧ w'.cell? ⟨w7.heap.size, 0, none⟩ = some (.int .i64 sx.unit) ∧ w'.cell? ⟨w7.heap.size, 1, none⟩ = some (.int .i64 sx.parent) ∧ w'.cell? ⟨w7.heap.size, 2, none⟩ = some (.int .i64 sx.level) ∧ w'.cell? ⟨w7.heap.size, 3, none⟩ = some (.string sx.mark) ∧ w'.cell? ⟨w7.heap.size, 4, none⟩ = some (.string sx.title)))
      have bw8 := bw7.alloc (by omega) (.cells #[.int .i64 sx.unit, .int .i64 sx.parent, .int .i64 sx.level, .string sx.mark, .string sx.title] 46)
      have HMK := Lib.hid (fun (V : Value) (W : World) (hV : Shots W W.heap.size hs V) => marks_p u hs V W W.heap.size (Nat.le_refl _) hV)
      rw [marks_eq] at HMK
      have HRM := Lib.hid (fun (W : World) (hW : Below w.heap.size w W) => rmarks_c u hs _ W B (by have := hW.size; omega) (h.below shS (hW.mono hB)) hsm)
      have HEQ := Lib.hid (fun (W : World) (V V' : Value) (h1 : Strs W W.heap.size (refMarks hs u) V) (h2 : Strs W W.heap.size (refMarks hs u) V') => equalSt_c (refMarks hs u) (refMarks hs u) V V' W W.heap.size (Nat.le_refl _) h1 h2)
      rw [eqBL_self] at HEQ
      have hq := fun W => eqlS sx sx W
      rw [eqS_self] at hq
      go_wp2
      have hbX : Below (w7.heap.size + 1) (w7.alloc (.cells #[.int .i64 sx.unit, .int .i64 sx.parent, .int .i64 sx.level, .string sx.mark, .string sx.title] 46)) (w7.alloc (.cells #[.int .i64 sx.unit, .int .i64 sx.parent, .int .i64 sx.level, .string sx.mark, .string sx.title] 46)).drew := (Below.refl _ _).drew
      have hsX := hbX.size
      simp only [World.size_alloc, World.size_drew] at hsX
      have kC : Shots (w7.alloc (.cells #[.int .i64 sx.unit, .int .i64 sx.parent, .int .i64 sx.level, .string sx.mark, .string sx.title] 46)).drew (w7.alloc (.cells #[.int .i64 sx.unit, .int .i64 sx.parent, .int .i64 sx.level, .string sx.mark, .string sx.title] 46)).drew.heap.size [] (.slice none 0 0) := SlRep.nil_
      have kM : Strs (w7.alloc (.cells #[.int .i64 sx.unit, .int .i64 sx.parent, .int .i64 sx.level, .string sx.mark, .string sx.title] 46)).drew (w7.alloc (.cells #[.int .i64 sx.unit, .int .i64 sx.parent, .int .i64 sx.level, .string sx.mark, .string sx.title] 46)).drew.heap.size [] (.slice none 0 0) := SlRep.nil_
      have kR : Strs (w7.alloc (.cells #[.int .i64 sx.unit, .int .i64 sx.parent, .int .i64 sx.level, .string sx.mark, .string sx.title] 46)).drew (w7.alloc (.cells #[.int .i64 sx.unit, .int .i64 sx.parent, .int .i64 sx.level, .string sx.mark, .string sx.title] 46)).drew.heap.size [] (.slice none 0 0) := SlRep.nil_
      go_region_held3 (fun w' => w'.cell? ⟨w.heap.size, 1, none⟩ = some (.int .i64 u) ∧ w'.cell? ⟨g, 0, none⟩ = some (.int .i64 sx.unit) ∧ w'.cell? ⟨g, 1, none⟩ = some (.int .i64 sx.parent) ∧ w'.cell? ⟨g, 2, none⟩ = some (.int .i64 sx.level) ∧ w'.cell? ⟨g, 3, none⟩ = some (.string sx.mark) ∧ w'.cell? ⟨g, 4, none⟩ = some (.string sx.title) ∧ w'.cell? ⟨w7.heap.size, 0, none⟩ = some (.int .i64 sx.unit) ∧ w'.cell? ⟨w7.heap.size, 1, none⟩ = some (.int .i64 sx.parent) ∧ w'.cell? ⟨w7.heap.size, 2, none⟩ = some (.int .i64 sx.level) ∧ w'.cell? ⟨w7.heap.size, 3, none⟩ = some (.string sx.mark) ∧ w'.cell? ⟨w7.heap.size, 4, none⟩ = some (.string sx.title)) (with_reducible exact KEEP9.out _ hbX) (first
        | (go_at_call 13; (with_reducible refine (HCP.out _ (bw8.trans (hbX.mono (by omega)))).mono ?_); rintro e wC ⟨vC, rfl, hownC, hb'⟩; have hs' := hb'.size; have kM := (kM.below srS hb').mono srS hs'; have kR := (kR.below srS hb').mono srS hs'; have kC := hownC.toSl shS; have hbX := hbX.trans (hb'.mono (by have := hbX.size; simp only [World.size_alloc] at this; omega)))
        | (go_at_call 28; (with_reducible refine (HMK.out _ _ kC).mono ?_); rintro e wM ⟨vM, rfl, kM', hb'⟩; have hs' := hb'.size; have kR := (kR.below srS hb').mono srS hs'; have kC := (kC.below shS hb').mono shS hs'; have kM := kM'; have hbX := hbX.trans (hb'.mono (by have := hbX.size; simp only [World.size_alloc] at this; omega)))
        | (go_at_call 29; (with_reducible refine (HRM.out _ (bw8.trans (hbX.mono (by omega)))).mono ?_); rintro e wR ⟨vR, rfl, kR', hb'⟩; have hs' := hb'.size; have kC := (kC.below shS hb').mono shS hs'; have kM := (kM.below srS hb').mono srS hs'; have kR := kR'; have hbX := hbX.trans (hb'.mono (by have := hbX.size; simp only [World.size_alloc] at this; omega)))
        | (go_at_call 27; (with_reducible refine (HEQ.out _ _ _ kM kR).mono ?_); rintro e wE ⟨rfl, hb'⟩; have hbX := hbX.trans (hb'.mono (by have := hbX.size; simp only [World.size_alloc] at this; omega))))
      all_goals go_wp2
      all_goals go_ret
      all_goals exact ⟨rfl, bw8.trans (hbX.mono (by omega))⟩
end Go.Proofs.Ytgnaknanpgfpnaa
