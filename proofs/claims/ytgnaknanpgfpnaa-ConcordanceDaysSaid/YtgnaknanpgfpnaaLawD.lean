/- The statement ConcordanceDays, walked. -/
import Derived.Test.YtgnaknanpgfpnaaLawC
import Derived.Test.YtgnaknanpgfpnaaClos
namespace Go.Proofs.Ytgnaknanpgfpnaa
open Go.RowKit

theorem stVal_has (o : Option Standing) : ∃ (x : Standing) (b : Bool), stVal o = .tuple #[.agg #[.int .i64 x.unit, .int .i64 x.parent, .int .i64 x.level, .string x.mark, .string x.title], .bool b] ∧ (o = none → b = false) ∧ ∀ m, stHas o m = (b && decide (x.mark = m)) := by
  cases o with
  | none => exact ⟨stNone, false, rfl, fun _ => rfl, fun m => rfl⟩
  | some x => exact ⟨x, true, rfl, fun h => (by cases h), fun m => rfl⟩
set_option maxRecDepth 100000 in
set_option maxHeartbeats 4000000 in
theorem days_c (hs : List Shot) (m : ByteArray) (u day : Int) (v : Value) (w : World) (B : Nat) (hB : B ≤ w.heap.size) (h : Shots w B hs v) :
    Calls Try.prog 8 #[v, .agg #[.string m, .int .i64 u, .int .i64 day]] w fun e w' => e = .returned (.bool true) ∧ Below w.heap.size w w' := by
  obtain ⟨A, c, rfl, hc1, hc2, _⟩ := id h
  have hbox : Below w.heap.size w (w.alloc (.cells #[.string m, .int .i64 u, .int .i64 day] 42)) := (Below.refl _ _).alloc (Nat.le_refl _) _
  have KEEP := Lib.hid (fun (w' : World) (hW : Below (w.heap.size + 1) (w.alloc (.cells #[.string m, .int .i64 u, .int .i64 day] 42)) w') => (⟨(hW.cell (p := ⟨w.heap.size, 0, none⟩) (by simp)).trans (by simp), (hW.cell (p := ⟨w.heap.size, 1, none⟩) (by simp)).trans (by simp), (hW.cell (p := ⟨w.heap.size, 2, none⟩) (by simp)).trans (by simp)⟩ : w'.cell? ⟨w.heap.size, 0, none⟩ = some (.string m) ∧ w'.cell? ⟨w.heap.size, 1, none⟩ = some (.int .i64 u) ∧ w'.cell? ⟨w.heap.size, 2, none⟩ = some (.int .i64 day)))
  go_enter Try.func8, Try.ntmps8
  go_wp2_with fail
  refine (awake_c _).mono ?_
  rintro e w1 ⟨rfl, hb1'⟩
  have hb1 : Below (w.heap.size + 1) (w.alloc (.cells #[.string m, .int .i64 u, .int .i64 day] 42)) w1 := hb1'.mono (by simp)
  have hs1 := hb1.size
  simp only [World.size_alloc] at hs1
  have bw1 := hbox.trans (hb1.mono (Nat.le_succ _))
  have h1 := h.below shS (bw1.mono hB)
  obtain ⟨q0, q1, q2⟩ := KEEP.out _ hb1
  have HF := Lib.hid (few_c hs _ w1 B (by omega) h1)
  clear hb1'
  go_wp2_with fail
  cases hf : fewE hs
  · rw [hf] at HF
    clear hf
    refine HF.out.mono ?_
    rintro e w2 ⟨rfl, rfl⟩
    go_wp2
    go_ret
    exact ⟨rfl, bw1⟩
  · rw [hf] at HF
    have hsm := (few_small hf).1
    have HSU := Lib.hid (few_small hf).2
    clear hf
    refine HF.out.mono ?_
    rintro e w2 ⟨rfl, rfl⟩
    clear HF
    by_cases hm0 : m.size = 0
    · have hm1 : m.toList.isEmpty = true := by rw [str_empty]; simpa using hm0
      have hm2 : m.toList = [] := by simpa using hm1
      go_wp2
      go_ret
      exact ⟨rfl, bw1⟩
    have hm1 : m.toList.isEmpty = false := by rw [str_empty]; simpa using hm0
    have hm2 : ¬ m.toList = [] := by simpa using hm1
    have HM := Lib.hid hm0
    clear hm0
    have HCP := Lib.hid (fun (W : World) (hW : Below w.heap.size w W) => copy_c hs _ W B (by have := hW.size; omega) (h.below shS (hW.mono hB)) hsm HSU.out)
    obtain ⟨sx, sb, hsx, hsn, hsh⟩ := stVal_has (progStanding hs u day)
    have HST := Lib.hid (fun (V : Value) (W : World) (hV : Shots W W.heap.size hs V) => standing_c u day hs V W W.heap.size (Nat.le_refl _) hV)
    rw [hsx] at HST
    clear hsx
    have HSN := Lib.hid hsn
    have HSH := Lib.hid (hsh m)
    clear hsn hsh
    go_wp2_with fail
    refine (HCP.out _ bw1).mono ?_
    rintro e w2 ⟨v2, rfl, hown2, hb2'⟩
    have hb2 := hb1.trans (hb2'.mono (by omega))
    have hs2 := hb2.size
    simp only [World.size_alloc] at hs2
    clear q0 q1 q2 h1 hb2'
    by_cases hp : progCheck hs = 0
    · have HP := Lib.hid hp
      clear hp
      go_wp2_with fail
      refine (collect_ok hs _ w2 w2.heap.size (Nat.le_refl _) (hown2.toSl shS) HP.out).mono ?_
      rintro e w4 ⟨v4, rfl, hown4, hb4'⟩
      have hl4 := hown4.toSl giS
      obtain ⟨A4, c4, rfl, -⟩ := id hl4
      have hb4 := hb2.trans (hb4'.mono (by omega))
      have bw4 := hbox.trans (hb4.mono (Nat.le_succ _))
      obtain ⟨q0, q1, q2⟩ := KEEP.out _ hb4
      have hs4 := hb4.size
      simp only [World.size_alloc] at hs4
      have hw4 : w.heap.size < w4.heap.size := by omega
      clear hb4' hown4 hown2
      have ZK := Lib.hid (fun (W W' : World) (hW : Below (W.heap.size + 1) (W.alloc (.cells #[.int .i64 0, .int .i64 0, .int .i64 0, .string ⟨#[]⟩, .string ⟨#[]⟩] 46)) W') => (⟨(hW.cell (p := ⟨W.heap.size, 0, none⟩) (by simp)).trans (by simp), (hW.cell (p := ⟨W.heap.size, 1, none⟩) (by simp)).trans (by simp), (hW.cell (p := ⟨W.heap.size, 2, none⟩) (by simp)).trans (by simp), (hW.cell (p := ⟨W.heap.size, 3, none⟩) (by simp)).trans (by simp), (hW.cell (p := ⟨W.heap.size, 4, none⟩) (by simp)).trans (by simp), (hW.frozen (p := ⟨W.heap.size, 0, none⟩) (by simp)).trans (by simp), (hW.frozen (p := ⟨W.heap.size, 1, none⟩) (by simp)).trans (by simp), (hW.frozen (p := ⟨W.heap.size, 2, none⟩) (by simp)).trans (by simp), (hW.frozen (p := ⟨W.heap.size, 3, none⟩) (by simp)).trans (by simp), (hW.frozen (p := ⟨W.heap.size, 4, none⟩) (by simp)).trans (by simp)⟩ : W'.cell? ⟨W.heap.size, 0, none⟩ = some (.int .i64 0) ∧ W'.cell? ⟨W.heap.size, 1, none⟩ = some (.int .i64 0) ∧ W'.cell? ⟨W.heap.size, 2, none⟩ = some (.int .i64 0) ∧ W'.cell? ⟨W.heap.size, 3, none⟩ = some (.string ⟨#[]⟩) ∧ W'.cell? ⟨W.heap.size, 4, none⟩ = some (.string ⟨#[]⟩) ∧ W'.frozen? ⟨W.heap.size, 0, none⟩ = false ∧ W'.frozen? ⟨W.heap.size, 1, none⟩ = false ∧ W'.frozen? ⟨W.heap.size, 2, none⟩ = false ∧ W'.frozen? ⟨W.heap.size, 3, none⟩ = false ∧ W'.frozen? ⟨W.heap.size, 4, none⟩ = false))
      go_upto_region 6 with fail
      go_cut [7, 8] (fun s7 s8 wx => ∃ g : Nat, s7 = .pointer (some ⟨g, 0, none⟩) ∧ s8 = .bool sb ∧ w.heap.size < g ∧ g < wx.heap.size ∧ Below (w.heap.size + 1) (w.alloc (.cells #[.string m, .int .i64 u, .int .i64 day] 42)) wx ∧ Below w4.heap.size w4 wx ∧ wx.cell? ⟨g, 0, none⟩ = some (.int .i64 sx.unit) ∧ wx.cell? ⟨g, 1, none⟩ = some (.int .i64 sx.parent) ∧ wx.cell? ⟨g, 2, none⟩ = some (.int .i64 sx.level) ∧ wx.cell? ⟨g, 3, none⟩ = some (.string sx.mark) ∧ wx.cell? ⟨g, 4, none⟩ = some (.string sx.title))
      case first =>
        go_region_held3 (fun w' => w'.cell? ⟨w.heap.size, 1, none⟩ = some (.int .i64 u) ∧ w'.cell? ⟨w.heap.size, 2, none⟩ = some (.int .i64 day)) (first | with_reducible exact (KEEP.out _ hb4.drew).2 | with_reducible exact (KEEP.out _ (hb4.alloc (by omega) _).drew).2 | with_reducible exact (KEEP.out _ hb5).2 | with_reducible exact (KEEP.out _ (hb5.alloc (by omega) _)).2 | with_reducible exact (KEEP.out _ hb6).2 | with_reducible exact (KEEP.out _ (hb6.alloc (by omega) _)).2 | exact (KEEP.out _ (((((hb6.setCell hs5 _).setCell hs5 _).setCell hs5 _).setCell hs5 _).setCell hs5 _)).2 | exact (KEEP.out _ (((((hb6.setCell hs4 _).setCell hs4 _).setCell hs4 _).setCell hs4 _).setCell hs4 _)).2) (first
          | (go_at_call 13; (with_reducible refine (HCP.out _ bw4.drew).mono ?_); rintro e w5 ⟨v5, rfl, hown5, hb5'⟩; have hb5 := hb4.drew.trans (hb5'.mono (by simp; omega)); have hk5 : Below w4.heap.size w4 w5 := (Below.refl _ _).drew.trans (hb5'.mono (by simp)); have hs5 := hb5.size; simp only [World.size_alloc] at hs5; have tokA : True := trivial)
          | (go_at_call 13; (with_reducible refine (HCP.out _ (bw4.alloc (by omega) _).drew).mono ?_); rintro e w5 ⟨v5, rfl, hown5, hb5'⟩; have hb5 := (hb4.alloc (by omega) _).drew.trans (hb5'.mono (by simp; omega)); have hk5 : Below w4.heap.size w4 w5 := ((Below.refl _ _).alloc (Nat.le_refl _) _).drew.trans (hb5'.mono (by simp)); have hs5 := hb5.size; simp only [World.size_alloc] at hs5; have hs5c := hb5'.size; simp only [World.size_drew, World.size_alloc] at hs5c; have hbC5 := hb5'.mono (show w4.heap.size + 1 ≤ _ by simp))
          | (go_at_call 25; (with_reducible refine (HST.out _ _ (hown5.toSl shS)).mono ?_); rintro e w6 ⟨rfl, hb6'⟩; have hb6 := hb5.trans (hb6'.mono (by omega)); have hk6 := hk5.trans (hb6'.mono hk5.size); have hs6 := hb6.size; simp only [World.size_alloc] at hs6; (first | clear tokA | (obtain ⟨z0, z1, z2, z3, z4, f0, f1, f2, f3, f4⟩ := ZK.out w4 w6 ((Below.refl _ _).drew.trans (hbC5.trans (hb6'.mono hs5c))))))
          | (go_at_call 25; (with_reducible refine (HST.out _ _ (((hown5.toSl shS).below shS ((Below.refl _ _).alloc (Nat.le_refl _) _)).mono shS (by simp))).mono ?_); rintro e w6 ⟨rfl, hb6'⟩; have hb6 := (hb5.alloc (by omega) _).trans (hb6'.mono (by simp; omega)); have hk6 := (hk5.alloc hk5.size _).trans (hb6'.mono (by have := hk5.size; simp; omega)); have hs6 := hb6.size; simp only [World.size_alloc] at hs6; obtain ⟨z0, z1, z2, z3, z4, f0, f1, f2, f3, f4⟩ := ZK.out w5 w6 (hb6'.mono (by simp))))
        all_goals (go_wp2_with fail; go_meet)
        · exact ⟨w6.heap.size, rfl, rfl, by omega, by simp, hb6.alloc (by omega) _, hk6.alloc hk6.size _, by simp, by simp, by simp, by simp, by simp⟩
        · exact ⟨w5.heap.size, rfl, rfl, by omega, by have := hb6'.size; simp at this ⊢; omega, (((((hb6.setCell hs5 _).setCell hs5 _).setCell hs5 _).setCell hs5 _).setCell hs5 _), (((((hk6.setCell hk5.size _).setCell hk5.size _).setCell hk5.size _).setCell hk5.size _).setCell hk5.size _), set5_all _ _ _ _ _ z0 z1 z2 z3 z4 _ rfl⟩
        · exact ⟨w4.heap.size, rfl, rfl, by omega, by have := hb6'.size; simp at this ⊢; omega, (((((hb6.setCell hs4 _).setCell hs4 _).setCell hs4 _).setCell hs4 _).setCell hs4 _), (((((hk6.setCell (Nat.le_refl _) _).setCell (Nat.le_refl _) _).setCell (Nat.le_refl _) _).setCell (Nat.le_refl _) _).setCell (Nat.le_refl _) _), set5_all _ _ _ _ _ z0 z1 z2 z3 z4 _ rfl⟩
      case rest =>
        obtain ⟨g, rfl, rfl, hg1, hg2, hbc, hbL, c0, c1, c2, c3, c4⟩ := hcut
        have bwc := hbox.trans (hbc.mono (Nat.le_succ _))
        obtain ⟨a0, a1, a2⟩ := KEEP.out _ hbc
        have hsc := hbc.size
        simp only [World.size_alloc] at hsc
        have hwc : w.heap.size < wc.heap.size := by omega
        have HCF := Lib.hid (containsGiD_c (.pointer (some ⟨w.heap.size, 0, none⟩)) (covers m u day) (collectL hs) _ wc w4.heap.size hbL.size (hl4.below giS hbL) (fun x W hW => by
          obtain ⟨b0, b1, b2⟩ := KEEP.out W (hbc.trans (hW.mono (by omega)))
          exact days1_c m u day w.heap.size x W b0 b1 b2 (by have := hW.size; omega)))
        rw [days_law HP.out u day HM.out, HSH.out] at HCF
        clear q0 q1 q2
        go_wp2_with fail
        refine HCF.out.mono ?_
        rintro e w7 ⟨rfl, hb7'⟩
        have hb7 := hbc.trans (hb7'.mono (by omega))
        have bw7 := hbox.trans (hb7.mono (Nat.le_succ _))
        obtain ⟨q0, q1, q2⟩ := KEEP.out _ hb7
        have x3 := (hb7'.cell (p := ⟨g, 3, none⟩) hg2).trans c3
        have hs7 := hb7'.size
        have hg7 : g < w7.heap.size := by omega
        have hw7 : w.heap.size < w7.heap.size := by omega
        clear a0 a1 a2 c0 c1 c2 c3 c4
        cases sb
        · go_wp2
          go_ret
          exact ⟨rfl, bw7⟩
        · by_cases hx : sx.mark = m
          · have b1 : (sx.mark.toList == m.toList) = true := by simp [hx]
            have b2 : decide (sx.mark = m) = true := by simpa using hx
            clear hx
            go_wp2
            go_ret
            exact ⟨ret_bool (by simp), bw7⟩
          · have b1 : (sx.mark.toList == m.toList) = false := by rw [str_eq]; simpa using hx
            have b2 : decide (sx.mark = m) = false := by simpa using hx
            clear hx
            go_wp2
            go_ret
            exact ⟨ret_bool (by simp), bw7⟩
    · have hsb : sb = false := HSN.out (by unfold progStanding progAt; rw [if_pos hp]; rfl)
      subst hsb
      have HP := Lib.hid hp
      clear hp
      go_wp2_with fail
      refine (collect_bad hs _ w2 w2.heap.size (Nat.le_refl _) (hown2.toSl shS) HP.out).mono ?_
      rintro e w4 ⟨rfl, hb4'⟩
      have hb4 := hb2.trans (hb4'.mono (by omega))
      have bw4 := hbox.trans (hb4.mono (Nat.le_succ _))
      obtain ⟨q0, q1, q2⟩ := KEEP.out _ hb4
      have hs4 := hb4.size
      simp only [World.size_alloc] at hs4
      have hw4 : w.heap.size < w4.heap.size := by omega
      clear hb4' hown2
      have ZK := Lib.hid (fun (W W' : World) (hW : Below (W.heap.size + 1) (W.alloc (.cells #[.int .i64 0, .int .i64 0, .int .i64 0, .string ⟨#[]⟩, .string ⟨#[]⟩] 46)) W') => (⟨(hW.cell (p := ⟨W.heap.size, 0, none⟩) (by simp)).trans (by simp), (hW.cell (p := ⟨W.heap.size, 1, none⟩) (by simp)).trans (by simp), (hW.cell (p := ⟨W.heap.size, 2, none⟩) (by simp)).trans (by simp), (hW.cell (p := ⟨W.heap.size, 3, none⟩) (by simp)).trans (by simp), (hW.cell (p := ⟨W.heap.size, 4, none⟩) (by simp)).trans (by simp), (hW.frozen (p := ⟨W.heap.size, 0, none⟩) (by simp)).trans (by simp), (hW.frozen (p := ⟨W.heap.size, 1, none⟩) (by simp)).trans (by simp), (hW.frozen (p := ⟨W.heap.size, 2, none⟩) (by simp)).trans (by simp), (hW.frozen (p := ⟨W.heap.size, 3, none⟩) (by simp)).trans (by simp), (hW.frozen (p := ⟨W.heap.size, 4, none⟩) (by simp)).trans (by simp)⟩ : W'.cell? ⟨W.heap.size, 0, none⟩ = some (.int .i64 0) ∧ W'.cell? ⟨W.heap.size, 1, none⟩ = some (.int .i64 0) ∧ W'.cell? ⟨W.heap.size, 2, none⟩ = some (.int .i64 0) ∧ W'.cell? ⟨W.heap.size, 3, none⟩ = some (.string ⟨#[]⟩) ∧ W'.cell? ⟨W.heap.size, 4, none⟩ = some (.string ⟨#[]⟩) ∧ W'.frozen? ⟨W.heap.size, 0, none⟩ = false ∧ W'.frozen? ⟨W.heap.size, 1, none⟩ = false ∧ W'.frozen? ⟨W.heap.size, 2, none⟩ = false ∧ W'.frozen? ⟨W.heap.size, 3, none⟩ = false ∧ W'.frozen? ⟨W.heap.size, 4, none⟩ = false))
      go_upto_region 6 with fail
      go_cut [7, 8] (fun s7 s8 wx => ∃ g : Nat, s7 = .pointer (some ⟨g, 0, none⟩) ∧ s8 = .bool false ∧ w.heap.size < g ∧ g < wx.heap.size ∧ Below (w.heap.size + 1) (w.alloc (.cells #[.string m, .int .i64 u, .int .i64 day] 42)) wx ∧ Below w4.heap.size w4 wx ∧ wx.cell? ⟨g, 0, none⟩ = some (.int .i64 sx.unit) ∧ wx.cell? ⟨g, 1, none⟩ = some (.int .i64 sx.parent) ∧ wx.cell? ⟨g, 2, none⟩ = some (.int .i64 sx.level) ∧ wx.cell? ⟨g, 3, none⟩ = some (.string sx.mark) ∧ wx.cell? ⟨g, 4, none⟩ = some (.string sx.title))
      case first =>
        go_region_held3 (fun w' => w'.cell? ⟨w.heap.size, 1, none⟩ = some (.int .i64 u) ∧ w'.cell? ⟨w.heap.size, 2, none⟩ = some (.int .i64 day)) (first | with_reducible exact (KEEP.out _ hb4.drew).2 | with_reducible exact (KEEP.out _ (hb4.alloc (by omega) _).drew).2 | with_reducible exact (KEEP.out _ hb5).2 | with_reducible exact (KEEP.out _ (hb5.alloc (by omega) _)).2 | with_reducible exact (KEEP.out _ hb6).2 | with_reducible exact (KEEP.out _ (hb6.alloc (by omega) _)).2 | exact (KEEP.out _ (((((hb6.setCell hs5 _).setCell hs5 _).setCell hs5 _).setCell hs5 _).setCell hs5 _)).2 | exact (KEEP.out _ (((((hb6.setCell hs4 _).setCell hs4 _).setCell hs4 _).setCell hs4 _).setCell hs4 _)).2) (first
          | (go_at_call 13; (with_reducible refine (HCP.out _ bw4.drew).mono ?_); rintro e w5 ⟨v5, rfl, hown5, hb5'⟩; have hb5 := hb4.drew.trans (hb5'.mono (by simp; omega)); have hk5 : Below w4.heap.size w4 w5 := (Below.refl _ _).drew.trans (hb5'.mono (by simp)); have hs5 := hb5.size; simp only [World.size_alloc] at hs5; have tokA : True := trivial)
          | (go_at_call 13; (with_reducible refine (HCP.out _ (bw4.alloc (by omega) _).drew).mono ?_); rintro e w5 ⟨v5, rfl, hown5, hb5'⟩; have hb5 := (hb4.alloc (by omega) _).drew.trans (hb5'.mono (by simp; omega)); have hk5 : Below w4.heap.size w4 w5 := ((Below.refl _ _).alloc (Nat.le_refl _) _).drew.trans (hb5'.mono (by simp)); have hs5 := hb5.size; simp only [World.size_alloc] at hs5; have hs5c := hb5'.size; simp only [World.size_drew, World.size_alloc] at hs5c; have hbC5 := hb5'.mono (show w4.heap.size + 1 ≤ _ by simp))
          | (go_at_call 25; (with_reducible refine (HST.out _ _ (hown5.toSl shS)).mono ?_); rintro e w6 ⟨rfl, hb6'⟩; have hb6 := hb5.trans (hb6'.mono (by omega)); have hk6 := hk5.trans (hb6'.mono hk5.size); have hs6 := hb6.size; simp only [World.size_alloc] at hs6; (first | clear tokA | (obtain ⟨z0, z1, z2, z3, z4, f0, f1, f2, f3, f4⟩ := ZK.out w4 w6 ((Below.refl _ _).drew.trans (hbC5.trans (hb6'.mono hs5c))))))
          | (go_at_call 25; (with_reducible refine (HST.out _ _ (((hown5.toSl shS).below shS ((Below.refl _ _).alloc (Nat.le_refl _) _)).mono shS (by simp))).mono ?_); rintro e w6 ⟨rfl, hb6'⟩; have hb6 := (hb5.alloc (by omega) _).trans (hb6'.mono (by simp; omega)); have hk6 := (hk5.alloc hk5.size _).trans (hb6'.mono (by have := hk5.size; simp; omega)); have hs6 := hb6.size; simp only [World.size_alloc] at hs6; obtain ⟨z0, z1, z2, z3, z4, f0, f1, f2, f3, f4⟩ := ZK.out w5 w6 (hb6'.mono (by simp))))
        all_goals (go_wp2_with fail; go_meet)
        · exact ⟨w6.heap.size, rfl, rfl, by omega, by simp, hb6.alloc (by omega) _, hk6.alloc hk6.size _, by simp, by simp, by simp, by simp, by simp⟩
        · exact ⟨w5.heap.size, rfl, rfl, by omega, by have := hb6'.size; simp at this ⊢; omega, (((((hb6.setCell hs5 _).setCell hs5 _).setCell hs5 _).setCell hs5 _).setCell hs5 _), (((((hk6.setCell hk5.size _).setCell hk5.size _).setCell hk5.size _).setCell hk5.size _).setCell hk5.size _), set5_all _ _ _ _ _ z0 z1 z2 z3 z4 _ rfl⟩
        · exact ⟨w4.heap.size, rfl, rfl, by omega, by have := hb6'.size; simp at this ⊢; omega, (((((hb6.setCell hs4 _).setCell hs4 _).setCell hs4 _).setCell hs4 _).setCell hs4 _), (((((hk6.setCell (Nat.le_refl _) _).setCell (Nat.le_refl _) _).setCell (Nat.le_refl _) _).setCell (Nat.le_refl _) _).setCell (Nat.le_refl _) _), set5_all _ _ _ _ _ z0 z1 z2 z3 z4 _ rfl⟩
      case rest =>
        obtain ⟨g, rfl, rfl, hg1, hg2, hbc, hbL, c0, c1, c2, c3, c4⟩ := hcut
        go_wp2
        go_ret
        exact ⟨rfl, hbox.trans (hbc.mono (Nat.le_succ _))⟩
end Go.Proofs.Ytgnaknanpgfpnaa
