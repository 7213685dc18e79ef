/- The reference: kids, path. -/
import Derived.Test.YthbccfchjgihgaaGreatDoorRfO
import Derived.Test.YthbccfchjgihgaaGreatDoorCom
namespace Go.Proofs.YthbccfchjgihgaaGreatDoor
open Go.RowKit

abbrev untO : Obj := .cells #[.int .i64 0, .int .i64 0, .int .i64 0, .string ⟨#[]⟩, .string ⟨#[]⟩] 35
theorem untO_is : untO = untZ := rfl
theorem find_bool {l : List Brn} {u : Int} : (findU l u).2 = (findB l u).isSome := by unfold findU; cases findB l u <;> rfl
theorem rkid_is (l : List Brn) (p : Int) (q : List Int) (k : Int) : rkidB l p q k = ((findU l k).2 && decide ((findU l k).1.parent = p) && !q.contains k) := by
  unfold rkidB findU
  cases findB l k with
  | none => rfl
  | some b => rw [Bool.eq_iff_iff]; simp
theorem cons_at {xs : List Int} {j : Nat} {u : Int} {i : Nat} (hu : xs[j]? = some u) (hj : j < i) : (xs.take i).contains u = true := by
  rw [List.contains_iff_mem]
  exact List.mem_of_getElem? (i := j) (by rw [List.getElem?_take, if_pos hj]; exact hu)
set_option maxRecDepth 100000 in
set_option maxHeartbeats 8000000 in
theorem rkids_c (t : Tre) (ks : List Int) (p : Int) (hn : t.brs.length ≤ 100000) (hk : ks.length ≤ 100000) (vr vb vk : Value) (w : World) (B : Nat) (hB : B ≤ w.heap.size) (h : TreRep w B t vr vb) (hv : Ints w B ks vk) :
    Calls Tryz.prog 53 #[treV vr vb, vk, .int .i64 p] w fun e w' => e = .returned (.bool (rkidsF t.brs ks p)) ∧ Below w.heap.size w w' := by
  have b1 := tre_new w vr vb
  have hs1 : w.heap.size + 1 ≤ (w.alloc (treC vr vb)).heap.size := by simp
  have KC := Lib.hid (fun (W : World) (hW : Below (w.heap.size + 1) (w.alloc (treC vr vb)) W) => treW_at hW)
  have HUP := Lib.hid (fun (W : World) (hW : Below (w.heap.size + 1) (w.alloc (treC vr vb)) W) => b1.trans (hW.mono (Nat.le_succ _)))
  have HBR := Lib.hid (fun (W : World) (hW : Below w.heap.size w W) => h.brs.below brnS (hW.mono hB))
  have HVK := Lib.hid (fun (W : World) (hW : Below w.heap.size w W) => hv.below intS (hW.mono hB))
  have HFI := Lib.hid (fun (u : Int) (W : World) (hW : Below w.heap.size w W) => rfind_c t u vr vb W B (Nat.le_trans hB hW.size) (h.below (hW.mono hB)))
  have HE := Lib.hid (show rkidsF t.brs ks p = (rkidsG t.brs p (ks.take 0) (ks.drop 0) && decide ((kidsW t.brs p).length = ks.length)) from rfl)
  obtain ⟨Ar, cr, rfl, -⟩ := id h.tops
  obtain ⟨A, ca, rfl, hc1, hc2, _⟩ := id h.brs
  obtain ⟨Ak, ck, rfl, -⟩ := id hv
  obtain ⟨z0, z1, zl⟩ := KC.out _ (Below.refl _ _)
  have hWB : w.alloc (treC (.slice Ar t.roots.length cr) (.slice A t.brs.length ca)) = w.alloc (treC (.slice Ar t.roots.length cr) (.slice A t.brs.length ca)) := rfl
  clear h hv
  go_enter Tryz.func53, Tryz.ntmps53
  go_wp2
  go_loopw [7, 8] (fun t7 i wr => ∃ k : Nat, k ≤ t.brs.length ∧ i = .int .i64 k ∧ t7 = .int .i64 ((kidsW (t.brs.take k) p).length : Nat) ∧ wr = w.alloc (treC (.slice Ar t.roots.length cr) (.slice A t.brs.length ca))) (fun _ i _ => t.brs.length - (intOf i).toNat)
  case atStart => exact ⟨0, Nat.zero_le _, rfl, rfl, rfl⟩
  case round =>
    obtain ⟨k, hkl, rfl, rfl, rfl⟩ := hrel
    have hkw := Nat.le_trans (kidsW_len (t.brs.take k) p) (List.length_take_le k t.brs)
    by_cases hlt : k < t.brs.length
    · obtain ⟨x, hx⟩ := get_at t.brs hlt
      have HN := Lib.hid (kidsW_snoc p hx)
      obtain ⟨b, off, vx, rfl, hbB, g0, g1, g2, g3, g4, g5, hkr⟩ := Brns.at_ (HBR.out _ (HUP.out _ (Below.refl _ _))) hx
      have hbw : b < (w.alloc (treC (.slice Ar t.roots.length cr) (.slice (some ⟨b, off, none⟩) t.brs.length ca))).heap.size := by have : b < B := hbB; omega
      have hkk : (k : Int) < (t.brs.length : Int) := by omega
      have hwk : IntKind.i64.wrap ((k : Int) + 1) = (k : Int) + 1 := IntWalk.i64_in _ (by omega)
      have hwc : IntKind.i64.wrap (((kidsW (t.brs.take k) p).length : Int) + 1) = ((kidsW (t.brs.take k) p).length : Int) + 1 := IntWalk.i64_in _ (by omega)
      obtain ⟨m, hm⟩ : ∃ m, (kidsW (t.brs.take k) p).length = m := ⟨_, rfl⟩
      rw [hm] at hwc ⊢
      have HM := Lib.hid hm
      clear hx hkr hm hkw
      by_cases hp : x.parent = p
      · have he : (x.parent == p) = true := by simp [hp]
        have HX := Lib.hid (show (kidsW (t.brs.take (k + 1)) p).length = m + 1 by rw [HN.out, if_pos hp, List.length_append, HM.out]; rfl)
        clear hp
        go_wp2
        go_roundw
        case rel => exact ⟨k + 1, by omega, by go_num, by rw [HX.out]; go_num, by first | rfl | trivial⟩
        case measure => simp [intOf]; omega
      · have he : (x.parent == p) = false := by simpa using hp
        have HX := Lib.hid (show (kidsW (t.brs.take (k + 1)) p).length = m by rw [HN.out, if_neg hp, HM.out])
        clear hp
        go_wp2
        go_roundw
        case rel => exact ⟨k + 1, by omega, by go_num, by rw [HX.out], by first | rfl | trivial⟩
        case measure => simp [intOf]; omega
    · have hkk : ¬ (k : Int) < (t.brs.length : Int) := by omega
      have hkw2 : kidsW (t.brs.take k) p = kidsW t.brs p := by rw [List.take_of_length_le (by omega)]
      rw [hkw2] at hkw ⊢
      obtain ⟨m, hm⟩ : ∃ m, (kidsW t.brs p).length = m := ⟨_, rfl⟩
      rw [hm] at HE ⊢
      clear hkw2 hm hkw
      go_wp2
      go_loopw [9] (fun i wr => ∃ j : Nat, j ≤ ks.length ∧ i = .int .i64 j ∧ Hid (rkidsF t.brs ks p = (rkidsG t.brs p (ks.take j) (ks.drop j) && decide (m = ks.length))) ∧ Below (w.heap.size + 1) (w.alloc (treC (.slice Ar t.roots.length cr) (.slice A t.brs.length ca))) wr) (fun i _ => ks.length - (intOf i).toNat)
      case atStart => exact ⟨0, Nat.zero_le _, rfl, HE, Below.refl _ _⟩
      case round =>
        clear z0 z1 zl
        obtain ⟨j, hj, rfl, HS, bX⟩ := hrel
        have bw := HUP.out _ bX
        obtain ⟨z0, z1, zl⟩ := KC.out _ bX
        by_cases hjl : j < ks.length
        · obtain ⟨u, hu⟩ := get_at ks hjl
          have HD := Lib.hid (drop_at hu)
          have HT := Lib.hid (take_at hu)
          have HCJ := Lib.hid (fun (i : Nat) (v : Int) (hv : ks[i]? = some v) (hi : i < j) => cons_at hv hi)
          have HGE := Lib.hid (fun (i : Nat) (hi : i < ks.length) => get_at ks hi)
          have HCN := Lib.hid (fun (hall : ∀ (i : Nat) (v : Int), ks[i]? = some v → i < j → v ≠ u) => (by
            rw [← Bool.not_eq_true, List.contains_iff_mem]
            intro hm
            obtain ⟨i, hi⟩ := List.getElem?_of_mem hm
            rw [List.getElem?_take] at hi
            split at hi
            · rename_i hij; exact hall i u hi hij rfl
            · exact absurd hi (by simp) : (ks.take j).contains u = false))
          obtain ⟨bk, ok, rfl, hbk, q0⟩ := Ints.at_ (HVK.out _ bw) hu
          have hsB := HUP.out _ (Below.refl _ _)
          have hbkw : bk < wr.heap.size := by have : bk < B := hbk; have := bw.size; omega
          have HKC := Lib.hid (fun (i : Nat) (v : Int) (hv : ks[i]? = some v) (W : World) (hW : Below (w.heap.size + 1) (w.alloc (treC (.slice Ar t.roots.length cr) (.slice A t.brs.length ca))) W) => (by
            obtain ⟨_, _, e9, hb9, q⟩ := Ints.at_ (HVK.out _ (HUP.out _ hW)) hv
            cases e9
            exact ⟨q, by have : bk < B := hb9; have := (HUP.out _ hW).size; omega⟩ : W.cell? ⟨bk, ok + i, none⟩ = some (.int .i64 v) ∧ bk < W.heap.size))
          have HF := Lib.hid (HFI.out u)
          obtain ⟨x, hx⟩ : ∃ x, (findU t.brs u).1 = x := ⟨_, rfl⟩
          obtain ⟨bo, hbo⟩ : ∃ b, (findU t.brs u).2 = b := ⟨_, rfl⟩
          have HK := Lib.hid (rkid_is t.brs p (ks.take j) u)
          rw [hx, hbo] at HF HK
          have hji : (j : Int) < (ks.length : Int) := by omega
          have hwj : IntKind.i64.wrap ((j : Int) + 1) = (j : Int) + 1 := IntWalk.i64_in _ (by omega)
          have hbD := bX.drew
          have HU := Lib.hid hu
          clear hu hx hbo hbk hsB z0 z1 zl bw hbkw q0
          go_wp2
          have hrs : w.heap.size + 1 ≤ wr.heap.size := Nat.le_trans hs1 bX.size
          have hZ0 : (wr.alloc untO).heap[wr.heap.size]? = some untO := heap_newT wr untO
          have hbZ := (bX.alloc hrs untO).drew
          have hbA := hbD
          have hbB := hbD
          have hbP := hbD
          have hsZ : (wr.alloc untO).heap.size = wr.heap.size + 1 := by simp
          go_cut [10, 11] (fun v10 v11 W => ∃ g, v10 = .pointer (some ⟨g, 0, none⟩) ∧ v11 = .bool bo ∧ W.heap[g]? = some (untC x) ∧ Below (w.heap.size + 1) (w.alloc (treC (.slice Ar t.roots.length cr) (.slice A t.brs.length ca))) W)
          case first =>
            go_region_held3 (fun W => (W.cell? ⟨w.heap.size, 0, none⟩ = some (.slice Ar t.roots.length cr) ∧ W.cell? ⟨w.heap.size, 1, none⟩ = some (.slice A t.brs.length ca) ∧ w.heap.size < W.heap.size) ∧ W.cell? ⟨bk, ok + j, none⟩ = some (.int .i64 u) ∧ bk < W.heap.size) (first | with_reducible exact And.intro (KC.out _ hbD) (HKC.out _ _ HU.out _ hbD) | with_reducible exact And.intro (KC.out _ hbZ) (HKC.out _ _ HU.out _ hbZ) | with_reducible exact And.intro (KC.out _ hbA) (HKC.out _ _ HU.out _ hbA) | with_reducible exact And.intro (KC.out _ hbB) (HKC.out _ _ HU.out _ hbB) | with_reducible exact And.intro (KC.out _ hbP) (HKC.out _ _ HU.out _ hbP)) (first
              | (go_at_call 19; (with_reducible refine (HF.out _ (HUP.out _ hbD)).mono ?_); rintro e w5 ⟨rfl, hb5⟩; have hbD := bnd_call hbD hs1 hb5; have hbA := hbD.alloc (Nat.le_trans hs1 hbD.size) untO; have hbB := hbD.alloc (Nat.le_trans hs1 hbD.size) (untC x))
              | (go_at_call 19; (with_reducible refine (HF.out _ (HUP.out _ hbZ)).mono ?_); rintro e w5 ⟨rfl, hb5⟩; have hbZ := bnd_call hbZ hs1 hb5; have hbP := put5_below (x := x) hbZ hrs; have hZ5 := ((hb5.block wr.heap.size (by simp)).trans hZ0).trans (congrArg some untO_is); obtain ⟨c0, c1, c2, c3, c4, cl⟩ := unt_cells hZ5; have f0 := Lib.frozen_of_heap hZ5 0; have f1 := Lib.frozen_of_heap hZ5 1; have f2 := Lib.frozen_of_heap hZ5 2; have f3 := Lib.frozen_of_heap hZ5 3; have f4 := Lib.frozen_of_heap hZ5 4; have hPA := put5_at (x := x) hZ5))
            · go_wp2_with fail
              go_meet
              exact ⟨w5.heap.size, rfl, rfl, heap_newT w5 (untC x), hbB⟩
            · go_wp2_with fail
              go_meet
              exact ⟨wr.heap.size, rfl, rfl, hPA, hbP⟩
          case rest =>
            obtain ⟨g, rfl, rfl, hg, bX⟩ := hcut
            clear hbA hbB hbP hbZ hbD hZ0 hrs hsZ
            obtain ⟨c0, c1, c2, c3, c4, cl⟩ := unt_cells hg
            obtain ⟨z0, z1, zl⟩ := KC.out _ bX
            have HST := Lib.hid (show rkidsF t.brs ks p = (bo && decide (x.parent = p) && !(ks.take j).contains u && rkidsG t.brs p (ks.take (j + 1)) (ks.drop (j + 1)) && decide (m = ks.length)) by
              rw [HS.out, HD.out, rkidsG, HK.out, HT.out])
            cases bo
            · go_wp2
              go_ret
              exact ⟨ret_bool HST.out.symm, HUP.out _ bX⟩
            · by_cases hp : x.parent = p
              · have hpi : (x.parent != p) = false := by simp [hp]
                have HST := Lib.hid (show rkidsF t.brs ks p = (!(ks.take j).contains u && rkidsG t.brs p (ks.take (j + 1)) (ks.drop (j + 1)) && decide (m = ks.length)) by rw [HST.out, decide_eq_true hp]; rfl)
                clear hp
                go_wp2
                go_loopw [12] (fun q wr' => ∃ i : Nat, i ≤ j ∧ q = .int .i64 i ∧ (∀ (i' : Nat) (v : Int), ks[i']? = some v → i' < i → v ≠ u) ∧ Below (w.heap.size + 1) (w.alloc (treC (.slice Ar t.roots.length cr) (.slice A t.brs.length ca))) wr') (fun q _ => j - (intOf q).toNat)
                case atStart => exact ⟨0, Nat.zero_le _, rfl, fun _ _ _ h => absurd h (by omega), bX⟩
                case round =>
                  clear bX z0 z1 zl c0 c1 c2 c3 c4 cl hg
                  obtain ⟨i, hi, rfl, hno, bX⟩ := hrel
                  by_cases hij : i < j
                  · obtain ⟨v, hv⟩ := HGE.out i (by omega)
                    obtain ⟨q0, ql⟩ := HKC.out i v hv _ bX
                    obtain ⟨q1, -⟩ := HKC.out j u HU.out _ bX
                    have hii : (i : Int) < (j : Int) := by omega
                    have hin : (i : Int) < (ks.length : Int) := by omega
                    have hwi : IntKind.i64.wrap ((i : Int) + 1) = (i : Int) + 1 := IntWalk.i64_in _ (by omega)
                    by_cases hvu : v = u
                    · have hvi : (v == u) = true := by simp [hvu]
                      have HX := Lib.hid (show rkidsF t.brs ks p = false by rw [HST.out, HCJ.out i u (by rw [hv, hvu]) hij]; rfl)
                      clear hvu hv
                      go_wp2
                      go_quiet (fail)
                      go_wp2
                      go_ret
                      exact ⟨ret_bool HX.out.symm, below_drewN (HUP.out _ bX) _⟩
                    · have hvi : (v == u) = false := by simpa using hvu
                      have HNO := Lib.hid (show ∀ (i' : Nat) (v : Int), ks[i']? = some v → i' < i + 1 → v ≠ u by
                        intro i' v' h1 h2
                        by_cases he : i' = i
                        · subst he
                          rw [hv] at h1
                          injection h1 with h1
                          rw [← h1]
                          exact hvu
                        · exact hno i' v' h1 (by omega))
                      clear hvu hv hno
                      go_wp2
                      go_quiet (fail)
                      go_wp2
                      go_roundw
                      case rel => exact ⟨i + 1, by omega, by go_num, HNO.out, below_drewN bX _⟩
                      case measure => simp [intOf]; omega
                  · have hii : ¬ (i : Int) < (j : Int) := by omega
                    have hcn := HCN.out (fun i' v h1 h2 => hno i' v h1 (by omega))
                    have HX := Lib.hid (show rkidsF t.brs ks p = (rkidsG t.brs p (ks.take (j + 1)) (ks.drop (j + 1)) && decide (m = ks.length)) by rw [HST.out, hcn]; rfl)
                    clear hno hcn
                    go_wp2
                    go_roundw
                    case rel => exact ⟨j + 1, by omega, by go_num, HX, bX⟩
                    case measure => simp [intOf]; omega
              · have hpi : (x.parent != p) = true := by simpa using hp
                have HX := Lib.hid (show rkidsF t.brs ks p = false by rw [HST.out, decide_eq_false hp]; rfl)
                clear hp
                go_wp2
                go_ret
                exact ⟨ret_bool HX.out.symm, HUP.out _ bX⟩
        · have hji : ¬ (j : Int) < (ks.length : Int) := by omega
          have HX := Lib.hid (show rkidsF t.brs ks p = decide (m = ks.length) by rw [HS.out, List.drop_of_length_le (by omega)]; rfl)
          by_cases hmk : m = ks.length
          · have hmi : ((m : Int) == (ks.length : Int)) = true := by simp [hmk]
            have HY := Lib.hid (HX.out.trans (decide_eq_true hmk))
            clear hmk
            go_wp2
            go_ret
            exact ⟨ret_bool HY.out.symm, bw⟩
          · have hmi : ((m : Int) == (ks.length : Int)) = false := by simpa using (fun e => hmk (by omega) : ¬ (m : Int) = (ks.length : Int))
            have HY := Lib.hid (HX.out.trans (decide_eq_false hmk))
            clear hmk
            go_wp2
            go_ret
            exact ⟨ret_bool HY.out.symm, bw⟩
end Go.Proofs.YthbccfchjgihgaaGreatDoor
