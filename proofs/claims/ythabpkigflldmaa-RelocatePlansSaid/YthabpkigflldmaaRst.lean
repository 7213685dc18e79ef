/- steps of the reference. -/
import Derived.Test.YthabpkigflldmaaPos
namespace Go.Proofs.Ythabpkigflldmaa
open Go.RowKit

theorem heldB_c (ls : List Shelf) (bs : List Box) (at_ : List Int) (vl vb va : Value) (w : World) (B : Nat) (hB : B ≤ w.heap.size) (hl : Shelves w B ls vl) (hbx : Boxes w B bs vb) (ha : Ints w B at_ va) (hst : startE ls bs = 0) (hlen : at_.length = bs.length) :
    Calls Try.prog 62 #[vl, vb, va] w fun e w' => e = .returned (.bool (heldB ls bs at_)) ∧ Below w.heap.size w w' := held_c ls bs at_ vl vb va w B hB hl hbx ha hst hlen
set_option maxRecDepth 10000 in
set_option maxHeartbeats 4000000 in
theorem rsteps_c (ls : List Shelf) (bs : List Box) (at_ : List Int) (vl vb va : Value) (w : World) (B : Nat) (hB : B ≤ w.heap.size) (hl : Shelves w B ls vl) (hbx : Boxes w B bs vb) (ha : Ints w B at_ va) (hst : startE ls bs = 0) (hr : Right ls bs at_) :
    Calls Try.prog 45 #[vl, vb, va] w fun e w' => ∃ v', e = .returned v' ∧ OwnRep 3 (flat Carry.enc) 57 w.heap.size w' (stepsF ls bs at_) v' ∧ Below w.heap.size w w' := by
  obtain ⟨hok1, hok2, -⟩ := start_ok hst
  have h32 := shelves_len hok1
  obtain ⟨h128, -⟩ := boxes_ok hok2
  have l3 : at_.length = bs.length := hr.1
  have HBIG := Lib.hid (show (stepsF ls bs at_).length ≤ 4096 by
    have h1 := stepsG_len ls bs at_ bs 0
    have h2 : ls.length * bs.length ≤ 32 * 128 := Nat.mul_le_mul h32 h128
    unfold stepsF; omega)
  have HCA := Lib.hid (fun (i : Nat) (to_ : Int) (W : World) (hW : Below w.heap.size w W) (hi : i < at_.length) => with_c at_ va i to_ W B (Nat.le_trans hB hW.size) (ha.below inS (hW.mono hB)) hi (by omega))
  have HCH := Lib.hid (fun (at1 : List Int) (v1 : Value) (W : World) (hn1 : at1.length = bs.length) (h1 : SlRep 1 (flat intEnc) W (fun b => b < W.heap.size) at1 v1) (hW : Below w.heap.size w W) => heldB_c ls bs at1 vl vb v1 W W.heap.size (Nat.le_refl _) ((hl.below shS (hW.mono hB)).mono shS (Nat.le_trans hB hW.size)) ((hbx.below boS (hW.mono hB)).mono boS (Nat.le_trans hB hW.size)) h1 hst hn1)
  have HL := Lib.hid l3
  have l3' : at_.length ≤ bs.length := by omega
  have l3'' : bs.length ≤ at_.length := by omega
  clear hst hok1 hok2 hr l3
  obtain ⟨A, c, rfl, hc1, hc2, _⟩ := id hl
  obtain ⟨A', c', rfl, hd1, hd2, _⟩ := id hbx
  obtain ⟨A2, c2, rfl, he1, he2, _⟩ := id ha
  have HN0 := Lib.hid (show stepsF ls bs at_ = [] ++ stepsG ls bs at_ 0 (bs.drop 0) by simp [stepsF])
  go_enter Try.func45, Try.ntmps45
  go_wp2
  go_loopw [7, 14] (fun o i wr => ∃ (k : Nat) (acc : List Carry), k ≤ bs.length ∧ i = .int .i64 k ∧ OwnRep 3 (flat Carry.enc) 57 w.heap.size wr acc o ∧ Hid (stepsF ls bs at_ = acc ++ stepsG ls bs at_ k (bs.drop k)) ∧ Below w.heap.size w wr) (fun _ i _ => bs.length - (intOf i).toNat)
  case atStart => exact ⟨0, [], Nat.zero_le _, rfl, OwnRep.nil_, HN0, Below.refl _ _⟩
  case round =>
    obtain ⟨k, acc, hk, rfl, hown, HN, hb⟩ := hrel
    clear HN0
    have hs := hb.size
    have B1 := hb
    by_cases hlt : k < bs.length
    · obtain ⟨y, hy⟩ := get_at bs hlt
      have HD := Lib.hid (drop_at hy)
      obtain ⟨by_, offy, vy, hAy, hbBy, y0, y1, y2, y3, y4, hvy⟩ := Boxes.at_ (hbx.below boS (B1.mono hB)) hy
      obtain ⟨Ay, cy, rfl, -⟩ := hvy
      subst hAy
      have hyl : by_ < wr.heap.size := by omega
      clear hy
      obtain ⟨wo, rfl⟩ : ∃ wo : World, wo = wr := ⟨_, rfl⟩
      have HI0 := Lib.hid (show stepsF ls bs at_ = acc ++ (ls.drop 0).filterMap (stepAt ls bs at_ k y) ++ stepsG ls bs at_ (k + 1) (bs.drop (k + 1)) by rw [HN.out, HD.out]; simp [stepsG])
      have bo : Below wo.heap.size wo (wo.alloc (boxC y (.slice Ay y.cont.length cy))) := (Below.refl _ _).alloc (Nat.le_refl _) _
      have hown0 := hown.below caS bo
      have hlto := hown.own_lt
      go_wp2
      clear y0 y1 y2 y3 y4
      go_loopw [7, 21] (fun o i wr => ∃ (j : Nat) (acc : List Carry) (vo : Value), j ≤ ls.length ∧ i = .int .i64 j ∧ vo = o ∧ OwnRep 3 (flat Carry.enc) 57 w.heap.size wr acc vo ∧ (∀ b, vo.ownBlock = some b → b ≠ wo.heap.size) ∧ Hid (stepsF ls bs at_ = acc ++ (ls.drop j).filterMap (stepAt ls bs at_ k y) ++ stepsG ls bs at_ (k + 1) (bs.drop (k + 1))) ∧ wo.heap.size < wr.heap.size ∧ wr.cell? ⟨wo.heap.size, 0, none⟩ = some (.int .i64 y.id) ∧ Below w.heap.size w wr) (fun _ i _ => ls.length - (intOf i).toNat)
      case atStart => exact ⟨0, acc, _, Nat.zero_le _, rfl, rfl, hown0, fun b hb' => by have := (hlto b hb').2; omega, HI0, by simp, by simp, hb.trans (bo.mono (by omega))⟩
      case round =>
        obtain ⟨j, acc2, vo, hj, rfl, rfl, hown2, hne2, HI, hwo2, y0, hb2⟩ := hrel
        clear HI0 hown0 hown
        have hs2 := hb2.size
        have B2 := hb2
        by_cases hlt2 : j < ls.length
        · obtain ⟨s, hsx⟩ := get_at ls hlt2
          obtain ⟨q, hq⟩ := get_at at_ (show k < at_.length by omega)
          have HD2 := Lib.hid (drop_at hsx)
          have HG := Lib.hid (show at_.getD k 0 = q by simp [List.getD_eq_getElem?_getD, hq])
          obtain ⟨bs_, offs, hAs, hbBs, s0, s1, s2, s3⟩ := Shelves.at_ (hl.below shS (B2.mono hB)) hsx
          obtain ⟨ba_, offa, hAa, hbBa, a0⟩ := Ints.at_ (ha.below inS (B2.mono hB)) hq
          subst hAs hAa
          have hsl : bs_ < wr.heap.size := by omega
          have hal : ba_ < wr.heap.size := by omega
          have hki1 : (k : Int) < (at_.length : Int) := by omega
          have bq : Below wr.heap.size wr (wr.alloc (shelfC s)) := (Below.refl _ _).alloc (Nat.le_refl _) _
          clear hsx hq
          by_cases hid : s.id = q
          · have hid1 : (s.id != q) = false := by simp [hid]
            have HE := Lib.hid (show stepsF ls bs at_ = acc2 ++ (ls.drop (j + 1)).filterMap (stepAt ls bs at_ k y) ++ stepsG ls bs at_ (k + 1) (bs.drop (k + 1)) by
              rw [HI.out, HD2.out, List.filterMap_cons_none]
              simp only [stepAt, HG.out, hid]; simp)
            clear hid
            go_wp2
            go_quiet (fail)
            go_wp2
            go_roundw
            case rel => exact ⟨j + 1, acc2, _, by omega, by go_num, rfl, hown2.below caS (below_drewN bq _), hne2, HE, by simp; omega, ((below_drewN bq _).cell (p := ⟨wo.heap.size, 0, none⟩) (by simp; omega)).trans y0, hb2.trans ((below_drewN bq _).mono (by omega))⟩
            case measure => simp [intOf]; omega
          · have hid1 : (s.id != q) = true := by simpa using hid
            have KEEP := Lib.hid (fun (w' : World) (hW : Below (wr.heap.size + 1) (wr.alloc (shelfC s)) w') => (⟨(hW.cell (p := ⟨wr.heap.size, 0, none⟩) (by simp)).trans (by simp), ((bq.trans (hW.mono (by omega))).cell (p := ⟨ba_, offa + k, none⟩) (by simp; omega)).trans a0⟩ : w'.cell? ⟨wr.heap.size, 0, none⟩ = some (.int .i64 s.id) ∧ w'.cell? ⟨ba_, offa + k, none⟩ = some (.int .i64 q)))
            have hbX : Below (wr.heap.size + 1) (wr.alloc (shelfC s)) (wr.alloc (shelfC s)).drew := (Below.refl _ _).drew
            have hkl : k < at_.length := by omega
            have bqw := B2.trans (bq.mono (by omega))
            have hsl2 : (at_.set k s.id).length = bs.length := by rw [List.length_set]; exact HL.out
            have HSL2 := Lib.hid hsl2
            clear hsl2
            go_wp2
            go_region_held3 (fun w' => w'.cell? ⟨wr.heap.size, 0, none⟩ = some (.int .i64 s.id) ∧ w'.cell? ⟨ba_, offa + k, none⟩ = some (.int .i64 q)) (with_reducible exact KEEP.out _ hbX) (first
              | (go_at_call 65; (with_reducible refine (HCA.out k s.id _ (bqw.trans (hbX.mono (by omega))) hkl).mono ?_); rintro e wC ⟨vC, rfl, hownC, hb'⟩; have hs' := hb'.size; have kC := hownC.toSl inS; have hbX := hbX.trans (hb'.mono (by have := hbX.size; simp only [World.size_alloc] at this; omega)))
              | (go_at_call 62; (with_reducible refine (HCH.out (at_.set k s.id) _ _ HSL2.out kC (bqw.trans (hbX.mono (by omega)))).mono ?_); rintro e wH ⟨rfl, hb'⟩; have hbX := hbX.trans (hb'.mono (by have := hbX.size; simp only [World.size_alloc] at this; omega))))
            have hsX := hbX.size
            simp only [World.size_alloc] at hsX
            obtain ⟨s0', a0'⟩ := KEEP.out _ hbX
            have bH := bq.trans (hbX.mono (by omega))
            have y0' := (bH.cell (p := ⟨wo.heap.size, 0, none⟩) (by simp; omega)).trans y0
            have hownH := hown2.below caS bH
            have hltH := hown2.own_lt
            clear kC hb' HCA HCH KEEP s0 s1 s2 s3 a0 y0
            cases hh : heldB ls bs (at_.set k s.id)
            · have HE := Lib.hid (show stepsF ls bs at_ = acc2 ++ (ls.drop (j + 1)).filterMap (stepAt ls bs at_ k y) ++ stepsG ls bs at_ (k + 1) (bs.drop (k + 1)) by
                rw [HI.out, HD2.out, List.filterMap_cons_none]
                simp only [stepAt, HG.out, hh]; simp)
              go_wp2
              go_roundw
              case rel => exact ⟨j + 1, acc2, _, by omega, by go_num, rfl, hownH, hne2, HE, by omega, y0', hb2.trans (bH.mono (by omega))⟩
              case measure => simp [intOf]; omega
            · have HE := Lib.hid (show stepsF ls bs at_ = (acc2 ++ [⟨y.id, q, s.id⟩]) ++ (ls.drop (j + 1)).filterMap (stepAt ls bs at_ k y) ++ stepsG ls bs at_ (k + 1) (bs.drop (k + 1)) by
                rw [HI.out, HD2.out, List.filterMap_cons_some (b := ⟨y.id, q, s.id⟩)]
                · simp
                · simp only [stepAt, HG.out, hh]; simp [hid])
              clear hid
              have hwl1 : wr.heap.size < wH.heap.size := by omega
              have hwl2 : wo.heap.size < wH.heap.size := by omega
              have hwl3 : ba_ < wH.heap.size := by omega
              have hba : Below wH.heap.size wH (wH.drew.alloc (carryC ⟨y.id, q, s.id⟩)) := (Below.refl _ _).drew.alloc (by simp) _
              have KEEP := Lib.hid (fun (w' : World) (hW : Below wH.heap.size wH w') => (⟨(hW.cell (p := ⟨wr.heap.size, 0, none⟩) hwl1).trans s0', (hW.cell (p := ⟨wo.heap.size, 0, none⟩) hwl2).trans y0', (hW.cell (p := ⟨ba_, offa + k, none⟩) hwl3).trans a0'⟩ : w'.cell? ⟨wr.heap.size, 0, none⟩ = some (.int .i64 s.id) ∧ w'.cell? ⟨wo.heap.size, 0, none⟩ = some (.int .i64 y.id) ∧ w'.cell? ⟨ba_, offa + k, none⟩ = some (.int .i64 q)))
              have kO := hownH.below caS hba
              have kS := SlRep.one_new caS (t := 57) (x := (⟨y.id, q, s.id⟩ : Carry)) (F := fun _ => False) (w := wH.drew) (cs := Carry.enc ⟨y.id, q, s.id⟩) rfl rfl (fun b h => h.elim)
              have kF : ∀ b, (False ∨ b = wH.drew.heap.size) → b < (wH.drew.alloc (carryC ⟨y.id, q, s.id⟩)).heap.size ∧ vo.ownBlock ≠ some b := (fun b hb => by
                rcases hb with hb | hb
                · exact hb.elim
                · subst hb; exact ⟨by simp, fun he => by have := (hltH _ he).2; simp at this; omega⟩)
              have kN : acc2.length + [(⟨y.id, q, s.id⟩ : Carry)].length ≤ 4294967296 := by
                have := HBIG.out
                rw [HE.out] at this
                simp only [List.length_append] at this
                omega
              have kB : w.heap.size ≤ (wH.drew.alloc (carryC ⟨y.id, q, s.id⟩)).heap.size := by simp; omega
              have kG : ∀ (v6 : Value) (w6 : World), (wH.drew.alloc (carryC ⟨y.id, q, s.id⟩)).grownBy w6 vo.ownBlock → (v6.ownBlock = vo.ownBlock ∨ v6.ownBlock = some (wH.drew.alloc (carryC ⟨y.id, q, s.id⟩)).heap.size) →
                  (w6.cell? ⟨wr.heap.size, 0, none⟩ = some (.int .i64 s.id) ∧ w6.cell? ⟨wo.heap.size, 0, none⟩ = some (.int .i64 y.id) ∧ w6.cell? ⟨ba_, offa + k, none⟩ = some (.int .i64 q)) ∧ (∀ b, v6.ownBlock = some b → b ≠ wo.heap.size) ∧ wo.heap.size < w6.heap.size ∧ Below w.heap.size w w6 := by
                intro v6 w6 hg hat
                obtain ⟨k0, k1, k2⟩ := KEEP.out _ hba
                have hsz := hg.size
                simp only [World.size_alloc, World.size_drew] at hsz
                refine ⟨⟨(cell_grown hg (by simp; omega) (fun he => by have := (hltH _ he.symm).2; simp at this)).trans k0, (cell_grown hg (by simp; omega) (fun he => hne2 _ he.symm rfl)).trans k1, (cell_grown hg (by simp; omega) (fun he => by have := (hltH _ he.symm).1; simp at this; omega)).trans k2⟩, ?_, by omega, ?_⟩
                · intro b hb
                  rcases hat with h | h
                  · exact hne2 b (by rw [← h]; exact hb)
                  · rw [h] at hb; injection hb with hb; simp at hb; omega
                · exact ((hb2.trans (bH.mono (by omega))).trans (hba.mono (by omega))).grown hg (by simp; omega) (fun k hk => (hltH k hk).1)
              clear hba
              go_wp2
              go_region_held3 (fun w' => w'.cell? ⟨wr.heap.size, 0, none⟩ = some (.int .i64 s.id) ∧ w'.cell? ⟨wo.heap.size, 0, none⟩ = some (.int .i64 y.id) ∧ w'.cell? ⟨ba_, offa + k, none⟩ = some (.int .i64 q)) (first | with_reducible exact KEEP.out _ (Below.refl _ _).drew | with_reducible exact KEEP.out _ ((Below.refl _ _).drew.alloc (by simp) _) | with_reducible exact hk6.1) (first
                | (refine step_append_rep rfl caS carryE_ _ (.tmp 42) (.tmp 52) rfl rfl kO rfl (ys := [⟨y.id, q, s.id⟩]) kS kF kN (by decide) kB ?_; intro v6 w6 hown6 hg6 hat6; have hk6 := kG v6 w6 hg6 hat6))
              go_wp2
              go_roundw
              case rel => exact ⟨j + 1, _, _, by omega, by go_num, rfl, hown6, hk6.2.1, HE, hk6.2.2.1, hk6.1.2.1, hk6.2.2.2⟩
              case measure => simp [intOf]; omega
        · have HE := Lib.hid (show stepsF ls bs at_ = acc2 ++ stepsG ls bs at_ (k + 1) (bs.drop (k + 1)) by rw [HI.out, List.drop_of_length_le (by omega)]; simp)
          go_wp2
          go_roundw
          case rel => exact ⟨k + 1, acc2, by omega, by go_num, hown2, HE, hb2⟩
          case measure => simp [intOf]; omega
    · have HE := Lib.hid (show stepsF ls bs at_ = acc by rw [HN.out, List.drop_of_length_le (by omega)]; simp [stepsG])
      go_wp2
      go_ret
      exact ⟨_, rfl, by rw [HE.out]; exact hown.base_le (Nat.le_refl _), B1⟩
end Go.Proofs.Ythabpkigflldmaa
