/- The reference: Check, Right (written by gen_rfh.py). -/
import Derived.Test.YthbccfchjgihgaaGreatDoorRfP
namespace Go.Proofs.YthbccfchjgihgaaGreatDoor
open Go.RowKit

def rck3 (t : Tre) : Int × Int := if rkidsF t.brs t.roots 0 = false then (-1, 10) else (passF (fun _ => rdepthF t.brs) t.brs).getD (-1, 0)
def rck2 (t : Tre) : Int × Int := (passF (fun _ => rkidsE t.brs) t.brs).getD (rck3 t)
def rck1 (t : Tre) : Int × Int := (passF (fun _ => rplaceF t.brs) t.brs).getD (rck2 t)
def rck0 (t : Tre) : Int × Int := (passF aloneF t.brs).getD (rck1 t)
theorem rck_is (t : Tre) : rchkF t = if 256 < t.brs.length then (-1, 8) else rck0 t := by
  unfold rchkF rck0 rck1 rck2 rck3
  cases passF aloneF t.brs <;> cases passF (fun _ => rplaceF t.brs) t.brs <;> cases passF (fun _ => rkidsE t.brs) t.brs <;> cases passF (fun _ => rdepthF t.brs) t.brs <;> rfl
theorem pass_at (f : List Brn → Brn → Int) {l : List Brn} {k : Nat} {x : Brn} (hx : l[k]? = some x) : passG f (l.take k) (l.drop k) = if f (l.take k) x ≠ 0 then some ((k : Int), f (l.take k) x) else passG f (l.take (k + 1)) (l.drop (k + 1)) := by
  have hlt := lt_of_at hx
  rw [drop_at hx, passG, take_at hx, List.length_take, Nat.min_eq_left (Nat.le_of_lt hlt)]
theorem ret_rchk {t : Tre} {a b : Int} (h : rchkF t = (a, b)) : Ending.returned (.tuple #[.int .i64 a, .int .i64 b]) = .returned (chkP t) := by
  rw [rchk_eq] at h
  exact ret_chk h
set_option maxRecDepth 100000 in
set_option maxHeartbeats 16000000 in
theorem rcheck_c (t : Tre) (hz : SizT t) (hmk : ∀ b ∈ t.brs, b.mark.size ≤ 100000) (vr vb : Value) (w : World) (B : Nat) (hB : B ≤ w.heap.size) (h : TreRep w B t vr vb) :
    Calls Tryz.prog 15 #[treV vr vb] w fun e w' => e = .returned (chkP t) ∧ Below w.heap.size w w' := by
  have b1 := tre_new w vr vb
  have hs1 : w.heap.size + 1 ≤ (w.alloc (treC vr vb)).heap.size := by simp
  have hn := hz.brs
  have KC := Lib.hid (fun (W : World) (hW : Below (w.heap.size + 1) (w.alloc (treC vr vb)) W) => treW_at hW)
  have HUP := Lib.hid (fun (W : World) (hW : Below (w.heap.size + 1) (w.alloc (treC vr vb)) W) => b1.trans (hW.mono (Nat.le_succ _)))
  have HR := Lib.hid (fun (W : World) (hW : Below w.heap.size w W) => h.below (hW.mono hB))
  obtain ⟨Ar, cr, rfl, -⟩ := id h.tops
  obtain ⟨A, ca, rfl, hc1, hc2, _⟩ := id h.brs
  obtain ⟨z0, z1, zl⟩ := KC.out _ (Below.refl _ _)
  have bX : Below (w.heap.size + 1) (w.alloc (treC (.slice Ar t.roots.length cr) (.slice A t.brs.length ca))) (w.alloc (treC (.slice Ar t.roots.length cr) (.slice A t.brs.length ca))) := Below.refl _ _
  clear h
  by_cases h256 : 256 < t.brs.length
  · have HX := Lib.hid (show rchkF t = (-1, 8) by rw [rck_is, if_pos h256])
    have hi : (256 : Int) < (t.brs.length : Int) := by omega
    clear h256
    go_enter Tryz.func15, Tryz.ntmps15
    go_wp2
    go_ret2
    exact ⟨ret_rchk HX.out, b1⟩
  · have HS := Lib.hid (show rchkF t = (passG aloneF (t.brs.take 0) (t.brs.drop 0)).getD (rck1 t) by rw [rck_is, if_neg h256]; rfl)
    have hi : ¬ (256 : Int) < (t.brs.length : Int) := by omega
    clear h256
    go_enter Tryz.func15, Tryz.ntmps15
    go_wp2
    go_loopw [4] (fun i wr => ∃ k : Nat, k ≤ t.brs.length ∧ i = .int .i64 k ∧ Hid (rchkF t = (passG aloneF (t.brs.take k) (t.brs.drop k)).getD (rck1 t)) ∧ Below (w.heap.size + 1) (w.alloc (treC (.slice Ar t.roots.length cr) (.slice A t.brs.length ca))) wr) (fun i _ => t.brs.length - (intOf i).toNat)
    case atStart => exact ⟨0, Nat.zero_le _, rfl, HS, bX⟩
    case round =>
      clear z0 z1 zl bX HS
      obtain ⟨k, hk, rfl, HS, bX⟩ := hrel
      have bw := HUP.out _ bX
      obtain ⟨z0, z1, zl⟩ := KC.out _ bX
      by_cases hlt : k < t.brs.length
      · obtain ⟨x, hx⟩ := get_at t.brs hlt
        have HP := Lib.hid (pass_at aloneF hx)
        have hkk : (k : Int) < (t.brs.length : Int) := by omega
        have hwk : IntKind.i64.wrap ((k : Int) + 1) = (k : Int) + 1 := IntWalk.i64_in _ (by omega)
        have HO := Lib.hid (rown_c t hmk k x hx (.slice Ar t.roots.length cr) (.slice A t.brs.length ca) wr B (Nat.le_trans hB bw.size) (HR.out _ bw))
        clear hx
        generalize aloneF (t.brs.take k) x = e at HO HP
        go_wp2_with fail
        refine HO.out.mono ?_
        rintro _ w2 ⟨rfl, hb2⟩
        have bX := bnd_call bX hs1 hb2
        by_cases h0 : e = 0
        · have hne : (e != 0) = false := by simp [h0]
          have HX := Lib.hid (HS.out.trans (by rw [HP.out, if_neg (fun c => c h0)]))
          clear h0
          go_wp2
          go_roundw
          case rel => exact ⟨k + 1, by omega, by go_num, HX, bX⟩
          case measure => simp [intOf]; omega
        · have hne : (e != 0) = true := by simpa using h0
          have HX := Lib.hid (HS.out.trans (by rw [HP.out, if_pos h0]; rfl : _ = ((k : Int), e)))
          clear h0
          go_wp2
          go_ret2
          exact ⟨ret_rchk HX.out, HUP.out _ bX⟩
      · have hkk : ¬ (k : Int) < (t.brs.length : Int) := by omega
        have HS := Lib.hid (show rchkF t = rck1 t by rw [HS.out, List.drop_of_length_le (by omega)]; rfl)
        have HS := Lib.hid (show rchkF t = (passG (fun _ => rplaceF t.brs) (t.brs.take 0) (t.brs.drop 0)).getD (rck2 t) from HS.out)
        go_wp2
        go_loopw [6] (fun i wr => ∃ k : Nat, k ≤ t.brs.length ∧ i = .int .i64 k ∧ Hid (rchkF t = (passG (fun _ => rplaceF t.brs) (t.brs.take k) (t.brs.drop k)).getD (rck2 t)) ∧ Below (w.heap.size + 1) (w.alloc (treC (.slice Ar t.roots.length cr) (.slice A t.brs.length ca))) wr) (fun i _ => t.brs.length - (intOf i).toNat)
        case atStart => exact ⟨0, Nat.zero_le _, rfl, HS, bX⟩
        case round =>
          clear z0 z1 zl bX HS
          obtain ⟨k, hk, rfl, HS, bX⟩ := hrel
          have bw := HUP.out _ bX
          obtain ⟨z0, z1, zl⟩ := KC.out _ bX
          by_cases hlt : k < t.brs.length
          · obtain ⟨x, hx⟩ := get_at t.brs hlt
            have HP := Lib.hid (pass_at (fun _ => rplaceF t.brs) hx)
            have hkk : (k : Int) < (t.brs.length : Int) := by omega
            have hwk : IntKind.i64.wrap ((k : Int) + 1) = (k : Int) + 1 := IntWalk.i64_in _ (by omega)
            obtain ⟨b, off, vx, rfl, hbB, g0, g1, g2, g3, g4, g5, hkr⟩ := Brns.at_ (HR.out _ bw).brs hx
            obtain ⟨Ax, cx, rfl, -⟩ := id hkr
            have hbw : b < w.heap.size := by have : b < B := hbB; omega
            have hbW := Nat.lt_of_lt_of_le hbw bw.size
            have bD := bX.drew
            have KEEP := Lib.hid (fun (W : World) (hW : Below (w.heap.size + 1) (w.alloc (treC (.slice Ar t.roots.length cr) (.slice (some ⟨b, off, none⟩) t.brs.length ca))) W) => (by
              obtain ⟨q0, q1, q2, q3, q4⟩ := brn_cells (HR.out _ (Below.refl _ _)).brs hB hx (HUP.out _ hW)
              exact ⟨KC.out W hW, q0, q1, q2, q3, q4, Nat.lt_of_lt_of_le hbw (HUP.out _ hW).size⟩ : (W.cell? ⟨w.heap.size, 0, none⟩ = some (.slice Ar t.roots.length cr) ∧ W.cell? ⟨w.heap.size, 1, none⟩ = some (.slice (some ⟨b, off, none⟩) t.brs.length ca) ∧ w.heap.size < W.heap.size) ∧ W.cell? ⟨b, off + k * 6, none⟩ = some (.int .i64 x.id) ∧ W.cell? ⟨b, off + k * 6 + 1, none⟩ = some (.int .i64 x.parent) ∧ W.cell? ⟨b, off + k * 6 + 2, none⟩ = some (.int .i64 x.level) ∧ W.cell? ⟨b, off + k * 6 + 3, none⟩ = some (.string x.title) ∧ W.cell? ⟨b, off + k * 6 + 4, none⟩ = some (.string x.mark) ∧ b < W.heap.size))
            have HO := Lib.hid (fun (W : World) (hW : Below w.heap.size w W) => rplace_c t x (.slice Ar t.roots.length cr) (.slice (some ⟨b, off, none⟩) t.brs.length ca) W B (Nat.le_trans hB hW.size) (HR.out _ hW))
            generalize rplaceF t.brs x = e at HO HP
            clear hx hkr g0 g1 g2 g3 g4 g5 hbB
            go_wp2
            clear z0 z1 zl bw
            go_region_held3 (fun W => (W.cell? ⟨w.heap.size, 0, none⟩ = some (.slice Ar t.roots.length cr) ∧ W.cell? ⟨w.heap.size, 1, none⟩ = some (.slice (some ⟨b, off, none⟩) t.brs.length ca) ∧ w.heap.size < W.heap.size) ∧ W.cell? ⟨b, off + k * 6, none⟩ = some (.int .i64 x.id) ∧ W.cell? ⟨b, off + k * 6 + 1, none⟩ = some (.int .i64 x.parent) ∧ W.cell? ⟨b, off + k * 6 + 2, none⟩ = some (.int .i64 x.level) ∧ W.cell? ⟨b, off + k * 6 + 3, none⟩ = some (.string x.title) ∧ W.cell? ⟨b, off + k * 6 + 4, none⟩ = some (.string x.mark) ∧ b < W.heap.size) (with_reducible exact KEEP.out _ bD) (first
              | (go_at_call 52; (with_reducible refine (HO.out _ (HUP.out _ bD)).mono ?_); rintro _ w2 ⟨rfl, hb2⟩; have bD := bnd_call bD hs1 hb2))
            have bX := bD
            by_cases h0 : e = 0
            · have hne : (e != 0) = false := by simp [h0]
              have HX := Lib.hid (HS.out.trans (by rw [HP.out, if_neg (fun c => c h0)]))
              clear h0
              go_wp2
              go_roundw
              case rel => exact ⟨k + 1, by omega, by go_num, HX, bX⟩
              case measure => simp [intOf]; omega
            · have hne : (e != 0) = true := by simpa using h0
              have HX := Lib.hid (HS.out.trans (by rw [HP.out, if_pos h0]; rfl : _ = ((k : Int), e)))
              clear h0
              go_wp2
              go_ret2
              exact ⟨ret_rchk HX.out, HUP.out _ bX⟩
          · have hkk : ¬ (k : Int) < (t.brs.length : Int) := by omega
            have HS := Lib.hid (show rchkF t = rck2 t by rw [HS.out, List.drop_of_length_le (by omega)]; rfl)
            have HS := Lib.hid (show rchkF t = (passG (fun _ => rkidsE t.brs) (t.brs.take 0) (t.brs.drop 0)).getD (rck3 t) from HS.out)
            go_wp2
            go_loopw [8] (fun i wr => ∃ k : Nat, k ≤ t.brs.length ∧ i = .int .i64 k ∧ Hid (rchkF t = (passG (fun _ => rkidsE t.brs) (t.brs.take k) (t.brs.drop k)).getD (rck3 t)) ∧ Below (w.heap.size + 1) (w.alloc (treC (.slice Ar t.roots.length cr) (.slice A t.brs.length ca))) wr) (fun i _ => t.brs.length - (intOf i).toNat)
            case atStart => exact ⟨0, Nat.zero_le _, rfl, HS, bX⟩
            case round =>
              clear z0 z1 zl bX HS
              obtain ⟨k, hk, rfl, HS, bX⟩ := hrel
              have bw := HUP.out _ bX
              obtain ⟨z0, z1, zl⟩ := KC.out _ bX
              by_cases hlt : k < t.brs.length
              · obtain ⟨x, hx⟩ := get_at t.brs hlt
                have HP := Lib.hid (pass_at (fun _ => rkidsE t.brs) hx)
                have hkk : (k : Int) < (t.brs.length : Int) := by omega
                have hwk : IntKind.i64.wrap ((k : Int) + 1) = (k : Int) + 1 := IntWalk.i64_in _ (by omega)
                obtain ⟨b, off, vx, rfl, hbB, g0, g1, g2, g3, g4, g5, hkr⟩ := Brns.at_ (HR.out _ bw).brs hx
                obtain ⟨Ax, cx, rfl, -⟩ := id hkr
                have hbw : b < w.heap.size := by have : b < B := hbB; omega
                have hbW := Nat.lt_of_lt_of_le hbw bw.size
                have bD := bX.drew
                obtain ⟨HG5, hkr0⟩ := (by
                  obtain ⟨_, _, vy, e9, -, -, -, -, -, -, q5, qk⟩ := Brns.at_ (HR.out _ (Below.refl _ _)).brs hx
                  cases e9
                  have q6 := (bw.cell (p := ⟨b, off + k * 6 + 5, none⟩) hbw).trans q5
                  have e7 := g5.symm.trans q6
                  injection e7 with e7
                  subst e7
                  exact ⟨Lib.hid q5, qk⟩ : Hid (w.cell? ⟨b, off + k * 6 + 5, none⟩ = some (.slice Ax x.kids.length cx)) ∧ SlRep 1 (flat intEnc) w (fun b => b < B) x.kids (.slice Ax x.kids.length cx))
                have KEEP := Lib.hid (fun (W : World) (hW : Below (w.heap.size + 1) (w.alloc (treC (.slice Ar t.roots.length cr) (.slice (some ⟨b, off, none⟩) t.brs.length ca))) W) => (by
                  have h1 := Brns.at_ (HR.out _ (HUP.out _ hW)).brs hx
                  obtain ⟨_, _, vy, e9, -, q0, -⟩ := h1
                  cases e9
                  exact ⟨KC.out W hW, q0, ((HUP.out _ hW).cell (p := ⟨b, off + k * 6 + 5, none⟩) hbw).trans HG5.out, Nat.lt_of_lt_of_le hbw (HUP.out _ hW).size⟩ : (W.cell? ⟨w.heap.size, 0, none⟩ = some (.slice Ar t.roots.length cr) ∧ W.cell? ⟨w.heap.size, 1, none⟩ = some (.slice (some ⟨b, off, none⟩) t.brs.length ca) ∧ w.heap.size < W.heap.size) ∧ W.cell? ⟨b, off + k * 6, none⟩ = some (.int .i64 x.id) ∧ W.cell? ⟨b, off + k * 6 + 5, none⟩ = some (.slice Ax x.kids.length cx) ∧ b < W.heap.size))
                have HO := Lib.hid (fun (W : World) (hW : Below w.heap.size w W) => rkids_c t x.kids x.id hz.brs (hz.kids x (List.mem_of_getElem? hx)) (.slice Ar t.roots.length cr) (.slice (some ⟨b, off, none⟩) t.brs.length ca) (.slice Ax x.kids.length cx) W B (Nat.le_trans hB hW.size) (HR.out _ hW) (hkr0.below intS (hW.mono hB)))
                have HKE := Lib.hid (show rkidsE t.brs x = if rkidsF t.brs x.kids x.id = false then 10 else 0 from rfl)
                generalize rkidsE t.brs x = e at HKE HP
                clear hx hkr hkr0 g0 g1 g2 g3 g4 g5 hbB HG5
                go_wp2
                clear z0 z1 zl bw
                go_region_held3 (fun W => (W.cell? ⟨w.heap.size, 0, none⟩ = some (.slice Ar t.roots.length cr) ∧ W.cell? ⟨w.heap.size, 1, none⟩ = some (.slice (some ⟨b, off, none⟩) t.brs.length ca) ∧ w.heap.size < W.heap.size) ∧ W.cell? ⟨b, off + k * 6, none⟩ = some (.int .i64 x.id) ∧ W.cell? ⟨b, off + k * 6 + 5, none⟩ = some (.slice Ax x.kids.length cx) ∧ b < W.heap.size) (with_reducible exact KEEP.out _ bD) (first
                  | (go_at_call 53; (with_reducible refine (HO.out _ (HUP.out _ bD)).mono ?_); rintro _ w2 ⟨rfl, hb2⟩; have bD := bnd_call bD hs1 hb2))
                have bX := bD
                cases hf : rkidsF t.brs x.kids x.id
                · have HX := Lib.hid (HS.out.trans (by rw [HP.out, HKE.out, hf]; rfl : _ = ((k : Int), (10 : Int))))
                  clear hf
                  go_wp2
                  go_ret2
                  exact ⟨ret_rchk HX.out, HUP.out _ bX⟩
                · have HX := Lib.hid (HS.out.trans (by rw [HP.out, HKE.out, hf, if_neg (by decide)] <;> rfl : _ = (passG (fun _ => rkidsE t.brs) (t.brs.take (k + 1)) (t.brs.drop (k + 1))).getD (rck3 t)))
                  clear hf
                  go_wp2
                  go_roundw
                  case rel => exact ⟨k + 1, by omega, by go_num, HX, bX⟩
                  case measure => simp [intOf]; omega
              · have hkk : ¬ (k : Int) < (t.brs.length : Int) := by omega
                have HS := Lib.hid (show rchkF t = rck3 t by rw [HS.out, List.drop_of_length_le (by omega)]; rfl)
                have HJ := Lib.hid (rkids_c t t.roots 0 hz.brs hz.tops (.slice Ar t.roots.length cr) (.slice A t.brs.length ca) (.slice Ar t.roots.length cr) wr B (Nat.le_trans hB bw.size) (HR.out _ bw) (HR.out _ bw).tops)
                cases hj : rkidsF t.brs t.roots 0
                · have HX := Lib.hid (HS.out.trans (by unfold rck3; rw [if_pos hj] : _ = ((-1 : Int), (10 : Int))))
                  rw [hj] at HJ
                  clear hj
                  go_wp2_with fail
                  refine HJ.out.mono ?_
                  rintro _ w2 ⟨rfl, hb2⟩
                  have bX := bnd_call bX hs1 hb2
                  go_wp2
                  go_ret2
                  exact ⟨ret_rchk HX.out, HUP.out _ bX⟩
                · have HS := Lib.hid (HS.out.trans (by unfold rck3; rw [if_neg (by rw [hj]; decide)]; rfl : _ = (passG (fun _ => rdepthF t.brs) (t.brs.take 0) (t.brs.drop 0)).getD (-1, 0)))
                  rw [hj] at HJ
                  clear hj
                  go_wp2_with fail
                  refine HJ.out.mono ?_
                  rintro _ w2 ⟨rfl, hb2⟩
                  have bX := bnd_call bX hs1 hb2
                  clear z0 z1 zl hb2
                  obtain ⟨z0, z1, zl⟩ := KC.out _ bX
                  go_wp2
                  go_loopw [9] (fun i wr => ∃ k : Nat, k ≤ t.brs.length ∧ i = .int .i64 k ∧ Hid (rchkF t = (passG (fun _ => rdepthF t.brs) (t.brs.take k) (t.brs.drop k)).getD ((-1, 0))) ∧ Below (w.heap.size + 1) (w.alloc (treC (.slice Ar t.roots.length cr) (.slice A t.brs.length ca))) wr) (fun i _ => t.brs.length - (intOf i).toNat)
                  case atStart => exact ⟨0, Nat.zero_le _, rfl, HS, bX⟩
                  case round =>
                    clear z0 z1 zl bX HS
                    obtain ⟨k, hk, rfl, HS, bX⟩ := hrel
                    have bw := HUP.out _ bX
                    obtain ⟨z0, z1, zl⟩ := KC.out _ bX
                    by_cases hlt : k < t.brs.length
                    · obtain ⟨x, hx⟩ := get_at t.brs hlt
                      have HP := Lib.hid (pass_at (fun _ => rdepthF t.brs) hx)
                      have hkk : (k : Int) < (t.brs.length : Int) := by omega
                      have hwk : IntKind.i64.wrap ((k : Int) + 1) = (k : Int) + 1 := IntWalk.i64_in _ (by omega)
                      obtain ⟨b, off, vx, rfl, hbB, g0, g1, g2, g3, g4, g5, hkr⟩ := Brns.at_ (HR.out _ bw).brs hx
                      obtain ⟨Ax, cx, rfl, -⟩ := id hkr
                      have hbw : b < w.heap.size := by have : b < B := hbB; omega
                      have hbW := Nat.lt_of_lt_of_le hbw bw.size
                      have bD := bX.drew
                      have KEEP := Lib.hid (fun (W : World) (hW : Below (w.heap.size + 1) (w.alloc (treC (.slice Ar t.roots.length cr) (.slice (some ⟨b, off, none⟩) t.brs.length ca))) W) => (by
                        obtain ⟨q0, -⟩ := brn_cells (HR.out _ (Below.refl _ _)).brs hB hx (HUP.out _ hW)
                        exact ⟨KC.out W hW, q0, Nat.lt_of_lt_of_le hbw (HUP.out _ hW).size⟩ : (W.cell? ⟨w.heap.size, 0, none⟩ = some (.slice Ar t.roots.length cr) ∧ W.cell? ⟨w.heap.size, 1, none⟩ = some (.slice (some ⟨b, off, none⟩) t.brs.length ca) ∧ w.heap.size < W.heap.size) ∧ W.cell? ⟨b, off + k * 6, none⟩ = some (.int .i64 x.id) ∧ b < W.heap.size))
                      have HO := Lib.hid (fun (W : World) (hW : Below w.heap.size w W) => rpath_c t hz.brs x.id (.slice Ar t.roots.length cr) (.slice (some ⟨b, off, none⟩) t.brs.length ca) W B (Nat.le_trans hB hW.size) (HR.out _ hW))
                      have HDE := Lib.hid (show rdepthF t.brs x = if rpathF t.brs x.id = [] then 17 else if 12 < (rpathF t.brs x.id).length then 15 else 0 from rfl)
                      generalize rdepthF t.brs x = e at HDE HP
                      generalize rpathF t.brs x.id = p at HDE HO
                      clear hx hkr g0 g1 g2 g3 g4 g5 hbB
                      go_wp2
                      clear z0 z1 zl bw
                      go_region_held3 (fun W => (W.cell? ⟨w.heap.size, 0, none⟩ = some (.slice Ar t.roots.length cr) ∧ W.cell? ⟨w.heap.size, 1, none⟩ = some (.slice (some ⟨b, off, none⟩) t.brs.length ca) ∧ w.heap.size < W.heap.size) ∧ W.cell? ⟨b, off + k * 6, none⟩ = some (.int .i64 x.id) ∧ b < W.heap.size) (with_reducible exact KEEP.out _ bD) (first
                        | (go_at_call 54; (with_reducible refine (HO.out _ (HUP.out _ bD)).mono ?_); rintro _ w2 ⟨vp, rfl, hownP, hb2⟩; have bD := bnd_call bD hs1 hb2; obtain ⟨Ap, cp, rfl, -⟩ := id (hownP.toSl intS)))
                      have bX := bD
                      clear hownP
                      by_cases hp0 : p = []
                      · have hpl : ((p.length : Int) == 0) = true := by rw [hp0]; rfl
                        have HX := Lib.hid (HS.out.trans (by rw [HP.out, HDE.out, if_pos hp0]; rfl : _ = ((k : Int), (17 : Int))))
                        clear hp0
                        go_wp2
                        go_ret2
                        exact ⟨ret_rchk HX.out, HUP.out _ bX⟩
                      · have hpp : 0 < p.length := List.length_pos_iff.2 hp0
                        have hpl : ((p.length : Int) == 0) = false := by rw [beq_eq_false_iff_ne]; omega
                        by_cases hpm : 12 < p.length
                        · have hpi : (12 : Int) < (p.length : Int) := by omega
                          have HX := Lib.hid (HS.out.trans (by rw [HP.out, HDE.out, if_neg hp0, if_pos hpm]; rfl : _ = ((k : Int), (15 : Int))))
                          clear hp0 hpm
                          go_wp2
                          go_ret2
                          exact ⟨ret_rchk HX.out, HUP.out _ bX⟩
                        · have hpi : ¬ (12 : Int) < (p.length : Int) := by omega
                          have HX := Lib.hid (HS.out.trans (by rw [HP.out, HDE.out, if_neg hp0, if_neg hpm, if_neg (fun c => c rfl)] : _ = (passG (fun _ => rdepthF t.brs) (t.brs.take (k + 1)) (t.brs.drop (k + 1))).getD (-1, 0)))
                          clear hp0 hpm
                          go_wp2
                          go_roundw
                          case rel => exact ⟨k + 1, by omega, by go_num, HX, bX⟩
                          case measure => simp [intOf]; omega
                    · have hkk : ¬ (k : Int) < (t.brs.length : Int) := by omega
                      have HS := Lib.hid (show rchkF t = (-1, 0) by rw [HS.out, List.drop_of_length_le (by omega)]; rfl)
                      go_wp2
                      go_ret2
                      exact ⟨ret_rchk HS.out, bw⟩
theorem rright_c (t : Tre) (hz : SizT t) (hmk : ∀ b ∈ t.brs, b.mark.size ≤ 100000) (vr vb : Value) (w : World) (B : Nat) (hB : B ≤ w.heap.size) (h : TreRep w B t vr vb) :
    Calls Tryz.prog 71 #[treV vr vb] w fun e w' => e = .returned (.bool (rightT t)) ∧ Below w.heap.size w w' := by
  have b1 := tre_new w vr vb
  have HC := Lib.hid (rcheck_c t hz hmk vr vb (w.alloc (treC vr vb)) B (Nat.le_trans hB b1.size) (h.below (b1.mono hB)))
  have HE := Lib.hid (show rightT t = decide ((chkF t).2 = 0) from rfl)
  obtain ⟨Ar, cr, rfl, -⟩ := id h.tops
  obtain ⟨A, ca, rfl, -⟩ := id h.brs
  clear h
  go_enter Tryz.func71, Tryz.ntmps71
  go_wp2_with fail
  refine HC.out.mono ?_
  rintro e w1 ⟨rfl, hb1⟩
  go_wp2
  go_ret
  exact ⟨ret_bool (by rw [HE.out]; rfl), b1.trans (hb1.mono b1.size)⟩
end Go.Proofs.YthbccfchjgihgaaGreatDoor
