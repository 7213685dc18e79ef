/- The reference of chapter 49: Collect. -/
import Derived.Test.YtgnaknanpgfpnaaRefF
namespace Go.Proofs.Ytgnaknanpgfpnaa
open Go.RowKit

def markAt (hs : List Shot) (i : Int) (u : Int) : ByteArray := if i < 0 then ⟨#[]⟩ else lastM (hs[i.toNat]?) u
theorem mark_any (i u : Int) (hs : List Shot) (v : Value) (w : World) (B : Nat) (hB : B ≤ w.heap.size) (h : Shots w B hs v) :
    Calls Try.prog 45 #[v, .int .i64 i, .int .i64 u] w fun e w' => e = .returned (.string (markAt hs i u)) ∧ Below w.heap.size w w' := by
  by_cases h0 : i < 0 ∨ (hs.length : Int) ≤ i
  · have e : markAt hs i u = ⟨#[]⟩ := by
      unfold markAt
      split
      · rfl
      · rw [List.getElem?_eq_none (by omega)]; rfl
    rw [e]
    exact (mark_out i u hs v w B hB h h0).mono fun e w' ⟨h1, h2⟩ => ⟨h1, h2 ▸ Below.refl _ _⟩
  · obtain ⟨x, hx⟩ := get_at hs (show i.toNat < hs.length by omega)
    have e : markAt hs i u = markIn x u := by
      unfold markAt
      rw [if_neg (by omega), hx]; rfl
    rw [e]
    have := mark_in i.toNat u x hs v w B hB h hx
    rwa [show ((i.toNat : Nat) : Int) = i by omega] at this
theorem markAt_prev (hs : List Shot) (i : Nat) (u : Int) : markAt hs ((i : Int) - 1) u = lastM (prevAt hs i) u := by
  unfold markAt prevAt
  by_cases h : i = 0
  · subst h; rfl
  · rw [if_neg (by omega), if_neg h, show ((i : Int) - 1).toNat = i - 1 by omega]
theorem markAt_at {hs : List Shot} {i : Nat} {x : Shot} (h : hs[i]? = some x) (u : Int) : markAt hs (i : Int) u = markIn x u := by
  unfold markAt
  rw [if_neg (by omega), Int.toNat_natCast, h]; rfl

theorem rcollect_bad (hs : List Shot) (v : Value) (w : World) (B : Nat) (hB : B ≤ w.heap.size) (h : Shots w B hs v) (hp : refCheck hs ≠ 0) :
    Calls Try.prog 18 #[v] w fun e w' => e = .returned (.tuple #[.slice none 0 0, .int .i64 1]) ∧ Below w.heap.size w w' := by
  have HC := Lib.hid (refCheck_c hs _ _ B hB h)
  obtain ⟨A, c, rfl, hc1, hc2, _⟩ := id h
  have hp1 : (refCheck hs != 0) = true := by simpa using hp
  have hp2 : (refCheck hs == 0) = false := by simpa using hp
  go_enter Try.func18, Try.ntmps18
  go_wp2_with fail
  refine HC.out.mono ?_
  rintro e w1 ⟨rfl, hb1⟩
  go_wp2
  go_ret2
  exact ⟨rfl, hb1⟩

def unitG (p : Option Shot) (xr : List Shot) (x : Shot) (k : Nat) : List Given := (x.units.drop k).filterMap (openE1 p xr x.day)
theorem unitG_at {p : Option Shot} {xr : List Shot} {x : Shot} {k : Nat} {s : Standing} (h : x.units[k]? = some s) : unitG p xr x k = (openE1 p xr x.day s).toList ++ unitG p xr x (k + 1) := by
  unfold unitG
  rw [drop_at h, List.filterMap_cons]
  cases openE1 p xr x.day s <;> rfl
theorem unitG_end {p : Option Shot} {xr : List Shot} {x : Shot} {k : Nat} (h : x.units.length ≤ k) : unitG p xr x k = [] := by
  unfold unitG
  rw [List.drop_of_length_le h]; rfl
theorem refG_at {hs : List Shot} {i : Nat} {x : Shot} (h : hs[i]? = some x) : refG (prevAt hs i) (hs.drop i) = unitG (prevAt hs i) (hs.drop i) x 0 ++ refG (prevAt hs (i + 1)) (hs.drop (i + 1)) := by
  have e : prevAt hs (i + 1) = some x := by simpa [prevAt] using h
  rw [e]
  conv => lhs; rw [drop_at h, refG]
  rw [drop_at h]; rfl
theorem insG_len (l : List Given) (g : Given) : (insG l g).length = l.length + 1 := (insG_perm g l).length_eq

set_option maxHeartbeats 4000000 in
set_option maxRecDepth 100000 in
theorem rcollect_ok (hs : List Shot) (v : Value) (w : World) (B : Nat) (hB : B ≤ w.heap.size) (h : Shots w B hs v) (hp : refCheck hs = 0) (hl64 : hs.length ≤ 64) (hfew : ∀ s ∈ hs, s.units.length ≤ 256) :
    Calls Try.prog 18 #[v] w fun e w' => ∃ v', e = .returned (.tuple #[v', .int .i64 0]) ∧ OwnRep 4 (flat Given.enc) 38 w.heap.size w' (refCollect hs) v' ∧ Below w.heap.size w w' := by
  have HC := Lib.hid (refCheck_c hs _ _ B hB h)
  obtain ⟨A, c, rfl, hc1, hc2, _⟩ := id h
  rw [hp] at HC
  have HW := Lib.hid hfew
  have HE := Lib.hid (show refCollect hs = (refG (prevAt hs 0) (hs.drop 0)).foldl insG [] from rfl)
  clear hp hfew
  go_enter Try.func18, Try.ntmps18
  go_wp2_with fail
  refine HC.out.mono ?_
  rintro e w1 ⟨rfl, hb1⟩
  have hs1 := hb1.size
  go_wp2
  go_loopw [4, 5] (fun o i wr => ∃ (k : Nat) (acc : List Given), k ≤ hs.length ∧ i = .int .i64 k ∧ OwnRep 4 (flat Given.enc) 38 w.heap.size wr acc o ∧ acc.length ≤ 256 * k ∧ Hid (refCollect hs = (refG (prevAt hs k) (hs.drop k)).foldl insG acc) ∧ Below w.heap.size w wr) (fun _ i _ => hs.length - (intOf i).toNat)
  case atStart => exact ⟨0, [], Nat.zero_le _, rfl, OwnRep.nil_, by simp, HE, hb1⟩
  case round =>
    obtain ⟨i, acc, hi, rfl, hacc, hal, HS, hb⟩ := hrel
    clear HE HC hb1 hs1
    obtain ⟨wo, rfl⟩ : ∃ wo : World, wo = wr := ⟨_, rfl⟩
    have hsz := hb.size
    by_cases hlt : i < hs.length
    · obtain ⟨x, hx⟩ := get_at hs hlt
      have hxl : x.units.length ≤ 256 := HW.out x (List.mem_of_getElem? hx)
      have HS2 := Lib.hid (show refCollect hs = (unitG (prevAt hs i) (hs.drop i) x 0 ++ refG (prevAt hs (i + 1)) (hs.drop (i + 1))).foldl insG acc by rw [HS.out, refG_at hx])
      obtain ⟨b, off, v1, rfl, hbB, g0, g1, hu⟩ := Shots.at_ h hx
      obtain ⟨A', c', rfl, hd1, hd2, _⟩ := id hu
      have HX := Lib.hid hx
      clear hx HS
      have hbw : b < w.heap.size := by omega
      have q0 := (hb.cell (p := ⟨b, off + i * 2, none⟩) hbw).trans g0
      have q1 := (hb.cell (p := ⟨b, off + i * 2 + 1, none⟩) hbw).trans g1
      go_wp2
      go_loopw [4, 6] (fun o k' wr => ∃ (k : Nat) (acc : List Given), k ≤ x.units.length ∧ k' = .int .i64 k ∧ OwnRep 4 (flat Given.enc) 38 w.heap.size wr acc o ∧ acc.length ≤ 256 * i + k ∧ Hid (refCollect hs = (unitG (prevAt hs i) (hs.drop i) x k ++ refG (prevAt hs (i + 1)) (hs.drop (i + 1))).foldl insG acc) ∧ Below w.heap.size w wr) (fun _ k' _ => x.units.length - (intOf k').toNat)
      case atStart => exact ⟨0, acc, Nat.zero_le _, rfl, hacc, by omega, HS2, hb⟩
      case round =>
        obtain ⟨k, acc, hk, rfl, hacc, hal, HS, hb⟩ := hrel
        clear HS2 q0 q1
        obtain ⟨wm, rfl⟩ : ∃ wm : World, wm = wr := ⟨_, rfl⟩
        have hsz := hb.size
        have q0 := (hb.cell (p := ⟨b, off + i * 2, none⟩) hbw).trans g0
        have q1 := (hb.cell (p := ⟨b, off + i * 2 + 1, none⟩) hbw).trans g1
        have hbm : b < wm.heap.size := by omega
        by_cases hkl : k < x.units.length
        · obtain ⟨s, hy⟩ := get_at x.units hkl
          have HU := Lib.hid (unitG_at (p := prevAt hs i) (xr := hs.drop i) hy)
          obtain ⟨b2, off2, rfl, hbB2, y0, y1, y2, y3, y4⟩ := Units.at_ (hu.below stS (hb.mono hB)) hy
          have hb2m : b2 < wm.heap.size := by omega
          clear hy
          have hx1 : Below wm.heap.size wm (wm.alloc (.cells #[.int .i64 s.unit, .int .i64 s.parent, .int .i64 s.level, .string s.mark, .string s.title] 46)) := (Below.refl _ _).alloc (Nat.le_refl _) _
          have hbx := hb.trans (hx1.mono hsz)
          by_cases hm : s.mark.size = 0
          · have hm1 : s.mark.toList.isEmpty = true := by rw [str_empty]; simpa using hm
            have hm2 : s.mark.toList = [] := by simpa using hm1
            have HR := Lib.hid (show refCollect hs = (unitG (prevAt hs i) (hs.drop i) x (k + 1) ++ refG (prevAt hs (i + 1)) (hs.drop (i + 1))).foldl insG acc by rw [HS.out, HU.out, openE1, if_pos (.inl hm)]; rfl)
            clear hm
            go_wp2
            go_quiet (fail)
            go_wp2
            go_roundw
            case rel => exact ⟨k + 1, acc, by omega, by go_num, (hacc.below giS (below_drewN hx1 _)), by omega, HR, below_drewN hbx _⟩
            case measure => simp [intOf]; omega
          · have hm1 : s.mark.toList.isEmpty = false := by rw [str_empty]; simpa using hm
            have hm2 : ¬ s.mark.toList = [] := by simpa using hm1
            have HCM := Lib.hid (fun (j : Int) (W : World) (hW : Below w.heap.size w W) => mark_any j s.unit hs _ W B (by have := hW.size; omega) (h.below shS (hW.mono hB)))
            have HC1 := Lib.hid (fun (W : World) (hW : Below w.heap.size w W) => HCM.out ((i : Int) - 1) W hW)
            have hP : ∀ m, markAt hs ((i : Int) - 1) s.unit = m → lastM (prevAt hs i) s.unit = m := fun m e => by rw [← markAt_prev]; exact e
            have HP := Lib.hid hP
            clear hP
            have hwr : IntKind.i64.wrap ((i : Int) - 1) = (i : Int) - 1 := IntWalk.i64_in _ (by omega)
            have KEEP := Lib.hid (fun (w' : World) (hW : Below (wm.heap.size + 1) (wm.alloc (.cells #[.int .i64 s.unit, .int .i64 s.parent, .int .i64 s.level, .string s.mark, .string s.title] 46)) w') => (⟨(hW.cell (p := ⟨wm.heap.size, 0, none⟩) (by simp)).trans (by simp), (hW.cell (p := ⟨wm.heap.size, 3, none⟩) (by simp)).trans (by simp)⟩ : w'.cell? ⟨wm.heap.size, 0, none⟩ = some (.int .i64 s.unit) ∧ w'.cell? ⟨wm.heap.size, 3, none⟩ = some (.string s.mark)))
            by_cases hq : markAt hs ((i : Int) - 1) s.unit = s.mark
            · rw [hq] at HC1
              have HR := Lib.hid (show refCollect hs = (unitG (prevAt hs i) (hs.drop i) x (k + 1) ++ refG (prevAt hs (i + 1)) (hs.drop (i + 1))).foldl insG acc by rw [HS.out, HU.out, openE1, if_pos (.inr (HP.out _ hq))]; rfl)
              clear hq hm
              go_wp2
              go_region_held3 (fun w' => w'.cell? ⟨wm.heap.size, 0, none⟩ = some (.int .i64 s.unit) ∧ w'.cell? ⟨wm.heap.size, 3, none⟩ = some (.string s.mark)) (first | exact KEEP.out _ (Below.refl _ _).drew | exact KEEP.out _ ((Below.refl _ _).drew.trans (hb2.mono (by simp)))) (first | (go_at_call 45; refine (HC1.out _ hbx.drew).mono ?_; rintro e w2 ⟨rfl, hb2⟩))
              go_wp2
              go_roundw
              case rel => exact ⟨k + 1, acc, by omega, by go_num, ((hacc.below giS hx1.drew).below giS hb2), by omega, HR, hbx.drew.trans (hb2.mono (by simp; omega))⟩
              case measure => simp [intOf]; omega
            · obtain ⟨m', hm'⟩ : ∃ m', m' = markAt hs ((i : Int) - 1) s.unit := ⟨_, rfl⟩
              rw [← hm'] at HC1 hq
              have hne1 : (m'.toList == s.mark.toList) = false := by rw [str_eq]; simpa using hq
              have HUN := Lib.hid (show ¬ (s.mark.size = 0 ∨ lastM (prevAt hs i) s.unit = s.mark) from fun e => e.elim hm (fun e => hq (by rw [hm', markAt_prev]; exact e)))
              clear hq hm hm'
              go_wp2
              go_region_held3 (fun w' => w'.cell? ⟨wm.heap.size, 0, none⟩ = some (.int .i64 s.unit) ∧ w'.cell? ⟨wm.heap.size, 3, none⟩ = some (.string s.mark)) (first | exact KEEP.out _ (Below.refl _ _).drew | exact KEEP.out _ ((Below.refl _ _).drew.trans (hb2.mono (by simp)))) (first | (go_at_call 45; refine (HC1.out _ hbx.drew).mono ?_; rintro e w2 ⟨rfl, hb2⟩))
              have hB2 : Below (wm.heap.size + 1) (wm.alloc (.cells #[.int .i64 s.unit, .int .i64 s.parent, .int .i64 s.level, .string s.mark, .string s.title] 46)) w2 := (Below.refl _ _).drew.trans (hb2.mono (by simp))
              have bw2 := hbx.trans (hB2.mono (by omega))
              have hs2 := hB2.size
              simp only [World.size_alloc] at hs2
              obtain ⟨e0, e3⟩ := KEEP.out _ hB2
              have p0 := (bw2.cell (p := ⟨b, off + i * 2, none⟩) hbw).trans g0
              have hb2w : b < w2.heap.size := by omega
              have hwm2 : wm.heap.size < w2.heap.size := by omega
              clear hb2 HC1
              go_wp2
              go_region
              go_wp2
              have hU0 := Lib.hid (show untilF s.mark s.unit (hs.drop i) = untilF s.mark s.unit (hs.drop i) from rfl)
              have bw3 := bw2.alloc (by omega) (.cells #[.string s.mark, .int .i64 s.unit, .int .i64 x.day, .int .i64 1048576] 38)
              have hB3 := hB2.alloc (by omega) (.cells #[.string s.mark, .int .i64 s.unit, .int .i64 x.day, .int .i64 1048576] 38)
              clear p0 e0 e3 hne1 hwr
              go_loopw [9] (fun en wr => ∃ j : Nat, j ≤ hs.length ∧ en = .int .i64 j ∧ Hid (untilF s.mark s.unit (hs.drop i) = untilF s.mark s.unit (hs.drop j)) ∧ Below (w2.heap.size + 1) (w2.alloc (.cells #[.string s.mark, .int .i64 s.unit, .int .i64 x.day, .int .i64 1048576] 38)) wr) (fun en _ => hs.length - (intOf en).toNat)
              case atStart => exact ⟨i, by omega, rfl, hU0, (Below.refl _ _).drew⟩
              case round =>
                obtain ⟨j, hj, rfl, HJ, hbn⟩ := hrel
                clear hU0
                obtain ⟨wn, rfl⟩ : ∃ wn : World, wn = wr := ⟨_, rfl⟩
                have hsn := hbn.size
                simp only [World.size_alloc] at hsn
                have bwn := bw3.trans (hbn.mono (by omega))
                have hBn := hB3.trans (hbn.mono (by omega))
                have bmn := hx1.trans (hBn.mono (Nat.le_succ _))
                have KEEP2 := Lib.hid (fun (w' : World) (hW : Below (w2.heap.size + 1) (w2.alloc (.cells #[.string s.mark, .int .i64 s.unit, .int .i64 x.day, .int .i64 1048576] 38)) w') => KEEP.out w' (hB3.trans (hW.mono (by omega))))
                obtain ⟨e0, e3⟩ := KEEP2.out _ hbn
                have hwmn : wm.heap.size < wn.heap.size := by omega
                by_cases hjl : j < hs.length
                · obtain ⟨z, hz⟩ := get_at hs hjl
                  have HDj := Lib.hid (drop_at hz)
                  have HC1 := Lib.hid (fun (W : World) (hW : Below w.heap.size w W) => HCM.out (j : Int) W hW)
                  rw [markAt_at hz] at HC1
                  obtain ⟨b4, off4, v4, hA4, hbB4, z0, -⟩ := Shots.at_ (h.below shS (bwn.mono hB)) hz
                  injection hA4 with hA4
                  injection hA4 with hA41 hA42
                  subst hA41 hA42
                  clear hz
                  by_cases hq : markIn z s.unit = s.mark
                  · rw [hq] at HC1
                    have HR := Lib.hid (show untilF s.mark s.unit (hs.drop i) = untilF s.mark s.unit (hs.drop (j + 1)) by rw [HJ.out, HDj.out, untilF, if_pos hq])
                    clear hq
                    go_wp2
                    go_region_held3 (fun w' => w'.cell? ⟨wm.heap.size, 0, none⟩ = some (.int .i64 s.unit) ∧ w'.cell? ⟨wm.heap.size, 3, none⟩ = some (.string s.mark)) (first | exact KEEP2.out _ hbn.drew | exact KEEP2.out _ (hbn.drew.trans (hb5.mono (by simp; omega)))) (first | (go_at_call 45; refine (HC1.out _ bwn.drew).mono ?_; rintro e w5 ⟨rfl, hb5⟩))
                    go_wp2
                    go_roundw
                    case rel => exact ⟨j + 1, by omega, by go_num, HR, hbn.drew.trans (hb5.mono (by simp; omega))⟩
                    case measure => simp [intOf]; omega
                  · obtain ⟨m5, hm5⟩ : ∃ m5, m5 = markIn z s.unit := ⟨_, rfl⟩
                    have HR := Lib.hid (show refCollect hs = (unitG (prevAt hs i) (hs.drop i) x (k + 1) ++ refG (prevAt hs (i + 1)) (hs.drop (i + 1))).foldl insG (insG acc ⟨s.mark, s.unit, x.day, z.day⟩) by rw [HS.out, HU.out, openE1, if_neg HUN.out, HJ.out, HDj.out, untilF, if_neg hq]; rfl)
                    rw [← hm5] at HC1 hq
                    have hne1 : (m5.toList == s.mark.toList) = false := by rw [str_eq]; simpa using hq
                    clear hq hm5
                    go_wp2
                    go_region_held3 (fun w' => w'.cell? ⟨wm.heap.size, 0, none⟩ = some (.int .i64 s.unit) ∧ w'.cell? ⟨wm.heap.size, 3, none⟩ = some (.string s.mark)) (first | exact KEEP2.out _ hbn.drew | exact KEEP2.out _ (hbn.drew.trans (hb5.mono (by simp; omega)))) (first | (go_at_call 45; refine (HC1.out _ bwn.drew).mono ?_; rintro e w5 ⟨rfl, hb5⟩))
                    have hbn5 := hbn.drew.trans (hb5.mono (by simp; omega))
                    have bmn5 := bmn.drew.trans (hb5.mono (by simp; omega))
                    have bw5 := bwn.drew.trans (hb5.mono (by simp; omega))
                    have z5 := (hb5.cell (p := ⟨b, off + j * 2, none⟩) (by simp; omega)).trans z0
                    have c0 : w5.cell? ⟨w2.heap.size, 0, none⟩ = some (.string s.mark) := (hbn5.cell (p := ⟨w2.heap.size, 0, none⟩) (by simp)).trans (by simp)
                    have c1 : w5.cell? ⟨w2.heap.size, 1, none⟩ = some (.int .i64 s.unit) := (hbn5.cell (p := ⟨w2.heap.size, 1, none⟩) (by simp)).trans (by simp)
                    have c2 : w5.cell? ⟨w2.heap.size, 2, none⟩ = some (.int .i64 x.day) := (hbn5.cell (p := ⟨w2.heap.size, 2, none⟩) (by simp)).trans (by simp)
                    have c3 : w5.cell? ⟨w2.heap.size, 3, none⟩ = some (.int .i64 1048576) := (hbn5.cell (p := ⟨w2.heap.size, 3, none⟩) (by simp)).trans (by simp)
                    have f3 : w5.frozen? ⟨w2.heap.size, 3, none⟩ = false := (hbn5.frozen (p := ⟨w2.heap.size, 3, none⟩) (by simp)).trans (by simp)
                    have bmS := bmn5.setCell (p := ⟨w2.heap.size, 3, none⟩) (by simp; omega) (.int .i64 z.day)
                    have bwS := bw5.setCell (p := ⟨w2.heap.size, 3, none⟩) (by simp; omega) (.int .i64 z.day)
                    have haccS := hacc.below giS bmS
                    go_wp2_with fail
                    refine (insert_c ⟨s.mark, s.unit, x.day, z.day⟩ acc _ _ _ haccS (by omega)).mono ?_
                    rintro e w6 ⟨v6, rfl, hown6, hb6⟩
                    go_wp2
                    go_roundw
                    case rel => exact ⟨k + 1, _, by omega, by go_num, hown6.base_le bwS.size, by rw [insG_len]; omega, HR, bwS.trans (hb6.mono bwS.size)⟩
                    case measure => simp [intOf]; omega
                · have HR := Lib.hid (show refCollect hs = (unitG (prevAt hs i) (hs.drop i) x (k + 1) ++ refG (prevAt hs (i + 1)) (hs.drop (i + 1))).foldl insG (insG acc ⟨s.mark, s.unit, x.day, 1048576⟩) by rw [HS.out, HU.out, openE1, if_neg HUN.out, HJ.out, List.drop_of_length_le (by omega : hs.length ≤ j), untilF]; rfl)
                  have c0 : wn.cell? ⟨w2.heap.size, 0, none⟩ = some (.string s.mark) := (hbn.cell (p := ⟨w2.heap.size, 0, none⟩) (by simp)).trans (by simp)
                  have c1 : wn.cell? ⟨w2.heap.size, 1, none⟩ = some (.int .i64 s.unit) := (hbn.cell (p := ⟨w2.heap.size, 1, none⟩) (by simp)).trans (by simp)
                  have c2 : wn.cell? ⟨w2.heap.size, 2, none⟩ = some (.int .i64 x.day) := (hbn.cell (p := ⟨w2.heap.size, 2, none⟩) (by simp)).trans (by simp)
                  have c3 : wn.cell? ⟨w2.heap.size, 3, none⟩ = some (.int .i64 1048576) := (hbn.cell (p := ⟨w2.heap.size, 3, none⟩) (by simp)).trans (by simp)
                  go_wp2
                  go_quiet (fail)
                  go_wp2_with fail
                  refine (insert_c ⟨s.mark, s.unit, x.day, 1048576⟩ acc _ _ _ (hacc.below giS (below_drewN bmn _)) (by omega)).mono ?_
                  rintro e w6 ⟨v6, rfl, hown6, hb6⟩
                  have bwS := below_drewN bwn nq
                  go_wp2
                  go_roundw
                  case rel => exact ⟨k + 1, _, by omega, by go_num, hown6.base_le bwS.size, by rw [insG_len]; omega, HR, bwS.trans (hb6.mono bwS.size)⟩
                  case measure => simp [intOf]; omega
        · go_wp2
          go_roundw
          case rel => exact ⟨i + 1, acc, by omega, by go_num, hacc, by omega, by show _ = _; rw [HS.out, unitG_end (by omega)]; rfl, hb⟩
          case measure => simp [intOf]; omega
    · go_wp2
      go_ret2
      refine ⟨_, rfl, ?_, hb⟩
      rw [HS.out, List.drop_of_length_le (by omega)]
      exact hacc
end Go.Proofs.Ytgnaknanpgfpnaa
