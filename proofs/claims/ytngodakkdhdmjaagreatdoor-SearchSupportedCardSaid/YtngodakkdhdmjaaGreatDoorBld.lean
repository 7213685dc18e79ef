/- The program: right, Of, Build. -/
import Derived.Test.YtngodakkdhdmjaaGreatDoorOfq
import Derived.Test.YtngodakkdhdmjaaGreatDoorPri
namespace Go.Proofs.YtngodakkdhdmjaaGreatDoor
open Go.RowKit

def rightE (c : Cat) (s : ByteArray) : Int := if catE c ≠ 0 then 1 else if hasS c.langs s = false then 10 else 0
theorem catW_at {w W : World} {v1 v2 v3 : Value} (hW : Below (w.heap.size + 1) (w.alloc (catC v1 v2 v3)) W) : W.cell? ⟨w.heap.size, 0, none⟩ = some v1 ∧ W.cell? ⟨w.heap.size, 1, none⟩ = some v2 ∧ W.cell? ⟨w.heap.size, 2, none⟩ = some v3 ∧ w.heap.size < W.heap.size :=
  ⟨(hW.cell (p := ⟨w.heap.size, 0, none⟩) (by simp)).trans (by simp), (hW.cell (p := ⟨w.heap.size, 1, none⟩) (by simp)).trans (by simp), (hW.cell (p := ⟨w.heap.size, 2, none⟩) (by simp)).trans (by simp), by have := hW.size; simp at this; omega⟩
theorem right_c (c : Cat) (s : ByteArray) (v1 v2 v3 : Value) (w : World) (B : Nat) (hB : B ≤ w.heap.size) (h : CatRep w B c v1 v2 v3) :
    Calls Tryz.prog 56 #[.agg #[v1, v2, v3], .string s] w fun e w' => e = .returned (.int .i64 (rightE c s)) ∧ Below w.heap.size w w' := by
  have b1 : Below w.heap.size w (w.alloc (catC v1 v2 v3)) := (Below.refl _ _).alloc (Nat.le_refl _) _
  have hb0 : Below (w.heap.size + 1) (w.alloc (catC v1 v2 v3)) (w.alloc (catC v1 v2 v3)) := Below.refl _ _
  have HC := Lib.hid (Check_c c v1 v2 v3 (w.alloc (catC v1 v2 v3)) B (Nat.le_trans hB b1.size) (h.below (b1.mono hB)))
  have HS := Lib.hid (fun (W : World) (hW : Below w.heap.size w W) => scontains_c s c.langs v1 W (fun b => b < B) (fun b hb => by have : b < B := hb; have := hW.size; omega) (h.langs.below strS (hW.mono hB)))
  by_cases h0 : catE c = 0
  · rw [h0] at HC
    have HE := Lib.hid (show rightE c s = if hasS c.langs s = false then 10 else 0 by unfold rightE; rw [if_neg (by simpa using h0)])
    cases hh : hasS c.langs s
    · rw [hh, if_pos rfl] at HE
      have hh' : (c.langs.any fun x => decide (x = s)) = false := hh
      rw [hh'] at HS
      clear hh hh' h0
      go_enter Tryz.func56, Tryz.ntmps56
      go_wp2_with fail
      refine HC.out.mono ?_
      rintro e w1 ⟨rfl, hb1⟩
      have hbX := bnd_call hb0 (by simp) hb1
      obtain ⟨z0, z1, z2, zl⟩ := catW_at hbX
      go_wp2_with fail
      refine (HS.out _ (b1.trans (hbX.mono (Nat.le_succ _)))).mono ?_
      rintro e w2 ⟨rfl, rfl⟩
      go_wp2
      go_ret
      exact ⟨ret_int HE.out.symm, b1.trans (hbX.mono (Nat.le_succ _))⟩
    · rw [hh, if_neg (by simp)] at HE
      have hh' : (c.langs.any fun x => decide (x = s)) = true := hh
      rw [hh'] at HS
      clear hh hh' h0
      go_enter Tryz.func56, Tryz.ntmps56
      go_wp2_with fail
      refine HC.out.mono ?_
      rintro e w1 ⟨rfl, hb1⟩
      have hbX := bnd_call hb0 (by simp) hb1
      obtain ⟨z0, z1, z2, zl⟩ := catW_at hbX
      go_wp2_with fail
      refine (HS.out _ (b1.trans (hbX.mono (Nat.le_succ _)))).mono ?_
      rintro e w2 ⟨rfl, rfl⟩
      go_wp2
      go_ret
      exact ⟨ret_int HE.out.symm, b1.trans (hbX.mono (Nat.le_succ _))⟩
  · have HE := Lib.hid (show rightE c s = 1 by unfold rightE; rw [if_pos h0])
    have hn : (catE c != 0) = true := by simpa using h0
    clear h0
    go_enter Tryz.func56, Tryz.ntmps56
    go_wp2_with fail
    refine HC.out.mono ?_
    rintro e w1 ⟨rfl, hb1⟩
    go_wp2
    go_ret
    exact ⟨ret_int HE.out.symm, b1.trans (hb1.mono (by simp))⟩
theorem right_zero {c : Cat} {s : ByteArray} (h : rightE c s = 0) : catE c = 0 ∧ hasS c.langs s = true := by
  unfold rightE at h
  split at h
  · simp at h
  · split at h
    · simp at h
    · rename_i h1 h2
      exact ⟨by simpa using h1, by simpa using h2⟩
/-- the inverted index of a catalog -/
def allF (c : Cat) (s : ByteArray) : List Post := c.sheets.flatMap fun x => ofF c s x.unit
def buildE (c : Cat) (s : ByteArray) : Int := if rightE c s ≠ 0 then rightE c s else if 65536 < (allF c s).length then 8 else 0
def buildF (c : Cat) (s : ByteArray) : List Post := if buildE c s = 0 then sortP (allF c s) else []
theorem ofF_len {c : Cat} (s : ByteArray) (u : Int) (h0 : catE c = 0) : (ofF c s u).length ≤ 200000 := by
  unfold ofF
  rw [sortP_len]
  rcases idxF_cases (fun x : Sheet => decide (x.unit = u)) c.sheets with ⟨h1, -⟩ | ⟨k, x, h1, h2, -, -⟩
  · have hi : shtIx c.sheets u = -1 := h1
    rw [raw_none (by omega)]
    simp
  · have hi : shtIx c.sheets u = (k : Int) := h1
    obtain ⟨hc32, hcm⟩ := chosen_facts (s := s) h0 hi h2
    have htl := ((catE_zero h0).2.2.2 x (List.mem_of_getElem? h2)).2.1.2.2
    rw [raw_at hi h2, List.length_append]
    have := putF_len u (-1) x.title
    have := flat_len (m := 4096) (fun f : Fact => putF u f.el f.text) (chooseR c u s) (fun f hf => Nat.le_trans (putF_len _ _ _) (hcm f hf).2.2.2)
    have : (chooseR c u s).length * 4096 ≤ 32 * 4096 := Nat.mul_le_mul_right _ hc32
    omega
set_option maxRecDepth 100000 in
set_option maxHeartbeats 4000000 in
theorem iBuild_c (c : Cat) (s : ByteArray) (v1 v2 v3 : Value) (w : World) (B : Nat) (hB : B ≤ w.heap.size) (h : CatRep w B c v1 v2 v3) :
    Calls Tryz.prog 20 #[.agg #[v1, v2, v3], .string s] w fun e w' => ∃ v', e = .returned (.tuple #[v', .int .i64 (buildE c s)]) ∧ OwnRep 4 (flat Post.enc) 36 w.heap.size w' (buildF c s) v' ∧ Below w.heap.size w w' := by
  have b1 : Below w.heap.size w (w.alloc (catC v1 v2 v3)) := (Below.refl _ _).alloc (Nat.le_refl _) _
  have hb0 : Below (w.heap.size + 1) (w.alloc (catC v1 v2 v3)) (w.alloc (catC v1 v2 v3)) := Below.refl _ _
  have HR := Lib.hid (right_c c s v1 v2 v3 (w.alloc (catC v1 v2 v3)) B (Nat.le_trans hB b1.size) (h.below (b1.mono hB)))
  by_cases h0 : rightE c s = 0
  · have hc0 := (right_zero h0).1
    have HO := Lib.hid (fun (u : Int) (W : World) (hW : Below w.heap.size w W) => of_c c s u v1 v2 v3 W B (Nat.le_trans hB hW.size) (h.below (hW.mono hB)) hc0)
    have HOL := Lib.hid (fun u => ofF_len s u hc0)
    have HBE := Lib.hid (show buildE c s = if 65536 < (allF c s).length then 8 else 0 by unfold buildE; rw [if_neg (by simpa using h0)])
    have hsl := (catE_zero hc0).2.2.1
    obtain ⟨A3, c3, rfl, hd1, hd2, -⟩ := id h.sheets
    have HX := Lib.hid (fun (k : Nat) (x : Sheet) (hx : c.sheets[k]? = some x) (W : World) (hW : Below w.heap.size w W) => Sheets.at_ (h.sheets.below shtS (hW.mono hB)) hx)
    have HAL := Lib.hid (show allF c s = c.sheets.flatMap (fun x => ofF c s x.unit) from rfl)
    have HA0 := Lib.hid (show ([] : List Post) = (c.sheets.take 0).flatMap (fun x => ofF c s x.unit) from rfl)
    rw [h0] at HR
    clear h0 h
    go_enter Tryz.func20, Tryz.ntmps20
    go_wp2_with fail
    refine HR.out.mono ?_
    rintro e w1 ⟨rfl, hb1⟩
    have hbX := bnd_call hb0 (by simp) hb1
    obtain ⟨z0, z1, z2, zl⟩ := catW_at hbX
    clear hb1 HR
    go_wp2
    go_loopw [7, 19] (fun sl i wr => ∃ (k : Nat) (v' : Value), k ≤ c.sheets.length ∧ i = .int .i64 k ∧ sl = v' ∧ OwnRep 4 (flat Post.enc) 36 (w.heap.size + 1) wr ((c.sheets.take k).flatMap fun x => ofF c s x.unit) v' ∧ Below (w.heap.size + 1) (w.alloc (catC v1 v2 (.slice A3 c.sheets.length c3))) wr) (fun _ i _ => c.sheets.length - (intOf i).toNat)
    case atStart => exact ⟨0, _, Nat.zero_le _, rfl, rfl, by rw [← HA0.out]; exact OwnRep.nil_, hbX⟩
    case round =>
      clear hbX HA0 z0 z1 z2 zl
      obtain ⟨k, v', hk, rfl, rfl, hr, hbX⟩ := hrel
      obtain ⟨z0, z1, z2, zl⟩ := catW_at hbX
      have Br := b1.trans (hbX.mono (Nat.le_succ _))
      have hsr := Br.size
      have hsr1 := hbX.size
      simp at hsr1
      have hro := hr.own_lt
      have hlen : ((c.sheets.take k).flatMap fun x => ofF c s x.unit).length ≤ 60000000 := by
        have := flat_len (m := 200000) (fun x : Sheet => ofF c s x.unit) (c.sheets.take k) (fun x _ => HOL.out x.unit)
        rw [List.length_take] at this
        have : min k c.sheets.length * 200000 ≤ 256 * 200000 := Nat.mul_le_mul_right _ (by omega)
        omega
      obtain ⟨As, ns, cs, rfl, hns⟩ := own_form pstS hr
      by_cases hlt : k < c.sheets.length
      · obtain ⟨x, hx⟩ := get_at c.sheets hlt
        have HT := Lib.hid (show (c.sheets.take (k + 1)).flatMap (fun x => ofF c s x.unit) = (c.sheets.take k).flatMap (fun x => ofF c s x.unit) ++ ofF c s x.unit by rw [take_at hx, List.flatMap_append]; simp)
        obtain ⟨b, off, vf, rfl, hbB, g0, g1, g2, g3, g4, g5, hvf⟩ := HX.out k x hx _ Br
        have hbw : b < wr.heap.size := by have : b < B := hbB; omega
        obtain ⟨Af, cf, rfl, -⟩ := id hvf
        have hki : (k : Int) < (c.sheets.length : Int) := by omega
        have hbx : Below wr.heap.size wr (wr.alloc (shtC x (.slice Af x.facts.length cf))) := (Below.refl _ _).alloc (Nat.le_refl _) _
        have hbB2 := Br.trans (hbx.mono Br.size)
        have HOX := Lib.hid (HO.out x.unit _ hbB2)
        have HLX := Lib.hid (HOL.out x.unit)
        have y0 := (hbx.cell (p := ⟨w.heap.size, 0, none⟩) zl).trans z0
        have y1 := (hbx.cell (p := ⟨w.heap.size, 1, none⟩) zl).trans z1
        have y2 := (hbx.cell (p := ⟨w.heap.size, 2, none⟩) zl).trans z2
        have hrx := hr.below pstS hbx
        clear hx
        go_wp2_with fail
        refine HOX.out.mono ?_
        rintro e w5 ⟨v5, rfl, hown5, hb5⟩
        have hlo5 := hown5.own_lt
        have hs5 := hown5.toFlat pstS
        obtain ⟨A5, n5, c5, rfl, hn5⟩ := own_form pstS hown5
        have hr5 := hrx.below pstS hb5
        have hbz := hb5.size
        simp at hbz
        go_wp2_with (at_builtin; refine stop_intro ?_)
        refine stop_elim ?_
        refine wpList_append_rep rfl pstS pstE_ (w.heap.size + 1) (.tmp 23) (.tmp 28) rfl rfl hr5 rfl (ys := ofF c s x.unit) hs5 (fun b' hb' => ⟨(hlo5 b' hb').2, fun e => by
          have := (hlo5 b' hb').1
          have := (hro b' e).2
          simp at *
          omega⟩) (by have := HLX.out; omega) (by decide) (by omega) ?_
        intro v6 w6 hown6 hg6 hat6
        have hb6 := ((hbX.trans (hbx.mono (by omega))).trans (hb5.mono (by simp; omega))).grown hg6 (by omega) (fun j hj => (hro j hj).1)
        rw [← HT.out] at hown6
        obtain ⟨A6, n6, c6, rfl, hn6⟩ := own_form pstS hown6
        clear hg6 hat6 HT hr hrx hr5 hlen hown5 hs5
        go_wp2
        go_roundw
        case rel => exact ⟨k + 1, _, by omega, by go_num, rfl, hown6, hb6⟩
        case measure => simp [intOf]; omega
      · have HE := Lib.hid (show (c.sheets.take k).flatMap (fun x => ofF c s x.unit) = allF c s by rw [HAL.out, List.take_of_length_le (by omega)])
        rw [HE.out] at hr hlen hns
        have HSO := Lib.hid (sortPosts_c (allF c s) (.slice As ns cs) (w.heap.size + 1) wr hr (by omega))
        by_cases hbig : 65536 < (allF c s).length
        · have HBB := Lib.hid (show buildE c s = 8 by rw [HBE.out, if_pos hbig])
          have HBF := Lib.hid (show buildF c s = [] by unfold buildF; rw [HBB.out]; rfl)
          have hnb : (65536 : Int) < (ns : Int) := by have := hns.out; omega
          clear HE hbig hlen
          go_wp2
          go_ret2
          exact ⟨_, by rw [HBB.out]; rfl, by rw [HBF.out]; exact OwnRep.nil_, Br⟩
        · have HBB := Lib.hid (show buildE c s = 0 by rw [HBE.out, if_neg hbig])
          have HBF := Lib.hid (show buildF c s = sortP (allF c s) by unfold buildF; rw [if_pos HBB.out])
          have hnb : ¬ (65536 : Int) < (ns : Int) := by have := hns.out; omega
          clear HE hbig hlen
          go_wp2_with fail
          refine HSO.out.mono ?_
          rintro e w5 ⟨rfl, hown5, hg5⟩
          have hb5 := Br.trans (below_of_grown hg5 Br.size (fun j hj => by have := (hro j hj).1; omega))
          go_wp2
          go_ret2
          exact ⟨_, by rw [HBB.out]; rfl, by rw [HBF.out]; exact hown5.base_le (Nat.le_succ _), hb5⟩
  · have HBB := Lib.hid (show buildE c s = rightE c s by unfold buildE; rw [if_pos h0])
    have HBF := Lib.hid (show buildF c s = [] by unfold buildF; rw [if_neg (by rw [HBB.out]; exact h0)])
    have hn : (rightE c s != 0) = true := by simpa using h0
    clear h0
    go_enter Tryz.func20, Tryz.ntmps20
    go_wp2_with fail
    refine HR.out.mono ?_
    rintro e w1 ⟨rfl, hb1⟩
    go_wp2
    go_ret2
    exact ⟨_, by rw [HBB.out]; rfl, by rw [HBF.out]; exact OwnRep.nil_, b1.trans (hb1.mono (by simp))⟩
end Go.Proofs.YtngodakkdhdmjaaGreatDoor
