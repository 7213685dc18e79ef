/- index, moved and less of the reference; slices.Compare. -/
import Derived.Test.YthabpkigflldmaaRst
import Derived.Test.YthabpkigflldmaaApp
namespace Go.Proofs.Ythabpkigflldmaa
open Go.RowKit

def stIx (l : List (List Int)) (x : List Int) : Int := idxF (fun y => eqL eqI y x) l
theorem Calls.below_of {P : Program} {f : FuncId} {args : Array Value} {w : World} {v : Value} (h : Calls P f args w fun e w' => e = .returned v ∧ ∃ n, w' = w.drewN n) : Calls P f args w fun e w' => e = .returned v ∧ Below w.heap.size w w' :=
  h.mono fun _ _ ⟨h1, h2⟩ => ⟨h1, below_of_drew _ h2⟩
set_option maxHeartbeats 1000000 in
theorem rindex_c (x0 : List Int) (xs : List (List Int)) (v v0 : Value) (w : World) (B : Nat) (hB : B ≤ w.heap.size) (h : States w B xs v) (h0 : Ints w B x0 v0) :
    Calls Try.prog 44 #[v, v0] w fun e w' => e = .returned (.int .i64 (stIx xs x0)) ∧ Below w.heap.size w w' := by
  have HP := Lib.hid (fun (x : List Int) (vs : Value) (W : World) (hW : Below w.heap.size w W) (hx : Ints W B x vs) => Calls.below_of (requal_c x x0 vs v0 W B (Nat.le_trans hB hW.size) hx (h0.below inS (hW.mono hB))))
  obtain ⟨A, c, rfl, hc1, hc2, _⟩ := id h
  have HF := Lib.hid (show stIx xs x0 = idxG (fun y => eqL eqI y x0) (xs.drop 0) 0 from rfl)
  go_enter Try.func44, Try.ntmps44
  go_wp2
  go_loopw [9] (fun i wr => ∃ k : Nat, k ≤ xs.length ∧ i = .int .i64 k ∧ Hid (stIx xs x0 = idxG (fun y => eqL eqI y x0) (xs.drop k) k) ∧ Below w.heap.size w wr) (fun i _ => xs.length - (intOf i).toNat)
  case atStart => exact ⟨0, Nat.zero_le _, rfl, HF, Below.refl _ _⟩
  case round =>
    obtain ⟨k, hk, rfl, HS, hb⟩ := hrel
    clear HF
    have hs := hb.size
    by_cases hlt : k < xs.length
    · obtain ⟨x, hx⟩ := get_at xs hlt
      have HD := Lib.hid (drop_at hx)
      obtain ⟨b, off, vs, rfl, hbB, g0, hcv⟩ := States.at_ (h.below saS (hb.mono hB)) hx
      have hbw : b < wr.heap.size := by omega
      clear hx
      go_wp2_with fail
      refine (HP.out x vs wr hb hcv).mono ?_
      rintro e w1 ⟨rfl, hb1⟩
      cases hpx : eqL eqI x x0
      · go_wp2
        go_roundw
        case rel => exact ⟨k + 1, by omega, by go_num, by show _ = _; rw [HS.out, HD.out]; simp [idxG, hpx], hb.trans (hb1.mono hs)⟩
        case measure => simp [intOf]; omega
      · go_wp2
        go_ret
        exact ⟨ret_int (by rw [HS.out, HD.out]; simp [idxG, hpx]), hb.trans (hb1.mono hs)⟩
    · go_wp2
      go_ret
      exact ⟨ret_int (by rw [HS.out, List.drop_of_length_le (by omega)]; rfl), hb⟩
set_option maxRecDepth 10000 in
set_option maxHeartbeats 2000000 in
theorem moved_c (bs : List Box) (at_ : List Int) (c : Carry) (vb va : Value) (k : Nat) (w : World) (B : Nat) (hB : B ≤ w.heap.size) (hbx : Boxes w B bs vb) (ha : Ints w B at_ va) (hk : bxIx bs c.box = (k : Int)) (hkl : k < at_.length) (hn : at_.length ≤ 100000) :
    Calls Try.prog 46 #[vb, va, .agg #[.int .i64 c.box, .int .i64 c.from_, .int .i64 c.to_]] w fun e w' => ∃ v', e = .returned v' ∧ OwnRep 1 (flat intEnc) 3 w.heap.size w' (movedF bs at_ c) v' ∧ Below w.heap.size w w' := by
  have HM := Lib.hid (moved_at (at_ := at_) hk)
  rw [HM.out]
  have b0 : Below w.heap.size w (w.alloc (carryC c)) := (Below.refl _ _).alloc (Nat.le_refl _) _
  have HIX := Lib.hid (fun (W : World) (hW : Below w.heap.size w W) => rbxIx_c c.box bs vb W B (Nat.le_trans hB hW.size) (hbx.below boS (hW.mono hB)))
  rw [hk] at HIX
  have HWI := Lib.hid (fun (W : World) (hW : Below w.heap.size w W) => with_c at_ va k c.to_ W B (Nat.le_trans hB hW.size) (ha.below inS (hW.mono hB)) hkl hn)
  have KEEP := Lib.hid (fun (w' : World) (hW : Below (w.heap.size + 1) (w.alloc (carryC c)) w') => (⟨(hW.cell (p := ⟨w.heap.size, 0, none⟩) (by simp)).trans (by simp), (hW.cell (p := ⟨w.heap.size, 2, none⟩) (by simp)).trans (by simp)⟩ : w'.cell? ⟨w.heap.size, 0, none⟩ = some (.int .i64 c.box) ∧ w'.cell? ⟨w.heap.size, 2, none⟩ = some (.int .i64 c.to_)))
  have hbX : Below (w.heap.size + 1) (w.alloc (carryC c)) (w.alloc (carryC c)).drew := (Below.refl _ _).drew
  clear hk HM
  go_enter Try.func46, Try.ntmps46
  go_wp2
  go_region_held3 (fun w' => w'.cell? ⟨w.heap.size, 0, none⟩ = some (.int .i64 c.box) ∧ w'.cell? ⟨w.heap.size, 2, none⟩ = some (.int .i64 c.to_)) (with_reducible exact KEEP.out _ hbX) (first
    | (go_at_call 64; (with_reducible refine (HIX.out _ (b0.trans (hbX.mono (by omega)))).mono ?_); rintro e wI ⟨rfl, hb'⟩; have hbX := hbX.trans (hb'.mono (by have := hbX.size; simp only [World.size_alloc] at this; omega)))
    | (go_at_call 65; (with_reducible refine (HWI.out _ (b0.trans (hbX.mono (by omega)))).mono ?_); rintro e wC ⟨vC, rfl, hownC, hb'⟩; have kB : w.heap.size ≤ wI.heap.size := (by have := hbX.size; simp only [World.size_alloc] at this; omega); have hbX := hbX.trans (hb'.mono (by have := hbX.size; simp only [World.size_alloc] at this; omega))))
  go_wp2
  go_ret
  exact ⟨_, rfl, hownC.base_le kB, b0.trans (hbX.mono (by omega))⟩

def cmpI (a b : Int) : Int := if a < b then -1 else if b < a then 1 else 0
def cmpL : List Int → List Int → Int
  | [], [] => 0
  | [], _ :: _ => -1
  | _ :: _, [] => 1
  | a :: r, b :: s => if cmpI a b ≠ 0 then cmpI a b else cmpL r s
theorem cmpI_c (a b : Int) (w : World) : Calls Try.prog 73 #[.int .i64 a, .int .i64 b] w fun e w' => e = .returned (.int .i64 (cmpI a b)) ∧ w = w' := by
  by_cases h1 : a < b
  · have HE := Lib.hid (show cmpI a b = -1 by simp [cmpI, h1])
    go_enter Try.func73, Try.ntmps73
    go_wp2
    go_ret
    exact ⟨ret_int HE.out.symm, rfl⟩
  · by_cases h2 : b < a
    · have HE := Lib.hid (show cmpI a b = 1 by simp [cmpI, h1, h2])
      go_enter Try.func73, Try.ntmps73
      go_wp2
      go_ret
      exact ⟨ret_int HE.out.symm, rfl⟩
    · have HE := Lib.hid (show cmpI a b = 0 by simp [cmpI, h1, h2])
      go_enter Try.func73, Try.ntmps73
      go_wp2
      go_ret
      exact ⟨ret_int HE.out.symm, rfl⟩
set_option maxHeartbeats 2000000 in
theorem compare_c (xs ys : List Int) (v v' : Value) (w : World) (F : Nat → Prop) (hF : ∀ b, F b → b < w.heap.size) (h : SlRep 1 (flat intEnc) w F xs v) (h' : SlRep 1 (flat intEnc) w F ys v') :
    Calls Try.prog 49 #[v, v'] w fun e w' => e = .returned (.int .i64 (cmpL xs ys)) ∧ w = w' := by
  obtain ⟨A, c, rfl, hc1, hc2, _⟩ := id h
  obtain ⟨A', c', rfl, hd1, hd2, _⟩ := id h'
  have HF := Lib.hid (show cmpL xs ys = cmpL (xs.drop 0) (ys.drop 0) from rfl)
  go_enter Try.func49, Try.ntmps49
  go_wp2
  go_loop [11] (fun i => ∃ k : Nat, k ≤ xs.length ∧ k ≤ ys.length ∧ i = .int .i64 k ∧ Hid (cmpL xs ys = cmpL (xs.drop k) (ys.drop k))) (fun i => xs.length - (intOf i).toNat)
  case atStart => exact ⟨0, Nat.zero_le _, Nat.zero_le _, rfl, HF⟩
  case round =>
    obtain ⟨k, hk, hk', rfl, HS⟩ := hrel
    clear HF
    by_cases hlt : k < xs.length
    · obtain ⟨x, hx⟩ := get_at xs hlt
      have HD := Lib.hid (drop_at hx)
      obtain ⟨b, off, rfl, hbB, g0⟩ := Ints.at_ h hx
      have hbw := hF b hbB
      clear hx
      by_cases hlt' : k < ys.length
      · obtain ⟨y, hy⟩ := get_at ys hlt'
        have HD' := Lib.hid (drop_at hy)
        obtain ⟨b', off', rfl, hbB', q0⟩ := Ints.at_ h' hy
        have hbw' := hF b' hbB'
        have hki : (k : Int) < (ys.length : Int) := by omega
        clear hy
        go_wp2_with fail
        refine (cmpI_c x y w).mono ?_
        rintro e w1 ⟨rfl, rfl⟩
        by_cases hz : cmpI x y = 0
        · have n1 : (cmpI x y != 0) = false := by simp [hz]
          have HE := Lib.hid (show cmpL xs ys = cmpL (xs.drop (k + 1)) (ys.drop (k + 1)) by rw [HS.out, HD.out, HD'.out, cmpL, if_neg (by simpa using hz)])
          clear hz
          go_wp2
          go_round
          case rel => exact ⟨k + 1, by omega, by omega, by go_num, HE⟩
          case measure => simp [intOf]; omega
        · have n1 : (cmpI x y != 0) = true := by simpa using hz
          have HE := Lib.hid (show cmpL xs ys = cmpI x y by rw [HS.out, HD.out, HD'.out, cmpL, if_pos hz])
          clear hz
          go_wp2
          go_ret
          exact ⟨ret_int HE.out.symm, rfl⟩
      · have HE := Lib.hid (show cmpL xs ys = 1 by rw [HS.out, HD.out, List.drop_of_length_le (l := ys) (by omega)]; rfl)
        have hki : (ys.length : Int) ≤ (k : Int) := by omega
        go_wp2
        go_ret
        exact ⟨ret_int HE.out.symm, rfl⟩
    · by_cases hlt' : k < ys.length
      · obtain ⟨y, hy⟩ := get_at ys hlt'
        have HE := Lib.hid (show cmpL xs ys = -1 by rw [HS.out, List.drop_of_length_le (by omega), drop_at hy]; rfl)
        have hki : (xs.length : Int) < (ys.length : Int) := by omega
        clear hy
        go_wp2
        go_ret
        exact ⟨ret_int HE.out.symm, rfl⟩
      · have HE := Lib.hid (show cmpL xs ys = 0 by rw [HS.out, List.drop_of_length_le (by omega), List.drop_of_length_le (by omega)]; rfl)
        have hki : ¬ (xs.length : Int) < (ys.length : Int) := by omega
        go_wp2
        go_ret
        exact ⟨ret_int HE.out.symm, rfl⟩
def ltL (a b : List Int) : Bool := decide (cmpL a b < 0)
set_option maxHeartbeats 2000000 in
theorem less_c (xs ys : List Int) (v v' : Value) (w : World) (F : Nat → Prop) (hF : ∀ b, F b → b < w.heap.size) (h : SlRep 1 (flat intEnc) w F xs v) (h' : SlRep 1 (flat intEnc) w F ys v') :
    Calls Try.prog 50 #[v, v'] w fun e w' => e = .returned (.bool (ltL xs ys)) ∧ ∃ n, w' = w.drewN n := by
  obtain ⟨A, c, rfl, hc1, hc2, _⟩ := id h
  obtain ⟨A', c', rfl, hd1, hd2, _⟩ := id h'
  have HF := Lib.hid (show ltL xs ys = ltL (xs.drop 0) (ys.drop 0) from rfl)
  go_enter Try.func50, Try.ntmps50
  go_wp2
  go_loopw [5] (fun i wr => ∃ k : Nat, k ≤ xs.length ∧ k ≤ ys.length ∧ i = .int .i64 k ∧ Hid (ltL xs ys = ltL (xs.drop k) (ys.drop k)) ∧ ∃ n, wr = w.drewN n) (fun i _ => xs.length - (intOf i).toNat)
  case atStart => exact ⟨0, Nat.zero_le _, Nat.zero_le _, rfl, HF, 0, rfl⟩
  case round =>
    obtain ⟨k, hk, hk', rfl, HS, nd, rfl⟩ := hrel
    clear HF
    by_cases hlt : k < xs.length
    · obtain ⟨x, hx⟩ := get_at xs hlt
      have HD := Lib.hid (drop_at hx)
      obtain ⟨b, off, rfl, hbB, g0⟩ := Ints.at_ h hx
      have hbw := hF b hbB
      have hki0 : (k : Int) < (xs.length : Int) := by omega
      clear hx
      by_cases hlt' : k < ys.length
      · obtain ⟨y, hy⟩ := get_at ys hlt'
        have HD' := Lib.hid (drop_at hy)
        obtain ⟨b', off', rfl, hbB', q0⟩ := Ints.at_ h' hy
        have hbw' := hF b' hbB'
        have hki : (k : Int) < (ys.length : Int) := by omega
        clear hy
        by_cases hz : x = y
        · have n1 : (x != y) = false := by simp [hz]
          have HE := Lib.hid (show ltL xs ys = ltL (xs.drop (k + 1)) (ys.drop (k + 1)) by rw [HS.out, HD.out, HD'.out, ltL, cmpL, if_neg (by simp [cmpI, hz])]; rfl)
          clear hz
          go_wp2
          go_quiet (fail)
          go_wp2
          go_roundw
          case rel => exact ⟨k + 1, by omega, by omega, by go_num, HE, _, rfl⟩
          case measure => simp [intOf]; omega
        · have n1 : (x != y) = true := by simpa using hz
          have HE := Lib.hid (show ltL xs ys = decide (x < y) by
            rw [HS.out, HD.out, HD'.out, ltL, cmpL]
            rcases Int.lt_trichotomy x y with h1 | h1 | h1
            · simp [cmpI, h1]
            · exact absurd h1 hz
            · have : ¬ x < y := by omega
              simp [cmpI, h1, this])
          clear hz
          go_wp2
          go_quiet (fail)
          go_wp2
          go_quiet (fail)
          go_wp2
          go_ret
          exact ⟨ret_bool HE.out.symm, _, (congrArg (fun W => World.drewN W _) (World.drewN_drewN _ _ _)).trans (World.drewN_drewN _ _ _)⟩
      · have HE := Lib.hid (show ltL xs ys = decide (xs.length < ys.length) by
          rw [HS.out, HD.out, List.drop_of_length_le (l := ys) (by omega)]
          have : ¬ xs.length < ys.length := by omega
          simp [ltL, cmpL, this])
        have hki : ¬ (k : Int) < (ys.length : Int) := by omega
        go_wp2
        go_ret
        exact ⟨ret_bool (by rw [HE.out]), _, rfl⟩
    · have hki0 : ¬ (k : Int) < (xs.length : Int) := by omega
      have HE := Lib.hid (show ltL xs ys = decide (xs.length < ys.length) by
        rw [HS.out, List.drop_of_length_le (by omega)]
        by_cases hlt' : k < ys.length
        · obtain ⟨y, hy⟩ := get_at ys hlt'
          have : xs.length < ys.length := by omega
          rw [drop_at hy]; simp [ltL, cmpL, this]
        · have : ¬ xs.length < ys.length := by omega
          rw [List.drop_of_length_le (by omega)]; simp [ltL, cmpL, this])
      go_wp2
      go_ret
      exact ⟨ret_bool (by rw [HE.out]), _, rfl⟩
end Go.Proofs.Ythabpkigflldmaa
