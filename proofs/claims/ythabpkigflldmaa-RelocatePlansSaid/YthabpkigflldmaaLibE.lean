/- Equality of lists of ints and of steps, the order of states; Index functions at any closure. -/
import Derived.Test.YthabpkigflldmaaLib
namespace Go.Proofs.Ythabpkigflldmaa
open Go.RowKit

theorem SlRep.drewN {α : Type} {k : Nat} {R : CRep α} {w : World} {F : Nat → Prop} {xs : List α} {v : Value} (hR : Shape k R) (h : SlRep k R w F xs v) (n : Nat) : SlRep k R (w.drewN n) F xs v := SlRep.frame (w := w) hR (fun _ _ => rfl) h
theorem below_of_drew {w w' : World} (B : Nat) (h : ∃ n, w' = w.drewN n) : Below B w w' := by
  obtain ⟨n, rfl⟩ := h
  exact below_drewN (Below.refl _ _) n
instance : DecidableEq Carry := fun x y => by
  cases x; cases y
  exact decidable_of_iff _ (Carry.mk.injEq ..).symm.to_iff
def eqC (x y : Carry) : Bool := decide (x.box = y.box) && decide (x.from_ = y.from_) && decide (x.to_ = y.to_)
theorem eqC_iff (x y : Carry) : eqC x y = true ↔ x = y := by
  cases x; cases y
  simp [eqC, and_assoc]
def eqL {α : Type} (e : α → α → Bool) : List α → List α → Bool
  | [], [] => true
  | x :: r, y :: s => e x y && eqL e r s
  | _, _ => false
theorem eqL_iff {α : Type} {e : α → α → Bool} (he : ∀ x y, e x y = true ↔ x = y) : ∀ a b : List α, eqL e a b = true ↔ a = b
  | [], [] => by simp [eqL]
  | [], _ :: _ => by simp [eqL]
  | _ :: _, [] => by simp [eqL]
  | x :: r, y :: s => by simp [eqL, he, eqL_iff he r s]
theorem eqL_len {α : Type} (e : α → α → Bool) : ∀ a b : List α, a.length ≠ b.length → eqL e a b = false
  | [], [], h => by simp at h
  | [], _ :: _, _ => rfl
  | _ :: _, [], _ => rfl
  | x :: r, y :: s, h => by rw [eqL, eqL_len e r s (by simpa using h), Bool.and_false]
theorem quiet_add {P : Program} {f : FuncId} {args : Array Value} {w : World} {a n : Nat} {v : Value}
    (h : Calls P f args (w.drewN (a + n)) fun e w' => e = .returned v ∧ ∃ m, w' = (w.drewN (a + n)).drewN m) :
    Calls P f args (w.drewN (a + n)) fun e w'' => e = .returned v ∧ ∃ m, w'' = w.drewN (a + m) :=
  h.mono fun _ _ ⟨he, m, hm⟩ => ⟨he, n + m, by rw [hm, World.drewN_drewN, Nat.add_assoc]⟩
def eqI (x y : Int) : Bool := decide (x = y)
def eqIs (x y : List Int) : Bool := eqL eqI x y
theorem eqI_iff (x y : Int) : eqI x y = true ↔ x = y := by simp [eqI]
theorem eqIs_iff (x y : List Int) : eqIs x y = true ↔ x = y := eqL_iff eqI_iff x y

set_option maxHeartbeats 1000000 in
theorem equalI_c (xs ys : List Int) (v v' : Value) (w : World) (B : Nat) (hB : B ≤ w.heap.size) (h : SlRep 1 (flat intEnc) w (fun b => b < B) xs v) (h' : SlRep 1 (flat intEnc) w (fun b => b < B) ys v') :
    Calls Try.prog 27 #[v, v'] w fun e w' => e = .returned (.bool (eqL eqI xs ys)) ∧ ∃ n, w' = w.drewN n := by
  obtain ⟨A, c, rfl, hc1, hc2, _⟩ := id h
  obtain ⟨A', c', rfl, hd1, hd2, _⟩ := id h'
  by_cases hl : xs.length = ys.length
  · have HL := Lib.hid hl
    have hl1 : ((xs.length : Int) != (ys.length : Int)) = false := by simp [hl]
    have hl2 : ((xs.length : Int) == (ys.length : Int)) = true := by simp [hl]
    have hl3 : (xs.length : Int) ≤ ys.length := by omega
    clear hl
    have HF := Lib.hid (show eqL eqI xs ys = eqL eqI (xs.drop 0) (ys.drop 0) from rfl)
    go_enter Try.func27, Try.ntmps27
    go_wp2
    go_loopw [13] (fun i wr => ∃ k : Nat, k ≤ xs.length ∧ i = .int .i64 k ∧ Hid (eqL eqI xs ys = eqL eqI (xs.drop k) (ys.drop k)) ∧ ∃ n, wr = w.drewN n) (fun i _ => xs.length - (intOf i).toNat)
    case atStart => exact ⟨0, Nat.zero_le _, rfl, HF, 0, rfl⟩
    case round =>
      obtain ⟨k, hk, rfl, HS, nd, rfl⟩ := hrel
      clear HF
      by_cases hlt : k < xs.length
      · have hlt' : k < ys.length := by have := HL.out; omega
        obtain ⟨x, hx⟩ := get_at xs hlt
        obtain ⟨y, hy⟩ := get_at ys hlt'
        have HD := Lib.hid (drop_at hx)
        have HD' := Lib.hid (drop_at hy)
        obtain ⟨b, off, rfl, hbB, g0⟩ := Ints.at_ h hx
        obtain ⟨b', off', rfl, hbB', q0⟩ := Ints.at_ h' hy
        have hbw : b < w.heap.size := by omega
        have hbw' : b' < w.heap.size := by omega
        clear hx hy hl1 hl2
        have _t := trivial
        cases he : eqI x y
        · have HE := Lib.hid (show eqL eqI xs ys = false by rw [HS.out, HD.out, HD'.out]; simp [eqL, he])
          have e1 : (x == y) = false := by simpa [eqI] using he
          have e2 : (x != y) = true := by simpa [eqI] using he
          clear he
          go_wp2
          go_quiet (fail)
          go_wp2
          go_ret
          exact ⟨ret_bool HE.out.symm, _, World.drewN_drewN _ _ _⟩
        · have HE := Lib.hid (show eqL eqI xs ys = eqL eqI (xs.drop (k + 1)) (ys.drop (k + 1)) by rw [HS.out, HD.out, HD'.out]; simp [eqL, he])
          have e1 : (x == y) = true := by simpa [eqI] using he
          have e2 : (x != y) = false := by simpa [eqI] using he
          clear he
          go_wp2
          go_quiet (fail)
          go_wp2
          go_roundw
          case rel => exact ⟨k + 1, by omega, by go_num, HE, _, rfl⟩
          case measure => simp [intOf]; omega
      · go_wp2
        go_ret
        exact ⟨ret_bool (by rw [HS.out, List.drop_of_length_le (by omega), List.drop_of_length_le (by have := HL.out; omega)]; rfl), _, rfl⟩
  · have HE := Lib.hid (eqL_len eqI xs ys hl)
    have hl1 : ((xs.length : Int) != (ys.length : Int)) = true := by simpa using fun h => hl (by omega)
    have hl2 : ((xs.length : Int) == (ys.length : Int)) = false := by simpa using fun h => hl (by omega)
    go_enter Try.func27, Try.ntmps27
    go_wp2
    go_ret
    exact ⟨ret_bool HE.out.symm, 0, rfl⟩

set_option maxHeartbeats 1000000 in
theorem requal_c (xs ys : List Int) (v v' : Value) (w : World) (B : Nat) (hB : B ≤ w.heap.size) (h : SlRep 1 (flat intEnc) w (fun b => b < B) xs v) (h' : SlRep 1 (flat intEnc) w (fun b => b < B) ys v') :
    Calls Try.prog 51 #[v, v'] w fun e w' => e = .returned (.bool (eqL eqI xs ys)) ∧ ∃ n, w' = w.drewN n := by
  obtain ⟨A, c, rfl, hc1, hc2, _⟩ := id h
  obtain ⟨A', c', rfl, hd1, hd2, _⟩ := id h'
  by_cases hl : xs.length = ys.length
  · have HL := Lib.hid hl
    have hl1 : ((xs.length : Int) != (ys.length : Int)) = false := by simp [hl]
    have hl2 : ((xs.length : Int) == (ys.length : Int)) = true := by simp [hl]
    have hl3 : (xs.length : Int) ≤ ys.length := by omega
    clear hl
    have HF := Lib.hid (show eqL eqI xs ys = eqL eqI (xs.drop 0) (ys.drop 0) from rfl)
    go_enter Try.func51, Try.ntmps51
    go_wp2
    go_loopw [13] (fun i wr => ∃ k : Nat, k ≤ xs.length ∧ i = .int .i64 k ∧ Hid (eqL eqI xs ys = eqL eqI (xs.drop k) (ys.drop k)) ∧ ∃ n, wr = w.drewN n) (fun i _ => xs.length - (intOf i).toNat)
    case atStart => exact ⟨0, Nat.zero_le _, rfl, HF, 0, rfl⟩
    case round =>
      obtain ⟨k, hk, rfl, HS, nd, rfl⟩ := hrel
      clear HF
      by_cases hlt : k < xs.length
      · have hlt' : k < ys.length := by have := HL.out; omega
        obtain ⟨x, hx⟩ := get_at xs hlt
        obtain ⟨y, hy⟩ := get_at ys hlt'
        have HD := Lib.hid (drop_at hx)
        have HD' := Lib.hid (drop_at hy)
        obtain ⟨b, off, rfl, hbB, g0⟩ := Ints.at_ h hx
        obtain ⟨b', off', rfl, hbB', q0⟩ := Ints.at_ h' hy
        have hbw : b < w.heap.size := by omega
        have hbw' : b' < w.heap.size := by omega
        clear hx hy hl1 hl2
        have _t := trivial
        cases he : eqI x y
        · have HE := Lib.hid (show eqL eqI xs ys = false by rw [HS.out, HD.out, HD'.out]; simp [eqL, he])
          have e1 : (x == y) = false := by simpa [eqI] using he
          have e2 : (x != y) = true := by simpa [eqI] using he
          clear he
          go_wp2
          go_quiet (fail)
          go_wp2
          go_ret
          exact ⟨ret_bool HE.out.symm, _, World.drewN_drewN _ _ _⟩
        · have HE := Lib.hid (show eqL eqI xs ys = eqL eqI (xs.drop (k + 1)) (ys.drop (k + 1)) by rw [HS.out, HD.out, HD'.out]; simp [eqL, he])
          have e1 : (x == y) = true := by simpa [eqI] using he
          have e2 : (x != y) = false := by simpa [eqI] using he
          clear he
          go_wp2
          go_quiet (fail)
          go_wp2
          go_roundw
          case rel => exact ⟨k + 1, by omega, by go_num, HE, _, rfl⟩
          case measure => simp [intOf]; omega
      · go_wp2
        go_ret
        exact ⟨ret_bool (by rw [HS.out, List.drop_of_length_le (by omega), List.drop_of_length_le (by have := HL.out; omega)]; rfl), _, rfl⟩
  · have HE := Lib.hid (eqL_len eqI xs ys hl)
    have hl1 : ((xs.length : Int) != (ys.length : Int)) = true := by simpa using fun h => hl (by omega)
    have hl2 : ((xs.length : Int) == (ys.length : Int)) = false := by simpa using fun h => hl (by omega)
    go_enter Try.func51, Try.ntmps51
    go_wp2
    go_ret
    exact ⟨ret_bool HE.out.symm, 0, rfl⟩

set_option maxHeartbeats 1000000 in
theorem same_c (xs ys : List Carry) (v v' : Value) (w : World) (B : Nat) (hB : B ≤ w.heap.size) (h : SlRep 3 (flat Carry.enc) w (fun b => b < B) xs v) (h' : SlRep 3 (flat Carry.enc) w (fun b => b < B) ys v') :
    Calls Try.prog 18 #[v, v'] w fun e w' => e = .returned (.bool (eqL eqC xs ys)) ∧ ∃ n, w' = w.drewN n := by
  obtain ⟨A, c, rfl, hc1, hc2, _⟩ := id h
  obtain ⟨A', c', rfl, hd1, hd2, _⟩ := id h'
  by_cases hl : xs.length = ys.length
  · have HL := Lib.hid hl
    have hl1 : ((xs.length : Int) != (ys.length : Int)) = false := by simp [hl]
    have hl2 : ((xs.length : Int) == (ys.length : Int)) = true := by simp [hl]
    have hl3 : (xs.length : Int) ≤ ys.length := by omega
    clear hl
    have HF := Lib.hid (show eqL eqC xs ys = eqL eqC (xs.drop 0) (ys.drop 0) from rfl)
    go_enter Try.func18, Try.ntmps18
    go_wp2
    go_loopw [13] (fun i wr => ∃ k : Nat, k ≤ xs.length ∧ i = .int .i64 k ∧ Hid (eqL eqC xs ys = eqL eqC (xs.drop k) (ys.drop k)) ∧ ∃ n, wr = w.drewN n) (fun i _ => xs.length - (intOf i).toNat)
    case atStart => exact ⟨0, Nat.zero_le _, rfl, HF, 0, rfl⟩
    case round =>
      obtain ⟨k, hk, rfl, HS, nd, rfl⟩ := hrel
      clear HF
      by_cases hlt : k < xs.length
      · have hlt' : k < ys.length := by have := HL.out; omega
        obtain ⟨x, hx⟩ := get_at xs hlt
        obtain ⟨y, hy⟩ := get_at ys hlt'
        have HD := Lib.hid (drop_at hx)
        have HD' := Lib.hid (drop_at hy)
        obtain ⟨b, off, rfl, hbB, g0, g1, g2⟩ := Carries.at_ h hx
        obtain ⟨b', off', rfl, hbB', q0, q1, q2⟩ := Carries.at_ h' hy
        have hbw : b < w.heap.size := by omega
        have hbw' : b' < w.heap.size := by omega
        clear hx hy hl1 hl2
        have hne := fun W : World => Carry.neq x y W
        cases he : eqC x y
        · have HE := Lib.hid (show eqL eqC xs ys = false by rw [HS.out, HD.out, HD'.out]; simp [eqL, he])
          rw [show (decide (x.box = y.box) && decide (x.from_ = y.from_) && decide (x.to_ = y.to_)) = false from he] at hne; simp only [Bool.not_false] at hne
          clear he
          go_wp2
          go_quiet (fail)
          go_wp2
          go_ret
          exact ⟨ret_bool HE.out.symm, _, World.drewN_drewN _ _ _⟩
        · have HE := Lib.hid (show eqL eqC xs ys = eqL eqC (xs.drop (k + 1)) (ys.drop (k + 1)) by rw [HS.out, HD.out, HD'.out]; simp [eqL, he])
          rw [show (decide (x.box = y.box) && decide (x.from_ = y.from_) && decide (x.to_ = y.to_)) = true from he] at hne; simp only [Bool.not_true] at hne
          clear he
          go_wp2
          go_quiet (fail)
          go_wp2
          go_roundw
          case rel => exact ⟨k + 1, by omega, by go_num, HE, _, rfl⟩
          case measure => simp [intOf]; omega
      · go_wp2
        go_ret
        exact ⟨ret_bool (by rw [HS.out, List.drop_of_length_le (by omega), List.drop_of_length_le (by have := HL.out; omega)]; rfl), _, rfl⟩
  · have HE := Lib.hid (eqL_len eqC xs ys hl)
    have hl1 : ((xs.length : Int) != (ys.length : Int)) = true := by simpa using fun h => hl (by omega)
    have hl2 : ((xs.length : Int) == (ys.length : Int)) = false := by simpa using fun h => hl (by omega)
    go_enter Try.func18, Try.ntmps18
    go_wp2
    go_ret
    exact ⟨ret_bool HE.out.symm, 0, rfl⟩

set_option maxHeartbeats 1000000 in
theorem sameStates_c (xs ys : List (List Int)) (v v' : Value) (w : World) (B : Nat) (hB : B ≤ w.heap.size) (h : SlRep 1 stateR w (fun b => b < B) xs v) (h' : SlRep 1 stateR w (fun b => b < B) ys v') :
    Calls Try.prog 19 #[v, v'] w fun e w' => e = .returned (.bool (eqL eqIs xs ys)) ∧ ∃ n, w' = w.drewN n := by
  obtain ⟨A, c, rfl, hc1, hc2, _⟩ := id h
  obtain ⟨A', c', rfl, hd1, hd2, _⟩ := id h'
  by_cases hl : xs.length = ys.length
  · have HL := Lib.hid hl
    have hl1 : ((xs.length : Int) != (ys.length : Int)) = false := by simp [hl]
    have hl2 : ((xs.length : Int) == (ys.length : Int)) = true := by simp [hl]
    have hl3 : (xs.length : Int) ≤ ys.length := by omega
    clear hl
    have HF := Lib.hid (show eqL eqIs xs ys = eqL eqIs (xs.drop 0) (ys.drop 0) from rfl)
    go_enter Try.func19, Try.ntmps19
    go_wp2
    go_loopw [13] (fun i wr => ∃ k : Nat, k ≤ xs.length ∧ i = .int .i64 k ∧ Hid (eqL eqIs xs ys = eqL eqIs (xs.drop k) (ys.drop k)) ∧ ∃ n, wr = w.drewN n) (fun i _ => xs.length - (intOf i).toNat)
    case atStart => exact ⟨0, Nat.zero_le _, rfl, HF, 0, rfl⟩
    case round =>
      obtain ⟨k, hk, rfl, HS, nd, rfl⟩ := hrel
      clear HF
      by_cases hlt : k < xs.length
      · have hlt' : k < ys.length := by have := HL.out; omega
        obtain ⟨x, hx⟩ := get_at xs hlt
        obtain ⟨y, hy⟩ := get_at ys hlt'
        have HD := Lib.hid (drop_at hx)
        have HD' := Lib.hid (drop_at hy)
        obtain ⟨b, off, v0, rfl, hbB, g0, r0⟩ := States.at_ h hx
        obtain ⟨b', off', v1, rfl, hbB', q0, r1⟩ := States.at_ h' hy
        have hbw : b < w.heap.size := by omega
        have hbw' : b' < w.heap.size := by omega
        clear hx hy hl1 hl2
        have HQ := Lib.hid (fun m => requal_c x y _ _ (w.drewN m) B hB (r0.drewN inS m) (r1.drewN inS m))
        cases he : eqIs x y
        · have HE := Lib.hid (show eqL eqIs xs ys = false by rw [HS.out, HD.out, HD'.out]; simp [eqL, he])
          rw [show eqL eqI x y = false from he] at HQ
          clear he
          go_wp2
          go_quiet ((go_at_call 51; first | exact Calls.quiet_of (HQ.out _) | exact quiet_add (HQ.out _)))
          go_wp2
          go_ret
          exact ⟨ret_bool HE.out.symm, _, World.drewN_drewN _ _ _⟩
        · have HE := Lib.hid (show eqL eqIs xs ys = eqL eqIs (xs.drop (k + 1)) (ys.drop (k + 1)) by rw [HS.out, HD.out, HD'.out]; simp [eqL, he])
          rw [show eqL eqI x y = true from he] at HQ
          clear he
          go_wp2
          go_quiet ((go_at_call 51; first | exact Calls.quiet_of (HQ.out _) | exact quiet_add (HQ.out _)))
          go_wp2
          go_roundw
          case rel => exact ⟨k + 1, by omega, by go_num, HE, _, rfl⟩
          case measure => simp [intOf]; omega
      · go_wp2
        go_ret
        exact ⟨ret_bool (by rw [HS.out, List.drop_of_length_le (by omega), List.drop_of_length_le (by have := HL.out; omega)]; rfl), _, rfl⟩
  · have HE := Lib.hid (eqL_len eqIs xs ys hl)
    have hl1 : ((xs.length : Int) != (ys.length : Int)) = true := by simpa using fun h => hl (by omega)
    have hl2 : ((xs.length : Int) == (ys.length : Int)) = false := by simpa using fun h => hl (by omega)
    go_enter Try.func19, Try.ntmps19
    go_wp2
    go_ret
    exact ⟨ret_bool HE.out.symm, 0, rfl⟩
end Go.Proofs.Ythabpkigflldmaa
