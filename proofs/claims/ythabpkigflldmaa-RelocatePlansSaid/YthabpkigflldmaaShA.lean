/- Shelves of the program and of the reference; Index functions of shelves. -/
import Derived.Test.YthabpkigflldmaaLibE
namespace Go.Proofs.Ythabpkigflldmaa
open Go.RowKit

def inB (n lo hi : Int) : Bool := decide (lo ≤ n) && decide (n ≤ hi)
def shelfOk (s : Shelf) : Bool := inB s.id 1 1073741824 && inB s.rep 1 1073741824 && inB s.len 1 10000 && inB s.clim 0 7
def shelvesG : Option Shelf → List Shelf → Int
  | _, [] => 0
  | p, s :: r => if shelfOk s = false then 2 else if (p.any fun q => decide (s.id ≤ q.id)) = true then 5 else shelvesG (some s) r
def shelvesE (l : List Shelf) : Int := if 32 < l.length then 8 else shelvesG none l

theorem in_c (n lo hi : Int) (w : World) : Calls Try.prog 95 #[.int .i64 n, .int .i64 lo, .int .i64 hi] w fun e w' => e = .returned (.bool (inB n lo hi)) ∧ w = w' := by
  by_cases h1 : lo ≤ n
  · have HE := Lib.hid (show inB n lo hi = decide (n ≤ hi) by simp [inB, h1])
    go_enter Try.func95, Try.ntmps95
    go_wp2
    go_ret
    exact ⟨ret_bool HE.out.symm, rfl⟩
  · have HE := Lib.hid (show inB n lo hi = false by simp [inB, h1])
    have h1' : decide (lo ≤ n) = false := by simpa using h1
    go_enter Try.func95, Try.ntmps95
    go_wp2
    go_ret
    exact ⟨ret_bool HE.out.symm, rfl⟩

set_option maxHeartbeats 2000000 in
theorem shelves_c (xs : List Shelf) (v : Value) (w : World) (B : Nat) (hB : B ≤ w.heap.size) (h : Shelves w B xs v) :
    Calls Try.prog 76 #[v] w fun e w' => e = .returned (.int .i64 (shelvesE xs)) ∧ Below w.heap.size w w' := by
  obtain ⟨A, c, rfl, hc1, hc2, _⟩ := id h
  by_cases hl : 32 < xs.length
  · have HE := Lib.hid (show shelvesE xs = 8 by simp [shelvesE, hl])
    go_enter Try.func76, Try.ntmps76
    go_wp2
    go_ret
    exact ⟨ret_int HE.out.symm, Below.refl _ _⟩
  · have HF := Lib.hid (show shelvesE xs = shelvesG (if 0 = 0 then none else xs[0 - 1]?) (xs.drop 0) by simp [shelvesE, hl])
    go_enter Try.func76, Try.ntmps76
    go_wp2
    go_loopw [10] (fun i wr => ∃ k : Nat, k ≤ xs.length ∧ i = .int .i64 k ∧ Hid (shelvesE xs = shelvesG (if k = 0 then none else xs[k - 1]?) (xs.drop k)) ∧ Below w.heap.size w wr) (fun i _ => xs.length - (intOf i).toNat)
    case atStart => exact ⟨0, Nat.zero_le _, rfl, HF, Below.refl _ _⟩
    case round =>
      obtain ⟨k, hk, rfl, HS, hb⟩ := hrel
      clear HF
      have hs := hb.size
      by_cases hlt : k < xs.length
      · obtain ⟨x, hx⟩ := get_at xs hlt
        have HD := Lib.hid (drop_at hx)
        have hh := h.below shS (hb.mono hB)
        obtain ⟨b, off, rfl, hbB, g0, g1, g2, g3⟩ := Shelves.at_ hh hx
        have hbw : b < wr.heap.size := by omega
        have HX := Lib.hid hx
        clear hx
        have bad : inB x.id 1 1073741824 = false ∨ inB x.rep 1 1073741824 = false ∨ inB x.len 1 10000 = false ∨ inB x.clim 0 7 = false → shelvesE xs = 2 := by
          intro hbad
          rw [HS.out, HD.out, shelvesG, if_pos]
          rcases hbad with e | e | e | e <;> simp [shelfOk, e]
        have HBD := Lib.hid bad
        clear bad
        cases e0 : inB x.id 1 1073741824
        · have HE := Lib.hid (HBD.out (.inl e0))
          go_wp2_with (go_at_call 95; refine (in_c _ _ _ _).mono ?_; rintro e w' ⟨rfl, rfl⟩)
          go_ret
          exact ⟨ret_int HE.out.symm, hb.alloc hs _⟩
        cases e1 : inB x.rep 1 1073741824
        · have HE := Lib.hid (HBD.out (.inr (.inl e1)))
          go_wp2_with (go_at_call 95; refine (in_c _ _ _ _).mono ?_; rintro e w' ⟨rfl, rfl⟩)
          go_ret
          exact ⟨ret_int HE.out.symm, hb.alloc hs _⟩
        cases e2 : inB x.len 1 10000
        · have HE := Lib.hid (HBD.out (.inr (.inr (.inl e2))))
          go_wp2_with (go_at_call 95; refine (in_c _ _ _ _).mono ?_; rintro e w' ⟨rfl, rfl⟩)
          go_ret
          exact ⟨ret_int HE.out.symm, hb.alloc hs _⟩
        cases e3 : inB x.clim 0 7
        · have HE := Lib.hid (HBD.out (.inr (.inr (.inr e3))))
          go_wp2_with (go_at_call 95; refine (in_c _ _ _ _).mono ?_; rintro e w' ⟨rfl, rfl⟩)
          go_ret
          exact ⟨ret_int HE.out.symm, hb.alloc hs _⟩
        have hok : shelfOk x = true := by simp [shelfOk, e0, e1, e2, e3]
        have HO := Lib.hid hok
        clear hok HBD
        by_cases h0 : k = 0
        · subst h0
          have HE := Lib.hid (show shelvesE xs = shelvesG (if 0 + 1 = 0 then none else xs[0 + 1 - 1]?) (xs.drop (0 + 1)) by rw [HS.out, HD.out, shelvesG]; simp [HO.out, HX.out])
          simp only [Nat.zero_mul, Nat.add_zero] at g0 g1 g2 g3
          go_wp2_with (go_at_call 95; refine (in_c _ _ _ _).mono ?_; rintro e w' ⟨rfl, rfl⟩)
          go_quiet (fail)
          go_wp2
          go_roundw
          case rel => exact ⟨0 + 1, by omega, by go_num, HE, below_drewN (hb.alloc hs _) _⟩
          case measure => simp [intOf]; omega
        · obtain ⟨y, hy⟩ := get_at xs (show k - 1 < xs.length by omega)
          obtain ⟨b6, off6, hA6, hbB6, a0, -⟩ := Shelves.at_ hh hy
          injection hA6 with hA6
          injection hA6 with hA61 hA62
          subst hA61 hA62
          have hk1 : (1 : Int) ≤ k := by omega
          have hk2 : 0 < k := by omega
          have HY := Lib.hid hy
          clear hy
          by_cases hyx : x.id ≤ y.id
          · have HE := Lib.hid (show shelvesE xs = 5 by rw [HS.out, HD.out, shelvesG, if_neg h0, HY.out]; simp [HO.out, hyx])
            go_wp2_with (go_at_call 95; refine (in_c _ _ _ _).mono ?_; rintro e w' ⟨rfl, rfl⟩)
            go_quiet (fail)
            go_wp2
            go_ret
            exact ⟨ret_int HE.out.symm, below_drewN (hb.alloc hs _) _⟩
          · have HE := Lib.hid (show shelvesE xs = shelvesG (if k + 1 = 0 then none else xs[k + 1 - 1]?) (xs.drop (k + 1)) by rw [HS.out, HD.out, shelvesG, if_neg h0, HY.out]; simp [HO.out, hyx, HX.out])
            have hyx2 : decide (x.id ≤ y.id) = false := by simpa using hyx
            go_wp2_with (go_at_call 95; refine (in_c _ _ _ _).mono ?_; rintro e w' ⟨rfl, rfl⟩)
            go_quiet (fail)
            go_wp2
            go_roundw
            case rel => exact ⟨k + 1, by omega, by go_num, HE, below_drewN (hb.alloc hs _) _⟩
            case measure => simp [intOf]; omega
      · go_wp2
        go_ret
        exact ⟨ret_int (by rw [HS.out, List.drop_of_length_le (by omega)]; simp [shelvesG]), hb⟩

set_option maxHeartbeats 4000000 in
theorem rshelves_c (xs : List Shelf) (v : Value) (w : World) (B : Nat) (hB : B ≤ w.heap.size) (h : Shelves w B xs v) :
    Calls Try.prog 78 #[v] w fun e w' => e = .returned (.int .i64 (shelvesE xs)) ∧ Below w.heap.size w w' := by
  obtain ⟨A, c, rfl, hc1, hc2, _⟩ := id h
  by_cases hl : 32 < xs.length
  · have HE := Lib.hid (show shelvesE xs = 8 by simp [shelvesE, hl])
    go_enter Try.func78, Try.ntmps78
    go_wp2
    go_ret
    exact ⟨ret_int HE.out.symm, Below.refl _ _⟩
  · have HF := Lib.hid (show shelvesE xs = shelvesG (if 0 = 0 then none else xs[0 - 1]?) (xs.drop 0) by simp [shelvesE, hl])
    go_enter Try.func78, Try.ntmps78
    go_wp2
    go_loopw [10] (fun i wr => ∃ k : Nat, k ≤ xs.length ∧ i = .int .i64 k ∧ Hid (shelvesE xs = shelvesG (if k = 0 then none else xs[k - 1]?) (xs.drop k)) ∧ Below w.heap.size w wr) (fun i _ => xs.length - (intOf i).toNat)
    case atStart => exact ⟨0, Nat.zero_le _, rfl, HF, Below.refl _ _⟩
    case round =>
      obtain ⟨k, hk, rfl, HS, hb⟩ := hrel
      clear HF
      have hs := hb.size
      by_cases hlt : k < xs.length
      · obtain ⟨x, hx⟩ := get_at xs hlt
        have HD := Lib.hid (drop_at hx)
        have hh := h.below shS (hb.mono hB)
        obtain ⟨b, off, rfl, hbB, g0, g1, g2, g3⟩ := Shelves.at_ hh hx
        have hbw : b < wr.heap.size := by omega
        have HX := Lib.hid hx
        clear hx
        cases hok : shelfOk x
        · have HE := Lib.hid (show shelvesE xs = 2 by rw [HS.out, HD.out, shelvesG, if_pos hok])
          have HO := Lib.hid hok
          clear hok
          by_cases h0 : k = 0
          · subst h0
            simp only [Nat.zero_mul, Nat.add_zero] at g0 g1 g2 g3
            go_wp2
            all_goals first
              | (exfalso; have := HO.out; simp [shelfOk, inB] at this; omega)
              | (go_ret; exact ⟨ret_int HE.out.symm, hb.alloc hs _⟩)
          · go_wp2
            all_goals first
              | (exfalso; have := HO.out; simp [shelfOk, inB] at this; omega)
              | (go_ret; exact ⟨ret_int HE.out.symm, hb.alloc hs _⟩)
        have HO := Lib.hid hok
        simp only [shelfOk, inB, Bool.and_eq_true, decide_eq_true_eq] at hok
        obtain ⟨⟨⟨⟨d0, d1⟩, d2, d3⟩, d4, d5⟩, d6, d7⟩ := hok
        by_cases h0 : k = 0
        · subst h0
          have HE := Lib.hid (show shelvesE xs = shelvesG (if 0 + 1 = 0 then none else xs[0 + 1 - 1]?) (xs.drop (0 + 1)) by rw [HS.out, HD.out, shelvesG]; simp [HO.out, HX.out])
          simp only [Nat.zero_mul, Nat.add_zero] at g0 g1 g2 g3
          go_wp2
          go_quiet (fail)
          go_wp2
          go_roundw
          case rel => exact ⟨0 + 1, by omega, by go_num, HE, below_drewN (hb.alloc hs _) _⟩
          case measure => simp [intOf]; omega
        · obtain ⟨y, hy⟩ := get_at xs (show k - 1 < xs.length by omega)
          obtain ⟨b6, off6, hA6, hbB6, a0, -⟩ := Shelves.at_ hh hy
          injection hA6 with hA6
          injection hA6 with hA61 hA62
          subst hA61 hA62
          have hk1 : (1 : Int) ≤ k := by omega
          have hk2 : 0 < k := by omega
          have HY := Lib.hid hy
          clear hy
          by_cases hyx : x.id ≤ y.id
          · have HE := Lib.hid (show shelvesE xs = 5 by rw [HS.out, HD.out, shelvesG, if_neg h0, HY.out]; simp [HO.out, hyx])
            go_wp2
            all_goals (try (exfalso; omega))
            go_quiet (fail)
            go_wp2
            go_ret
            exact ⟨ret_int HE.out.symm, below_drewN (hb.alloc hs _) _⟩
          · have HE := Lib.hid (show shelvesE xs = shelvesG (if k + 1 = 0 then none else xs[k + 1 - 1]?) (xs.drop (k + 1)) by rw [HS.out, HD.out, shelvesG, if_neg h0, HY.out]; simp [HO.out, hyx, HX.out])
            have hyx2 : decide (x.id ≤ y.id) = false := by simpa using hyx
            go_wp2
            all_goals (try (exfalso; omega))
            go_quiet (fail)
            go_wp2
            go_roundw
            case rel => exact ⟨k + 1, by omega, by go_num, HE, below_drewN (hb.alloc hs _) _⟩
            case measure => simp [intOf]; omega
      · go_wp2
        go_ret
        exact ⟨ret_int (by rw [HS.out, List.drop_of_length_le (by omega)]; simp [shelvesG]), hb⟩
end Go.Proofs.Ythabpkigflldmaa
