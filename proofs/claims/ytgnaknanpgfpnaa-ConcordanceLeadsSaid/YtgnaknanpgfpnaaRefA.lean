/- The reference of chapter 49, first part: Find, field, place, places, used, marks, shot, Check, At. -/
import Derived.Test.YtgnaknanpgfpnaaData
namespace Go.Proofs.Ytgnaknanpgfpnaa
open Go.RowKit

def findG (u : Int) : List Standing → Nat → Int
  | [], _ => -1
  | x :: r, i => if x.unit = u then i else findG u r (i + 1)
def findF (l : List Standing) (u : Int) : Int := findG u l 0

set_option maxHeartbeats 400000 in
theorem find_c (d u : Int) (xs : List Standing) (v : Value) (w : World) (B : Nat) (hB : B ≤ w.heap.size) (h : Units w B xs v) :
    Calls Try.prog 50 #[.agg #[.int .i64 d, v], .int .i64 u] w fun e w' => e = .returned (.int .i64 (findF xs u)) ∧ Below w.heap.size w w' := by
  obtain ⟨A, c, rfl, hc1, hc2, _⟩ := id h
  have HF := Lib.hid (show findF xs u = findG u (xs.drop 0) 0 from rfl)
  go_enter Try.func50, Try.ntmps50
  go_wp2
  go_loop [5] (fun i => ∃ k : Nat, k ≤ xs.length ∧ i = .int .i64 k ∧ Hid (findF xs u = findG u (xs.drop k) k)) (fun i => xs.length - (intOf i).toNat)
  case atStart => exact ⟨0, Nat.zero_le _, rfl, HF⟩
  case round =>
    obtain ⟨k, hk, rfl, HS⟩ := hrel
    clear HF
    by_cases hlt : k < xs.length
    · obtain ⟨x, hx⟩ := get_at xs hlt
      have HD := Lib.hid (drop_at hx)
      obtain ⟨b, off, rfl, hbB, g0, -⟩ := Units.at_ h hx
      have hbw : b < w.heap.size := by omega
      clear hx
      go_wp2
      · go_ret
        refine ⟨ret_int ?_, (Below.refl _ _).alloc (Nat.le_refl _) _⟩
        rw [HS.out, HD.out]; simp_all [findG]
      · go_round
        case rel => exact ⟨k + 1, by omega, by go_num, by show _ = _; rw [HS.out, HD.out]; simp_all [findG]⟩
        case measure => simp [intOf]; omega
    · go_wp2
      go_ret
      refine ⟨ret_int ?_, (Below.refl _ _).alloc (Nat.le_refl _) _⟩
      rw [HS.out, List.drop_of_length_le (by omega)]; rfl

def fieldE (prev : Option Standing) (u : Standing) : Int :=
  if u.unit < 1 ∨ 1073741824 < u.unit ∨ u.level < 1 ∨ 4 < u.level then 2
  else if 64 < (u.mark.size : Int) ∨ u.title.size = 0 ∨ 64 < (u.title.size : Int) then 4
  else match prev with
    | none => 0
    | some p => if u.unit ≤ p.unit then 5 else 0

set_option maxHeartbeats 1000000 in
theorem field_c (d : Int) (i : Nat) (x : Standing) (xs : List Standing) (v : Value) (w : World) (B : Nat) (hB : B ≤ w.heap.size) (h : Units w B xs v) (hx : xs[i]? = some x) :
    Calls Try.prog 53 #[.agg #[.int .i64 d, v], .int .i64 i] w fun e w' => e = .returned (.int .i64 (fieldE (if i = 0 then none else xs[i - 1]?) x)) ∧ Below w.heap.size w w' := by
  obtain ⟨A, c, rfl, hc1, hc2, _⟩ := id h
  obtain ⟨b, off, rfl, hbB, g0, g1, g2, g3, g4⟩ := Units.at_ h hx
  have hbw : b < w.heap.size := by omega
  have hlt : i < xs.length := (List.getElem?_eq_some_iff.1 hx).1
  by_cases h0 : i = 0
  · subst h0
    simp only [Nat.zero_mul, Nat.add_zero] at g0 g1 g2 g3 g4
    clear hx
    go_enter Try.func53, Try.ntmps53
    go_wp2
    rotate_left 7
    · go_quiet (fail)
      go_wp2
      go_ret
      refine ⟨ret_int ?_, (by repeat' (first | refine below_drewN ?_ _ | go_grown))⟩
      simp_all [fieldE, str_empty]; try omega
    all_goals (go_ret; refine ⟨ret_int ?_, (by repeat' (first | refine below_drewN ?_ _ | go_grown))⟩; simp_all [fieldE, str_empty])
  · obtain ⟨p, hp⟩ := get_at xs (show i - 1 < xs.length by omega)
    obtain ⟨b', off', hA, hbB', p0, -⟩ := Units.at_ h hp
    have HP := Lib.hid hp
    injection hA with hA
    injection hA with hA1 hA2
    subst hA1 hA2
    have h1 : 0 < i := by omega
    have h2 : (1 : Int) ≤ i := by omega
    clear hx hp
    go_enter Try.func53, Try.ntmps53
    go_wp2
    rotate_left 7
    · go_quiet (fail)
      go_wp2
      all_goals (go_ret; refine ⟨ret_int ?_, (by repeat' (first | refine below_drewN ?_ _ | go_grown))⟩; rw [HP.out]; simp_all [fieldE, str_empty]; try omega)
    all_goals (go_ret; refine ⟨ret_int ?_, (by repeat' (first | refine below_drewN ?_ _ | go_grown))⟩; simp_all [fieldE, str_empty])
end Go.Proofs.Ytgnaknanpgfpnaa
