/- The program's concordance: fields. -/
import Derived.Test.YtgnaknanpgfpnaaRefD
namespace Go.Proofs.Ytgnaknanpgfpnaa
open Go.RowKit

theorem fieldsE_cons (p : Option Standing) (x : Standing) (r : List Standing) : fieldsE p (x :: r) = if fieldE p x ≠ 0 then fieldE p x else fieldsE (some x) r := rfl

theorem fieldE_2 (p : Option Standing) (u : Standing) (h : u.unit < 1 ∨ 1073741824 < u.unit ∨ u.level < 1 ∨ 4 < u.level) : fieldE p u = 2 := by simp only [fieldE, if_pos h]
theorem fieldE_4 (p : Option Standing) (u : Standing) (h : ¬ (u.unit < 1 ∨ 1073741824 < u.unit ∨ u.level < 1 ∨ 4 < u.level)) (h' : 64 < (u.mark.size : Int) ∨ u.title.size = 0 ∨ 64 < (u.title.size : Int)) : fieldE p u = 4 := by simp only [fieldE, if_neg h, if_pos h']
theorem fieldE_n (u : Standing) (h : ¬ (u.unit < 1 ∨ 1073741824 < u.unit ∨ u.level < 1 ∨ 4 < u.level)) (h' : ¬ (64 < (u.mark.size : Int) ∨ u.title.size = 0 ∨ 64 < (u.title.size : Int))) : fieldE none u = 0 := by simp only [fieldE, if_neg h, if_neg h']
theorem fieldE_5 (p u : Standing) (h : ¬ (u.unit < 1 ∨ 1073741824 < u.unit ∨ u.level < 1 ∨ 4 < u.level)) (h' : ¬ (64 < (u.mark.size : Int) ∨ u.title.size = 0 ∨ 64 < (u.title.size : Int))) (h5 : u.unit ≤ p.unit) : fieldE (some p) u = 5 := by simp only [fieldE, if_neg h, if_neg h', if_pos h5]
theorem fieldE_0 (p u : Standing) (h : ¬ (u.unit < 1 ∨ 1073741824 < u.unit ∨ u.level < 1 ∨ 4 < u.level)) (h' : ¬ (64 < (u.mark.size : Int) ∨ u.title.size = 0 ∨ 64 < (u.title.size : Int))) (h5 : ¬ u.unit ≤ p.unit) : fieldE (some p) u = 0 := by simp only [fieldE, if_neg h, if_neg h', if_neg h5]

set_option maxHeartbeats 4000000 in
theorem fields_c (xs : List Standing) (v : Value) (w : World) (B : Nat) (hB : B ≤ w.heap.size) (h : Units w B xs v) :
    Calls Try.prog 35 #[v] w fun e w' => e = .returned (.int .i64 (fieldsE none xs)) ∧ Below w.heap.size w w' := by
  obtain ⟨A, c, rfl, hc1, hc2, _⟩ := id h
  have HF := Lib.hid (show fieldsE none xs = fieldsE (prevAt xs 0) (xs.drop 0) from rfl)
  go_enter Try.func35, Try.ntmps35
  go_wp2
  go_loopw [7] (fun i wr => ∃ k : Nat, k ≤ xs.length ∧ i = .int .i64 k ∧ Hid (fieldsE none xs = fieldsE (prevAt xs k) (xs.drop k)) ∧ Below w.heap.size w wr) (fun i _ => xs.length - (intOf i).toNat)
  case atStart => exact ⟨0, Nat.zero_le _, rfl, HF, Below.refl _ _⟩
  case round =>
    obtain ⟨k, hk, rfl, HS, hb⟩ := hrel
    clear HF
    have hs := hb.size
    by_cases hlt : k < xs.length
    · obtain ⟨x, hx⟩ := get_at xs hlt
      have HD := Lib.hid (drop_at hx)
      have HY := Lib.hid (show prevAt xs (k + 1) = some x by simpa [prevAt] using hx)
      have hwr := h.below stS (hb.mono hB)
      obtain ⟨b, off, rfl, hbB, g0, g1, g2, g3, g4⟩ := Units.at_ hwr hx
      have hbw : b < wr.heap.size := by omega
      clear hx
      have hx1 : Below wr.heap.size wr (wr.alloc (.cells #[.int .i64 x.unit, .int .i64 x.parent, .int .i64 x.level, .string x.mark, .string x.title] 46)) := (Below.refl _ _).alloc (Nat.le_refl _) _
      have hb' := hb.trans (hx1.mono hs)
      by_cases h0 : k = 0
      · subst h0
        simp only [Nat.zero_mul, Nat.add_zero] at g0 g1 g2 g3 g4
        have HE := Lib.hid (show fieldsE none xs = if fieldE none x ≠ 0 then fieldE none x else fieldsE (prevAt xs 1) (xs.drop 1) by rw [HS.out, HD.out, HY.out]; rfl)
        go_wp2
        rotate_left 7
        · go_quiet (fail)
          go_wp2
          go_roundw
          case rel => exact ⟨1, by omega, by go_num, by show _ = _; rw [HE.out]; first | (rw [fieldE_2 _ _ (by omega)]; rfl) | (rw [fieldE_4 _ _ (by omega) (by omega)]; rfl) | (rw [fieldE_n _ (by omega) (by omega)]; simp) | (rw [fieldE_5 _ _ (by omega) (by omega) (by omega)]; rfl) | (rw [fieldE_0 _ _ (by omega) (by omega) (by omega)]; simp), below_drewN hb' _⟩
          case measure => simp [intOf]; omega
        all_goals (go_ret; refine ⟨ret_int ?_, hb'⟩; rw [HE.out]; first | (rw [fieldE_2 _ _ (by omega)]; rfl) | (rw [fieldE_4 _ _ (by omega) (by omega)]; rfl) | (rw [fieldE_n _ (by omega) (by omega)]; simp) | (rw [fieldE_5 _ _ (by omega) (by omega) (by omega)]; rfl) | (rw [fieldE_0 _ _ (by omega) (by omega) (by omega)]; simp))
      · obtain ⟨p, hp⟩ := get_at xs (show k - 1 < xs.length by omega)
        obtain ⟨b', off', hA, hbB', p0, -⟩ := Units.at_ hwr hp
        have hpr : prevAt xs k = some p := by simpa [prevAt, h0] using hp
        injection hA with hA
        injection hA with hA1 hA2
        subst hA1 hA2
        have h1 : 0 < k := by omega
        have h2 : (1 : Int) ≤ k := by omega
        have HE := Lib.hid (show fieldsE none xs = if fieldE (some p) x ≠ 0 then fieldE (some p) x else fieldsE (prevAt xs (k + 1)) (xs.drop (k + 1)) by rw [HS.out, HD.out, HY.out, hpr]; rfl)
        clear hp hpr
        go_wp2
        rotate_left 7
        · go_quiet (fail)
          go_wp2
          · go_ret
            refine ⟨ret_int ?_, below_drewN hb' _⟩; rw [HE.out]; first | (rw [fieldE_2 _ _ (by omega)]; rfl) | (rw [fieldE_4 _ _ (by omega) (by omega)]; rfl) | (rw [fieldE_n _ (by omega) (by omega)]; simp) | (rw [fieldE_5 _ _ (by omega) (by omega) (by omega)]; rfl) | (rw [fieldE_0 _ _ (by omega) (by omega) (by omega)]; simp)
          · go_roundw
            case rel => exact ⟨k + 1, by omega, by go_num, by show _ = _; rw [HE.out]; first | (rw [fieldE_2 _ _ (by omega)]; rfl) | (rw [fieldE_4 _ _ (by omega) (by omega)]; rfl) | (rw [fieldE_n _ (by omega) (by omega)]; simp) | (rw [fieldE_5 _ _ (by omega) (by omega) (by omega)]; rfl) | (rw [fieldE_0 _ _ (by omega) (by omega) (by omega)]; simp), below_drewN hb' _⟩
            case measure => simp [intOf]; omega
        all_goals (go_ret; refine ⟨ret_int ?_, hb'⟩; rw [HE.out]; first | (rw [fieldE_2 _ _ (by omega)]; rfl) | (rw [fieldE_4 _ _ (by omega) (by omega)]; rfl) | (rw [fieldE_n _ (by omega) (by omega)]; simp) | (rw [fieldE_5 _ _ (by omega) (by omega) (by omega)]; rfl) | (rw [fieldE_0 _ _ (by omega) (by omega) (by omega)]; simp))
    · go_wp2
      go_ret
      exact ⟨ret_int (by rw [HS.out, List.drop_of_length_le (by omega)]; simp [fieldsE]), hb⟩
end Go.Proofs.Ytgnaknanpgfpnaa
