/- The program: strconv.ParseUint at base 10 and 40 bits, of at most ten bytes. -/
import Derived.Test.YtbmlnflacdockaaGreatDoorPrK
namespace Go.Proofs.YtbmlnflacdockaaGreatDoor
open Go.RowKit

/-- the number that some digits spell -/
def numG : Nat → List UInt8 → Option Nat
  | n, [] => some n
  | n, c :: r => if 48 ≤ c.toNat ∧ c.toNat ≤ 57 then numG (n * 10 + (c.toNat - 48)) r else none
theorem numG_cons (n : Nat) (c : UInt8) (r : List UInt8) : numG n (c :: r) = if 48 ≤ c.toNat ∧ c.toNat ≤ 57 then numG (n * 10 + (c.toNat - 48)) r else none := rfl
def numV : Option Nat → Value
  | some n => .tuple #[.int .u64 n, .nilIface]
  | none => .tuple #[.int .u64 0, .iface 133 (.int .i64 2)]
theorem pow_le9 {k : Nat} (h : k < 10) : 10 ^ k ≤ 1000000000 := by
  have := Nat.pow_le_pow_right (n := 10) (by omega) (show k ≤ 9 by omega)
  simpa using this
set_option maxRecDepth 100000 in
set_option maxHeartbeats 8000000 in
theorem parse_c (t : ByteArray) (h0 : 0 < t.size) (h10 : t.size ≤ 10) (w : World) :
    Calls Tryz.prog 102 #[.string t, .int .i64 10, .int .i64 40] w fun e w' => e = .returned (numV (numG 0 t.data.toList)) ∧ Below w.heap.size w w' := by
  have hemp : t.toList.isEmpty = false := by
    rw [str_empty, decide_eq_false_iff_not]
    omega
  have hcv := Lib.run_convert_string_bytes (P := Tryz.prog) w 9 103 5 t (u := .string) Tryz.underlying9 Tryz.underlying103 Tryz.underlying5
  have hB : ∀ j, j < t.size → (Lib.bytesWorld w 5 t).cell? ⟨w.heap.size, j, none⟩ = some (.int .u8 (t.data.toList.getD j 0).toNat) := fun j hj => Lib.bytesWorld_cell w 5 t j hj
  have hBw := Lib.bytesWorld_below w 5 t
  generalize (Lib.bytesWorld w 5 t) = W1 at *
  have hLn : t.data.toList.length = t.size := by rw [Lib.size_eq]
  generalize t.data.toList = bs at *
  have hmv : IntKind.u64.wrap (IntKind.u64.wrap 1099511627776 - 1) = 1099511627775 := by
    rw [IntKind.wrap_u64, IntKind.wrap_u64]
    decide
  go_enter Tryz.func102, Tryz.ntmps102
  go_wp2
  go_loop [12, 13, 101] (fun vu vn vi => ∃ (k acc : Nat) (a : Int), vu = .bool false ∧ vn = .int .u64 a ∧ vi = .int .i64 k ∧ k ≤ t.size ∧ Hid (a = (acc : Int) ∧ acc < 10 ^ k ∧ numG 0 bs = numG acc (bs.drop k))) (fun _ _ vi => t.size - (intOf vi).toNat)
  case atStart => exact ⟨0, 0, 0, rfl, rfl, rfl, by omega, Lib.hid ⟨rfl, by simp, rfl⟩⟩
  case round =>
    obtain ⟨k, acc, a, rfl, rfl, rfl, hk, hh0⟩ := hrel
    have hh := Lib.hid hh0.out.2
    have haa : a = (acc : Int) := hh0.out.1
    have a0 : 0 ≤ a := by omega
    clear hh0
    by_cases hkn : k < t.size
    · have hc := hB k hkn
      obtain ⟨c, hx⟩ := get_at bs (show k < bs.length by omega)
      have hget : bs.getD k 0 = c := by rw [List.getD_eq_getElem?_getD, hx]; rfl
      rw [hget] at hc
      have HN := Lib.hid (show numG 0 bs = if 48 ≤ c.toNat ∧ c.toNat ≤ 57 then numG (acc * 10 + (c.toNat - 48)) (bs.drop (k + 1)) else none by rw [hh.out.2, drop_at hx, numG_cons])
      have ha : acc < 1000000000 := Nat.lt_of_lt_of_le hh.out.1 (pow_le9 (by omega))
      have hc256 : c.toNat < 256 := c.toNat_lt
      clear hget hx
      by_cases hdig : 48 ≤ c.toNat ∧ c.toNat ≤ 57
      · have HM := Lib.hid (show acc * 10 + (c.toNat - 48) < 10 ^ (k + 1) ∧ numG 0 bs = numG (acc * 10 + (c.toNat - 48)) (bs.drop (k + 1)) from ⟨by have := hh.out.1; rw [Nat.pow_succ]; omega, by rw [HN.out, if_pos hdig]⟩)
        have HA := Lib.hid (show a * 10 + ((c.toNat : Int) - 48) = ((acc * 10 + (c.toNat - 48) : Nat) : Int) by omega)
        obtain ⟨hd0, hd1⟩ := hdig
        have a1 : a ≤ 1000000000 := by omega
        have iov : a * 10 + ((c.toNat : Int) - 48) ≤ 1099511627775 := by omega
        clear hh HN hB ha haa
        go_wp2
        refine ⟨⟨k + 1, acc * 10 + (c.toNat - 48), a * 10 + ((c.toNat : Int) - 48), rfl, (by first | rfl | (congr 1; omega)), (by first | rfl | (congr 1; omega)), by omega, Lib.hid ⟨HA.out, HM.out⟩⟩, by simp [intOf]; omega⟩
      · have HM := Lib.hid (show numG 0 bs = none by rw [HN.out, if_neg hdig])
        have a1 : a ≤ 1000000000 := by omega
        clear hh HN hB ha haa
        have hv0 := bits_lo_u8 .or (c.toNat : Int) 32
        have hv1 := bits_hi_u8 .or (c.toNat : Int) 32
        have hu0 := bits_lo_u8 .or 95 32
        have hu1 := bits_hi_u8 .or 95 32
        go_wp2_with (go_at_call 114; refine (Tryz.internal_strconv_lower _ _).mono ?_; rintro e w' ⟨rfl, rfl⟩)
        all_goals go_ret2
        all_goals exact ⟨by rw [HM.out]; rfl, hBw⟩
    · have HM := Lib.hid (show numG 0 bs = some acc by rw [hh.out.2, List.drop_eq_nil_of_le (by omega)]; rfl)
      subst haa
      clear hB a0
      go_wp2
      go_ret2
      exact ⟨by rw [HM.out]; rfl, hBw⟩
open Go.RowKit

/-- the variable strconv.ErrSyntax is laid -/
def SynOk (w : World) : Prop := 2 < w.heap.size ∧ ∃ ev, w.cell? ⟨2, 0, none⟩ = some ev ∧ (ev = .nilIface ∨ ∃ te pe, ev = .iface te pe)
theorem SynOk.below {w w' : World} {B : Nat} (h : SynOk w) (hB : 2 < B) (hb : Below B w w') : SynOk w' := by
  obtain ⟨h1, ev, h2, h3⟩ := h
  exact ⟨Nat.lt_of_lt_of_le h1 hb.size, ev, (hb.cell (p := ⟨2, 0, none⟩) hB).trans h2, h3⟩
set_option maxRecDepth 100000 in
set_option maxHeartbeats 4000000 in
theorem uint_c (t : ByteArray) (h0 : 0 < t.size) (h10 : t.size ≤ 10) (w : World) (hS : SynOk w) :
    Calls Tryz.prog 96 #[.string t, .int .i64 10, .int .i64 40] w fun e w' => (∃ (n : Nat) (ve : Value), e = .returned (.tuple #[.int .u64 n, ve]) ∧ ((ve = .nilIface ∧ numG 0 t.data.toList = some n) ∨ (∃ N, ve = .iface 135 (.pointer (some ⟨N, 0, none⟩))) ∧ numG 0 t.data.toList = none)) ∧ Below w.heap.size w w' := by
  have HP := parse_c t h0 h10 w
  have HS := Lib.hid hS
  clear hS
  cases hn : numG 0 t.data.toList with
  | some n =>
    rw [hn] at HP
    simp only [numV] at HP
    have HP := Lib.hid HP
    go_enter Tryz.func96, Tryz.ntmps96
    go_wp2_with fail
    refine HP.out.mono ?_
    rintro e w1 ⟨rfl, hb1⟩
    go_wp2
    go_ret2
    exact ⟨⟨n, _, rfl, .inl ⟨rfl, rfl⟩⟩, hb1⟩
  | none =>
    rw [hn] at HP
    simp only [numV] at HP
    have HP := Lib.hid HP
    have HE : Hid (∀ w1 : World, Below w.heap.size w w1 → Calls Tryz.prog 103 #[.string ⟨#[80, 97, 114, 115, 101, 85, 105, 110, 116]⟩, .string t, .int .i64 10, .int .i64 40, .iface 133 (.int .i64 2)] w1 fun e w' => ∃ N, e = .returned (.iface 135 (.pointer (some ⟨N, 0, none⟩))) ∧ Below w1.heap.size w1 w') := Lib.hid (fun w1 hb => by
      obtain ⟨-, ev, hv, hev⟩ := HS.out.below HS.out.1 hb
      refine (Tryz.strconv_toError_syntax ⟨#[80, 97, 114, 115, 101, 85, 105, 110, 116]⟩ t 10 40 ev w1 (by omega) hv hev).mono ?_
      rintro e w2 ⟨N, h1, -, -, h2⟩
      exact ⟨N, h1, h2⟩)
    go_enter Tryz.func96, Tryz.ntmps96
    go_wp2_with fail
    refine HP.out.mono ?_
    rintro e w1 ⟨rfl, hb1⟩
    go_wp2_with fail
    refine (HE.out _ hb1).mono ?_
    rintro e w2 ⟨N, rfl, hb2⟩
    go_wp2
    go_ret2
    exact ⟨⟨0, _, rfl, .inr ⟨⟨N, rfl⟩, by trivial⟩⟩, hb1.trans (hb2.mono hb1.size)⟩
end Go.Proofs.YtbmlnflacdockaaGreatDoor
