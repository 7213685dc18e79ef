/- size, start, open, Index, shelf, index. -/
import Derived.Test.YthabpkigflldmaaPlA
namespace Go.Proofs.Ythabpkigflldmaa
open Go.RowKit

theorem min_cast (s n : Nat) : (if (4097 : Int) < (s : Int) * (n : Int) then (4097 : Int) else (s : Int) * (n : Int)) = ((min (s * n) 4097 : Nat) : Int) := by
  have h2 : ((s * n : Nat) : Int) = (s : Int) * n := by simp
  rw [← h2]
  split <;> omega
set_option maxHeartbeats 1000000 in
theorem size_c (ls : List Shelf) (bs : List Box) (vl vb : Value) (w : World) (B : Nat) (hl : Shelves w B ls vl) (hb : Boxes w B bs vb) (h32 : ls.length ≤ 64) :
    Calls Try.prog 68 #[vl, vb] w fun e w' => e = .returned (.int .i64 (sizeF ls.length bs.length)) ∧ w = w' := by
  obtain ⟨A, c, rfl, hc1, hc2, _⟩ := id hl
  obtain ⟨A', c', rfl, hd1, hd2, _⟩ := id hb
  go_enter Try.func68, Try.ntmps68
  go_wp2
  go_loop [5, 8] (fun n i => ∃ k : Nat, k ≤ bs.length ∧ i = .int .i64 k ∧ n = .int .i64 (sizeF ls.length k)) (fun _ i => bs.length - (intOf i).toNat)
  case atStart => exact ⟨0, Nat.zero_le _, rfl, rfl⟩
  case round =>
    obtain ⟨k, hk, rfl, rfl⟩ := hrel
    have hz := sizeF_le ls.length k
    by_cases hlt : k < bs.length
    · have HZ := Lib.hid (show sizeF ls.length (k + 1) = min (sizeF ls.length k * ls.length) 4097 from rfl)
      obtain ⟨s, hs⟩ : ∃ s, s = sizeF ls.length k := ⟨_, rfl⟩
      rw [← hs] at hz HZ ⊢
      clear hs
      have hp : s * ls.length ≤ 4097 * 64 := Nat.mul_le_mul hz h32
      have hp2 : ((s * ls.length : Nat) : Int) = (s : Int) * ls.length := by simp
      have hp3 : (s : Int) * ls.length ≤ 262208 := by omega
      have hp4 : (0 : Int) ≤ (s : Int) * ls.length := by omega
      have HP2 := Lib.hid hp2
      clear hp2 hp
      go_wp2
      go_round
      case rel => exact ⟨k + 1, by omega, by go_num, by rw [HZ.out, min_cast]⟩
      case measure => simp [intOf]; omega
    · go_wp2
      go_ret
      obtain rfl : k = bs.length := by omega
      exact ⟨rfl, rfl⟩

def idS (id : Int) (s : Shelf) : Bool := decide (s.id = id)
def idB (id : Int) (b : Box) : Bool := decide (b.id = id)
def shIx (l : List Shelf) (id : Int) : Int := idxF (idS id) l
def bxIx (l : List Box) (id : Int) : Int := idxF (idB id) l

set_option maxHeartbeats 1000000 in
theorem rshIx_c (u : Int) (xs : List Shelf) (v : Value) (w : World) (B : Nat) (hB : B ≤ w.heap.size) (h : Shelves w B xs v) :
    Calls Try.prog 61 #[v, .int .i64 u] w fun e w' => e = .returned (.int .i64 (shIx xs u)) ∧ Below w.heap.size w w' := by
  obtain ⟨A, c, rfl, hc1, hc2, _⟩ := id h
  have HF := Lib.hid (show shIx xs u = idxG (idS u) (xs.drop 0) 0 from rfl)
  go_enter Try.func61, Try.ntmps61
  go_wp2
  go_loopw [9] (fun i wr => ∃ k : Nat, k ≤ xs.length ∧ i = .int .i64 k ∧ Hid (shIx xs u = idxG (idS u) (xs.drop k) k) ∧ Below w.heap.size w wr) (fun i _ => xs.length - (intOf i).toNat)
  case atStart => exact ⟨0, Nat.zero_le _, rfl, HF, Below.refl _ _⟩
  case round =>
    obtain ⟨k, hk, rfl, HS, hb⟩ := hrel
    clear HF
    have hs := hb.size
    by_cases hlt : k < xs.length
    · obtain ⟨x, hx⟩ := get_at xs hlt
      have HD := Lib.hid (drop_at hx)
      obtain ⟨b, off, rfl, hbB, g0, g1, g2, g3⟩ := Shelves.at_ (h.below shS (hb.mono hB)) hx
      have hbw : b < wr.heap.size := by omega
      clear hx
      by_cases hxu : x.id = u
      · have e1 : (x.id == u) = true := by simpa using hxu
        have HE := Lib.hid (show shIx xs u = k by rw [HS.out, HD.out]; simp [idxG, idS, hxu])
        clear hxu
        go_wp2
        go_ret
        exact ⟨ret_int HE.out.symm, hb.alloc hs _⟩
      · have e1 : (x.id == u) = false := by simpa using hxu
        have HE := Lib.hid (show shIx xs u = idxG (idS u) (xs.drop (k + 1)) (k + 1) by rw [HS.out, HD.out]; simp [idxG, idS, hxu])
        go_wp2
        go_roundw
        case rel => exact ⟨k + 1, by omega, by go_num, HE, hb.alloc hs _⟩
        case measure => simp [intOf]; omega
    · go_wp2
      go_ret
      exact ⟨ret_int (by rw [HS.out, List.drop_of_length_le (by omega)]; rfl), hb⟩

set_option maxHeartbeats 1000000 in
theorem rbxIx_c (u : Int) (xs : List Box) (v : Value) (w : World) (B : Nat) (hB : B ≤ w.heap.size) (h : Boxes w B xs v) :
    Calls Try.prog 64 #[v, .int .i64 u] w fun e w' => e = .returned (.int .i64 (bxIx xs u)) ∧ Below w.heap.size w w' := by
  obtain ⟨A, c, rfl, hc1, hc2, _⟩ := id h
  have HF := Lib.hid (show bxIx xs u = idxG (idB u) (xs.drop 0) 0 from rfl)
  go_enter Try.func64, Try.ntmps64
  go_wp2
  go_loopw [9] (fun i wr => ∃ k : Nat, k ≤ xs.length ∧ i = .int .i64 k ∧ Hid (bxIx xs u = idxG (idB u) (xs.drop k) k) ∧ Below w.heap.size w wr) (fun i _ => xs.length - (intOf i).toNat)
  case atStart => exact ⟨0, Nat.zero_le _, rfl, HF, Below.refl _ _⟩
  case round =>
    obtain ⟨k, hk, rfl, HS, hb⟩ := hrel
    clear HF
    have hs := hb.size
    by_cases hlt : k < xs.length
    · obtain ⟨x, hx⟩ := get_at xs hlt
      have HD := Lib.hid (drop_at hx)
      obtain ⟨b, off, vc, rfl, hbB, g0, g1, g2, g3, g4, hcv⟩ := Boxes.at_ (h.below boS (hb.mono hB)) hx
      have hbw : b < wr.heap.size := by omega
      obtain ⟨A9, c9, rfl, _⟩ := id hcv
      clear hx
      by_cases hxu : x.id = u
      · have e1 : (x.id == u) = true := by simpa using hxu
        have HE := Lib.hid (show bxIx xs u = k by rw [HS.out, HD.out]; simp [idxG, idB, hxu])
        clear hxu
        go_wp2
        go_ret
        exact ⟨ret_int HE.out.symm, hb.alloc hs _⟩
      · have e1 : (x.id == u) = false := by simpa using hxu
        have HE := Lib.hid (show bxIx xs u = idxG (idB u) (xs.drop (k + 1)) (k + 1) by rw [HS.out, HD.out]; simp [idxG, idB, hxu])
        go_wp2
        go_roundw
        case rel => exact ⟨k + 1, by omega, by go_num, HE, hb.alloc hs _⟩
        case measure => simp [intOf]; omega
    · go_wp2
      go_ret
      exact ⟨ret_int (by rw [HS.out, List.drop_of_length_le (by omega)]; rfl), hb⟩

theorem shelf1_c (u : Int) (ca : Nat) (x : Shelf) (w : World) (h0 : w.cell? ⟨ca, 0, none⟩ = some (.int .i64 u)) (hca : ca < w.heap.size) :
    Calls Try.prog 83 #[.agg #[.int .i64 x.id, .int .i64 x.rep, .int .i64 x.len, .int .i64 x.clim], .pointer (some ⟨ca, 0, none⟩)] w fun e w' => e = .returned (.bool (idS u x)) ∧ Below w.heap.size w w' := by
  go_enter Try.func83, Try.ntmps83
  go_wp2
  go_ret
  exact ⟨rfl, (by repeat' (first | refine below_drewN ?_ _ | go_grown))⟩
theorem index1_c (u : Int) (ca : Nat) (x : Box) (v : Value) (w : World) (h0 : w.cell? ⟨ca, 0, none⟩ = some (.int .i64 u)) (hca : ca < w.heap.size) (hv : ∃ A n c, v = .slice A n c) :
    Calls Try.prog 75 #[.agg #[.int .i64 x.id, .int .i64 x.width, .int .i64 x.room, .int .i64 x.clim, v], .pointer (some ⟨ca, 0, none⟩)] w fun e w' => e = .returned (.bool (idB u x)) ∧ Below w.heap.size w w' := by
  obtain ⟨A, n, c, rfl⟩ := hv
  go_enter Try.func75, Try.ntmps75
  go_wp2
  go_ret
  exact ⟨rfl, (by repeat' (first | refine below_drewN ?_ _ | go_grown))⟩
end Go.Proofs.Ythabpkigflldmaa
