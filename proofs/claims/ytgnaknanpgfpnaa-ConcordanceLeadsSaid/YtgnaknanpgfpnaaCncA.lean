/- The program's concordance: find, fields. -/
import Derived.Test.YtgnaknanpgfpnaaData
namespace Go.Proofs.Ytgnaknanpgfpnaa
open Go.RowKit

def idxG {α : Type} (p : α → Bool) : List α → Nat → Int
  | [], _ => -1
  | x :: r, i => if p x then i else idxG p r (i + 1)
def idxF {α : Type} (p : α → Bool) (l : List α) : Int := idxG p l 0
theorem idxG_cases {α : Type} (p : α → Bool) : ∀ (l : List α) (i : Nat), (idxG p l i = -1 ∧ l.find? p = none) ∨ ∃ (k : Nat) (y : α), idxG p l i = ((i + k : Nat) : Int) ∧ l[k]? = some y ∧ p y = true ∧ l.find? p = some y
  | [], i => .inl ⟨rfl, rfl⟩
  | x :: r, i => by
    cases hx : p x
    · rcases idxG_cases p r (i + 1) with ⟨h1, h2⟩ | ⟨k, y, h1, h2, h3, h4⟩
      · exact .inl ⟨by simp [idxG, hx, h1], by simp [hx, h2]⟩
      · exact .inr ⟨k + 1, y, by simp only [idxG, hx, h1]; simp; omega, by simpa using h2, h3, by simp [hx, h4]⟩
    · exact .inr ⟨0, x, by simp [idxG, hx], rfl, hx, by simp [hx]⟩
theorem idxF_cases {α : Type} (p : α → Bool) (l : List α) : (idxF p l = -1 ∧ l.find? p = none) ∨ ∃ (k : Nat) (y : α), idxF p l = (k : Int) ∧ l[k]? = some y ∧ p y = true ∧ l.find? p = some y := by
  rcases idxG_cases p l 0 with h | ⟨k, y, h⟩
  · exact .inl h
  · exact .inr ⟨k, y, by simpa [idxF] using h⟩

set_option maxHeartbeats 1000000 in
theorem indexSt_c (ca : Addr) (p : Standing → Bool) (xs : List Standing) (v : Value) (w : World) (B : Nat) (hB : B ≤ w.heap.size) (h : Units w B xs v)
    (hp : ∀ (x : Standing) (W : World), Below w.heap.size w W → Calls Try.prog 63 #[.agg #[.int .i64 x.unit, .int .i64 x.parent, .int .i64 x.level, .string x.mark, .string x.title], .pointer (some ca)] W fun e w' => e = .returned (.bool (p x)) ∧ Below W.heap.size W w') :
    Calls Try.prog 62 #[v, .func (.func 63) #[] #[.pointer (some ca)]] w fun e w' => e = .returned (.int .i64 (idxF p xs)) ∧ Below w.heap.size w w' := by
  obtain ⟨A, c, rfl, hc1, hc2, _⟩ := id h
  have HP := Lib.hid hp
  clear hp
  have HF := Lib.hid (show idxF p xs = idxG p (xs.drop 0) 0 from rfl)
  go_enter Try.func62, Try.ntmps62
  go_wp2
  go_loopw [8] (fun i wr => ∃ k : Nat, k ≤ xs.length ∧ i = .int .i64 k ∧ Hid (idxF p xs = idxG p (xs.drop k) k) ∧ Below w.heap.size w wr) (fun i _ => xs.length - (intOf i).toNat)
  case atStart => exact ⟨0, Nat.zero_le _, rfl, HF, Below.refl _ _⟩
  case round =>
    obtain ⟨k, hk, rfl, HS, hb⟩ := hrel
    clear HF
    have hs := hb.size
    by_cases hlt : k < xs.length
    · obtain ⟨x, hx⟩ := get_at xs hlt
      have HD := Lib.hid (drop_at hx)
      obtain ⟨b, off, rfl, hbB, g0, g1, g2, g3, g4⟩ := Units.at_ (h.below stS (hb.mono hB)) hx
      have hbw : b < wr.heap.size := by omega
      clear hx
      go_wp2_with fail
      refine (HP.out x wr hb).mono ?_
      rintro e w1 ⟨rfl, hb1⟩
      cases hpx : p x
      · go_wp2
        go_roundw
        case rel => exact ⟨k + 1, by omega, by go_num, by show _ = _; rw [HS.out, HD.out]; simp [idxG, hpx], hb.trans (hb1.mono hs)⟩
        case measure => simp [intOf]; omega
      · go_wp2
        go_ret
        exact ⟨ret_int (by rw [HS.out, HD.out]; simp [idxG, hpx]), hb.trans (hb1.mono hs)⟩
    · go_wp2
      go_ret
      exact ⟨ret_int (by rw [HS.out, List.drop_of_length_le (by omega)]; rfl), hb⟩

theorem find1_c (u : Int) (cb : Nat) (x : Standing) (w : World) (hc : w.cell? ⟨cb, 0, none⟩ = some (.int .i64 u)) (hcb : cb < w.heap.size) :
    Calls Try.prog 63 #[.agg #[.int .i64 x.unit, .int .i64 x.parent, .int .i64 x.level, .string x.mark, .string x.title], .pointer (some ⟨cb, 0, none⟩)] w fun e w' => e = .returned (.bool (x.unit == u)) ∧ Below w.heap.size w w' := by
  go_enter Try.func63, Try.ntmps63
  go_wp2
  go_ret
  exact ⟨rfl, (by repeat' (first | refine below_drewN ?_ _ | go_grown))⟩

theorem cfind_c (u : Int) (xs : List Standing) (v : Value) (w : World) (B : Nat) (hB : B ≤ w.heap.size) (h : Units w B xs v) :
    Calls Try.prog 47 #[v, .int .i64 u] w fun e w' => e = .returned (.int .i64 (idxF (fun x : Standing => x.unit == u) xs)) ∧ Below w.heap.size w w' := by
  obtain ⟨A, c, rfl, hc1, hc2, _⟩ := id h
  have hbox : Below w.heap.size w (w.alloc (.cells #[.int .i64 u] 3)) := (Below.refl _ _).alloc (Nat.le_refl _) _
  have HC := Lib.hid (indexSt_c ⟨w.heap.size, 0, none⟩ (fun x : Standing => x.unit == u) xs _ _ B (by simp; omega) (h.below stS (hbox.mono hB)) (fun x W hW => find1_c u w.heap.size x W ((hW.cell (p := ⟨w.heap.size, 0, none⟩) (by simp)).trans (by simp)) (by have := hW.size; simp at this; omega)))
  go_enter Try.func47, Try.ntmps47
  go_wp2_with fail
  refine HC.out.mono ?_
  rintro e w1 ⟨rfl, hb1⟩
  go_wp2
  go_ret
  exact ⟨rfl, hbox.trans (hb1.mono (by simp))⟩
end Go.Proofs.Ytgnaknanpgfpnaa
