/- The reference of chapter 49: place, places. -/
import Derived.Test.YtgnaknanpgfpnaaRefA
namespace Go.Proofs.Ytgnaknanpgfpnaa
open Go.RowKit

def findU (l : List Standing) (u : Int) : Option Standing := l.find? fun x => x.unit == u
theorem findG_cases (u : Int) : ∀ (l : List Standing) (i : Nat), (findG u l i = -1 ∧ findU l u = none) ∨ ∃ (k : Nat) (y : Standing), findG u l i = ((i + k : Nat) : Int) ∧ l[k]? = some y ∧ y.unit = u ∧ findU l u = some y
  | [], i => .inl ⟨rfl, rfl⟩
  | x :: r, i => by
    by_cases hx : x.unit = u
    · exact .inr ⟨0, x, by simp [findG, hx], rfl, hx, by simp [findU, hx]⟩
    · rcases findG_cases u r (i + 1) with ⟨h1, h2⟩ | ⟨k, y, h1, h2, h3, h4⟩
      · exact .inl ⟨by simp [findG, hx, h1], by simpa [findU, hx] using h2⟩
      · exact .inr ⟨k + 1, y, by simp only [findG, hx, if_false, h1]; congr 1; omega, by simpa using h2, h3, by simpa [findU, hx] using h4⟩
theorem findF_cases (l : List Standing) (u : Int) : (findF l u = -1 ∧ findU l u = none) ∨ ∃ (k : Nat) (y : Standing), findF l u = (k : Int) ∧ l[k]? = some y ∧ y.unit = u ∧ findU l u = some y := by
  rcases findG_cases u l 0 with h | ⟨k, y, h⟩
  · exact .inl h
  · exact .inr ⟨k, y, by simpa [findF] using h⟩

def climb (l : List Standing) : Nat → Int → Int
  | 0, _ => 17
  | f + 1, p => if p = 0 then 0 else match findU l p with
    | none => 17
    | some y => climb l f y.parent
def placeE (l : List Standing) (x : Standing) : Int := if x.parent ≠ 0 ∧ findU l x.parent = none then 7 else climb l 12 x.parent

set_option maxHeartbeats 1000000 in
theorem place_c (d : Int) (i : Nat) (x : Standing) (xs : List Standing) (v : Value) (w : World) (B : Nat) (hB : B ≤ w.heap.size) (h : Units w B xs v) (hx : xs[i]? = some x) :
    Calls Try.prog 64 #[.agg #[.int .i64 d, v], .int .i64 i] w fun e w' => e = .returned (.int .i64 (placeE xs x)) ∧ Below w.heap.size w w' := by
  obtain ⟨A, c, rfl, hc1, hc2, _⟩ := id h
  obtain ⟨b, off, rfl, hbB, -, g1, -⟩ := Units.at_ h hx
  have hbw : b < w.heap.size := by omega
  have hlt : i < xs.length := (List.getElem?_eq_some_iff.1 hx).1
  clear hx
  by_cases hp : x.parent = 0
  · have HP := Lib.hid hp
    rw [hp] at g1
    clear hp
    go_enter Try.func64, Try.ntmps64
    go_wp2
    refine wp_loop_rounds 1 ?_
    rw [rounds_succ]
    go_wp2
    go_ret
    exact ⟨ret_int (by simp [placeE, climb, HP.out]), (by repeat' (first | refine below_drewN ?_ _ | go_grown))⟩
  · have hp1 : (x.parent != 0) = true := by simpa using hp
    have hp2 : (x.parent == 0) = false := by simpa using hp
    have hbox : Below w.heap.size w (w.alloc (.cells #[.int .i64 d, .slice (some ⟨b, off, none⟩) xs.length c] 61)) := (Below.refl _ _).alloc (Nat.le_refl _) _
    have h1 := h.below stS (hbox.mono hB)
    rcases findF_cases xs x.parent with ⟨hf, hn⟩ | ⟨k, y, hf, hk, hy, hn⟩
    · have HN := Lib.hid hn
      have HC := Lib.hid (find_c d x.parent xs _ _ B (by simp; omega) h1)
      rw [hf] at HC
      clear hf hn h1
      go_enter Try.func64, Try.ntmps64
      go_wp2_with fail
      refine HC.out.mono ?_
      rintro e w' ⟨rfl, hb⟩
      go_wp2
      go_ret
      exact ⟨ret_int (by simp [placeE, hp, HN.out]), hbox.trans (hb.mono (by simp))⟩
    · have HN := Lib.hid (show placeE xs x = climb xs (12 - 0) x.parent by simp [placeE, hn])
      have HC := Lib.hid (find_c d x.parent xs _ _ B (by simp; omega) h1)
      rw [hf] at HC
      clear hf hn hk hy h1
      go_enter Try.func64, Try.ntmps64
      go_wp2_with fail
      refine HC.out.mono ?_
      rintro e w0 ⟨rfl, hb0⟩
      clear HC
      go_wp2_with fail
      go_loopw [5, 6] (fun p n wr => ∃ (m : Nat) (q : Int), m ≤ 12 ∧ n = .int .i64 m ∧ p = .int .i64 q ∧ Hid (placeE xs x = climb xs (12 - m) q) ∧ Below (w.heap.size + 1) (w.alloc (.cells #[.int .i64 d, .slice (some ⟨b, off, none⟩) xs.length c] 61)) wr) (fun _ n _ => 12 - (intOf n).toNat)
      case atStart => exact ⟨0, x.parent, by omega, rfl, rfl, HN, by simpa using hb0⟩
      case round =>
        obtain ⟨m, q, hm, rfl, rfl, HS, hb⟩ := hrel
        clear hb0 HN g1 hp hp1 hp2
        have hs := hb.size
        simp only [World.size_alloc] at hs
        have c0 : wr.cell? ⟨w.heap.size, 0, none⟩ = some (.int .i64 d) := (hb.cell (p := ⟨w.heap.size, 0, none⟩) (by simp)).trans (by simp)
        have c1 : wr.cell? ⟨w.heap.size, 1, none⟩ = some (.slice (some ⟨b, off, none⟩) xs.length c) := (hb.cell (p := ⟨w.heap.size, 1, none⟩) (by simp)).trans (by simp)
        have hB' := hbox.trans (hb.mono (Nat.le_succ _))
        have hwr := h.below stS (hB'.mono hB)
        by_cases hq : q = 0
        · subst hq
          go_wp2
          all_goals (go_ret; refine ⟨ret_int ?_, hB'⟩; rw [HS.out])
          · obtain rfl : m = 12 := by omega
            rfl
          · rw [show 12 - m = (11 - m) + 1 by omega]; simp [climb]
        · have hq1 : (q != 0) = true := by simpa using hq
          have hq2 : (q == 0) = false := by simpa using hq
          by_cases hm2 : m < 12
          · rcases findF_cases xs q with ⟨hf, hn⟩ | ⟨k, y, hf, hk, hy, hn⟩
            · have HN := Lib.hid hn
              have HC := Lib.hid (find_c d q xs _ _ B (by omega) hwr)
              rw [hf] at HC
              clear hf hn
              go_wp2_with fail
              refine HC.out.mono ?_
              rintro e w' ⟨rfl, hb'⟩
              go_wp2
              go_ret
              refine ⟨ret_int ?_, hB'.trans (hb'.mono (by omega))⟩
              rw [HS.out, show 12 - m = (11 - m) + 1 by omega]; simp [climb, HN.out, hq]
            · have HN := Lib.hid hn
              have HC := Lib.hid (find_c d q xs _ _ B (by omega) hwr)
              rw [hf] at HC
              obtain ⟨b', off', hA, -, -, y1, -⟩ := Units.at_ hwr hk
              injection hA with hA
              injection hA with hA1 hA2
              subst hA1 hA2
              have hkl : k < xs.length := (List.getElem?_eq_some_iff.1 hk).1
              clear hf hn hk hy
              go_wp2_with fail
              refine HC.out.mono ?_
              rintro e w' ⟨rfl, hb'⟩
              have d1 := (hb'.cell (p := ⟨w.heap.size, 1, none⟩) (by simp; omega)).trans c1
              have d2 := (hb'.cell (p := ⟨b, off + k * 5 + 1, none⟩) (by simp; omega)).trans y1
              go_wp2
              go_roundw
              case rel =>
                refine ⟨m + 1, y.parent, by omega, by go_num, rfl, ?_, hb.trans (hb'.mono (by omega))⟩
                show _ = _
                rw [HS.out, show 12 - m = (11 - m) + 1 by omega, show 12 - (m + 1) = 11 - m by omega]; simp [climb, HN.out, hq]
              case measure => simp [intOf]; omega
          · obtain rfl : m = 12 := by omega
            go_wp2
            go_ret
            exact ⟨ret_int (by rw [HS.out]; rfl), hB'⟩

def placesE (l : List Standing) : List Standing → Int
  | [] => 0
  | x :: r => if placeE l x ≠ 0 then placeE l x else placesE l r

set_option maxHeartbeats 1000000 in
theorem places_c (d : Int) (xs : List Standing) (v : Value) (w : World) (B : Nat) (hB : B ≤ w.heap.size) (h : Units w B xs v) :
    Calls Try.prog 54 #[.agg #[.int .i64 d, v]] w fun e w' => e = .returned (.int .i64 (placesE xs xs)) ∧ Below w.heap.size w w' := by
  obtain ⟨A, c, rfl, hc1, hc2, _⟩ := id h
  have HF := Lib.hid (show placesE xs xs = placesE xs (xs.drop 0) from rfl)
  have hbox : Below w.heap.size w (w.alloc (.cells #[.int .i64 d, .slice A xs.length c] 61)) := (Below.refl _ _).alloc (Nat.le_refl _) _
  go_enter Try.func54, Try.ntmps54
  go_wp2
  go_loopw [3] (fun i wr => ∃ k : Nat, k ≤ xs.length ∧ i = .int .i64 k ∧ Hid (placesE xs xs = placesE xs (xs.drop k)) ∧ Below (w.heap.size + 1) (w.alloc (.cells #[.int .i64 d, .slice A xs.length c] 61)) wr) (fun i _ => xs.length - (intOf i).toNat)
  case atStart => exact ⟨0, Nat.zero_le _, rfl, HF, Below.refl _ _⟩
  case round =>
    obtain ⟨k, hk, rfl, HS, hb⟩ := hrel
    clear HF
    have hs := hb.size
    simp only [World.size_alloc] at hs
    have c0 : wr.cell? ⟨w.heap.size, 0, none⟩ = some (.int .i64 d) := (hb.cell (p := ⟨w.heap.size, 0, none⟩) (by simp)).trans (by simp)
    have c1 : wr.cell? ⟨w.heap.size, 1, none⟩ = some (.slice A xs.length c) := (hb.cell (p := ⟨w.heap.size, 1, none⟩) (by simp)).trans (by simp)
    have hB' := hbox.trans (hb.mono (Nat.le_succ _))
    have hwr := h.below stS (hB'.mono hB)
    by_cases hlt : k < xs.length
    · obtain ⟨x, hx⟩ := get_at xs hlt
      have HD := Lib.hid (drop_at hx)
      have HC := Lib.hid (place_c d k x xs _ _ B (by omega) hwr hx)
      clear hx
      by_cases hp : placeE xs x = 0
      · rw [hp] at HC
        have HP := Lib.hid hp
        clear hp
        go_wp2_with fail
        refine HC.out.mono ?_
        rintro e w' ⟨rfl, hb'⟩
        go_wp2
        go_roundw
        case rel => exact ⟨k + 1, by omega, by go_num, by show _ = _; rw [HS.out, HD.out]; simp [placesE, HP.out], hb.trans (hb'.mono (by omega))⟩
        case measure => simp [intOf]; omega
      · have hp1 : (placeE xs x != 0) = true := by simpa using hp
        have hp2 : (placeE xs x == 0) = false := by simpa using hp
        go_wp2_with fail
        refine HC.out.mono ?_
        rintro e w' ⟨rfl, hb'⟩
        go_wp2
        go_ret
        exact ⟨ret_int (by rw [HS.out, HD.out]; simp [placesE, hp]), hB'.trans (hb'.mono (by omega))⟩
    · go_wp2
      go_ret
      exact ⟨ret_int (by rw [HS.out, List.drop_of_length_le (by omega)]; rfl), hB'⟩
end Go.Proofs.Ytgnaknanpgfpnaa
