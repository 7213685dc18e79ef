/- slices.IndexFunc and slices.ContainsFunc at the closures of chapter 41. -/
import Derived.Test.YthabpkigflldmaaShA
namespace Go.Proofs.Ythabpkigflldmaa
open Go.RowKit

def idxG {α : Type} (p : α → Bool) : List α → Nat → Int
  | [], _ => -1
  | x :: r, i => if p x then i else idxG p r (i + 1)
def idxF {α : Type} (p : α → Bool) (l : List α) : Int := idxG p l 0
theorem idxG_any {α : Type} (p : α → Bool) : ∀ (l : List α) (i : Nat), decide (0 ≤ idxG p l i) = l.any p
  | [], _ => rfl
  | x :: r, i => by
    unfold idxG
    cases h : p x
    · simp [h, idxG_any p r (i + 1)]
    · simp [h]
theorem idx_any {α : Type} (p : α → Bool) (l : List α) : decide (0 ≤ idxF p l) = l.any p := idxG_any p l 0

set_option maxHeartbeats 1000000 in
theorem indexSh_c (c0 : Value) (p : Shelf → Bool) (xs : List Shelf) (v : Value) (w : World) (B : Nat) (hB : B ≤ w.heap.size) (h : SlRep 4 (flat Shelf.enc) w (fun b => b < B) xs v)
    (hp : ∀ (x : Shelf) (W : World), Below w.heap.size w W → Calls Try.prog 83 #[.agg #[.int .i64 x.id, .int .i64 x.rep, .int .i64 x.len, .int .i64 x.clim], c0] W fun e w' => e = .returned (.bool (p x)) ∧ Below W.heap.size W w') :
    Calls Try.prog 82 #[v, .func (.func 83) #[] #[c0]] w fun e w' => e = .returned (.int .i64 (idxF p xs)) ∧ Below w.heap.size w w' := by
  obtain ⟨A, c, rfl, hc1, hc2, _⟩ := id h
  have HP := Lib.hid hp
  clear hp
  have HF := Lib.hid (show idxF p xs = idxG p (xs.drop 0) 0 from rfl)
  go_enter Try.func82, Try.ntmps82
  go_wp2
  go_loopw [8] (fun i wr => ∃ k : Nat, k ≤ xs.length ∧ i = .int .i64 k ∧ Hid (idxF p xs = idxG p (xs.drop k) k) ∧ Below w.heap.size w wr) (fun i _ => xs.length - (intOf i).toNat)
  case atStart => exact ⟨0, Nat.zero_le _, rfl, HF, Below.refl _ _⟩
  case round =>
    obtain ⟨k, hk, rfl, HS, hb⟩ := hrel
    clear HF
    have hs := hb.size
    by_cases hlt : k < xs.length
    · obtain ⟨x, hx⟩ := get_at xs hlt
      have HD := Lib.hid (drop_at hx)
      obtain ⟨b, off, rfl, hbB, g0, g1, g2, g3⟩ := Shelves.at_ (h.below shS (hb.mono hB)) hx
      have hbw : b < wr.heap.size := by omega
      clear hx
      go_wp2_with fail
      refine (HP.out x wr hb).mono ?_
      rintro e w1 ⟨rfl, hb1⟩
      cases hpx : p x
      · go_wp2
        go_roundw
        case rel => exact ⟨k + 1, by omega, by go_num, by show _ = _; rw [HS.out, HD.out]; simp [idxG, hpx], hb.trans (hb1.mono hs)⟩
        case measure => simp [intOf]; omega
      · go_wp2
        go_ret
        exact ⟨ret_int (by rw [HS.out, HD.out]; simp [idxG, hpx]), hb.trans (hb1.mono hs)⟩
    · go_wp2
      go_ret
      exact ⟨ret_int (by rw [HS.out, List.drop_of_length_le (by omega)]; rfl), hb⟩

set_option maxHeartbeats 1000000 in
theorem indexBx_c (c0 : Value) (p : Box → Bool) (xs : List Box) (v : Value) (w : World) (B : Nat) (hB : B ≤ w.heap.size) (h : SlRep 5 boxR w (fun b => b < B) xs v)
    (hp : ∀ (x : Box) (vc : Value) (W : World), Below w.heap.size w W → (∃ A n c, vc = .slice A n c) → Calls Try.prog 75 #[.agg #[.int .i64 x.id, .int .i64 x.width, .int .i64 x.room, .int .i64 x.clim, vc], c0] W fun e w' => e = .returned (.bool (p x)) ∧ Below W.heap.size W w') :
    Calls Try.prog 74 #[v, .func (.func 75) #[] #[c0]] w fun e w' => e = .returned (.int .i64 (idxF p xs)) ∧ Below w.heap.size w w' := by
  obtain ⟨A, c, rfl, hc1, hc2, _⟩ := id h
  have HP := Lib.hid hp
  clear hp
  have HF := Lib.hid (show idxF p xs = idxG p (xs.drop 0) 0 from rfl)
  go_enter Try.func74, Try.ntmps74
  go_wp2
  go_loopw [8] (fun i wr => ∃ k : Nat, k ≤ xs.length ∧ i = .int .i64 k ∧ Hid (idxF p xs = idxG p (xs.drop k) k) ∧ Below w.heap.size w wr) (fun i _ => xs.length - (intOf i).toNat)
  case atStart => exact ⟨0, Nat.zero_le _, rfl, HF, Below.refl _ _⟩
  case round =>
    obtain ⟨k, hk, rfl, HS, hb⟩ := hrel
    clear HF
    have hs := hb.size
    by_cases hlt : k < xs.length
    · obtain ⟨x, hx⟩ := get_at xs hlt
      have HD := Lib.hid (drop_at hx)
      obtain ⟨b, off, vc, rfl, hbB, g0, g1, g2, g3, g4, hcv⟩ := Boxes.at_ (h.below boS (hb.mono hB)) hx
      have hbw : b < wr.heap.size := by omega
      clear hx
      go_wp2_with fail
      refine (HP.out x vc wr hb (have ⟨_, _, e9, _⟩ := hcv; ⟨_, _, _, e9⟩)).mono ?_
      rintro e w1 ⟨rfl, hb1⟩
      cases hpx : p x
      · go_wp2
        go_roundw
        case rel => exact ⟨k + 1, by omega, by go_num, by show _ = _; rw [HS.out, HD.out]; simp [idxG, hpx], hb.trans (hb1.mono hs)⟩
        case measure => simp [intOf]; omega
      · go_wp2
        go_ret
        exact ⟨ret_int (by rw [HS.out, HD.out]; simp [idxG, hpx]), hb.trans (hb1.mono hs)⟩
    · go_wp2
      go_ret
      exact ⟨ret_int (by rw [HS.out, List.drop_of_length_le (by omega)]; rfl), hb⟩

set_option maxHeartbeats 1000000 in
theorem indexCo_c (p : Content → Bool) (xs : List Content) (v : Value) (w : World) (B : Nat) (hB : B ≤ w.heap.size) (h : SlRep 2 (flat Content.enc) w (fun b => b < B) xs v)
    (hp : ∀ (x : Content) (W : World), Below w.heap.size w W → Calls Try.prog 106 #[.agg #[.int .i64 x.unit, .int .i64 x.thick]] W fun e w' => e = .returned (.bool (p x)) ∧ Below W.heap.size W w') :
    Calls Try.prog 112 #[v, .func (.func 106) #[] #[]] w fun e w' => e = .returned (.int .i64 (idxF p xs)) ∧ Below w.heap.size w w' := by
  obtain ⟨A, c, rfl, hc1, hc2, _⟩ := id h
  have HP := Lib.hid hp
  clear hp
  have HF := Lib.hid (show idxF p xs = idxG p (xs.drop 0) 0 from rfl)
  go_enter Try.func112, Try.ntmps112
  go_wp2
  go_loopw [8] (fun i wr => ∃ k : Nat, k ≤ xs.length ∧ i = .int .i64 k ∧ Hid (idxF p xs = idxG p (xs.drop k) k) ∧ Below w.heap.size w wr) (fun i _ => xs.length - (intOf i).toNat)
  case atStart => exact ⟨0, Nat.zero_le _, rfl, HF, Below.refl _ _⟩
  case round =>
    obtain ⟨k, hk, rfl, HS, hb⟩ := hrel
    clear HF
    have hs := hb.size
    by_cases hlt : k < xs.length
    · obtain ⟨x, hx⟩ := get_at xs hlt
      have HD := Lib.hid (drop_at hx)
      obtain ⟨b, off, rfl, hbB, g0, g1⟩ := Contents.at_ (h.below coS (hb.mono hB)) hx
      have hbw : b < wr.heap.size := by omega
      clear hx
      go_wp2_with fail
      refine (HP.out x wr hb).mono ?_
      rintro e w1 ⟨rfl, hb1⟩
      cases hpx : p x
      · go_wp2
        go_roundw
        case rel => exact ⟨k + 1, by omega, by go_num, by show _ = _; rw [HS.out, HD.out]; simp [idxG, hpx], hb.trans (hb1.mono hs)⟩
        case measure => simp [intOf]; omega
      · go_wp2
        go_ret
        exact ⟨ret_int (by rw [HS.out, HD.out]; simp [idxG, hpx]), hb.trans (hb1.mono hs)⟩
    · go_wp2
      go_ret
      exact ⟨ret_int (by rw [HS.out, List.drop_of_length_le (by omega)]; rfl), hb⟩
theorem containsCo_c (p : Content → Bool) (xs : List Content) (v : Value) (w : World) (B : Nat) (hB : B ≤ w.heap.size) (h : SlRep 2 (flat Content.enc) w (fun b => b < B) xs v)
    (hp : ∀ (x : Content) (W : World), Below w.heap.size w W → Calls Try.prog 106 #[.agg #[.int .i64 x.unit, .int .i64 x.thick]] W fun e w' => e = .returned (.bool (p x)) ∧ Below W.heap.size W w') :
    Calls Try.prog 105 #[v, .func (.func 106) #[] #[]] w fun e w' => e = .returned (.bool (xs.any p)) ∧ Below w.heap.size w w' := by
  have HI := Lib.hid (indexCo_c p xs v w B hB h hp)
  obtain ⟨A, c, rfl, hc1, hc2, _⟩ := id h
  have HE := Lib.hid (idx_any p xs)
  clear hp
  go_enter Try.func105, Try.ntmps105
  go_wp2_with fail
  refine HI.out.mono ?_
  rintro e w1 ⟨rfl, hb1⟩
  go_wp2
  go_ret
  exact ⟨ret_bool HE.out, hb1⟩

set_option maxHeartbeats 1000000 in
theorem indexStA_c (p : (List Int) → Bool) (xs : List (List Int)) (v : Value) (w : World) (B : Nat) (hB : B ≤ w.heap.size) (h : SlRep 1 stateR w (fun b => b < B) xs v)
    (hp : ∀ (x : (List Int)) (vs : Value) (W : World), Below w.heap.size w W → Ints W B x vs → Calls Try.prog 21 #[vs] W fun e w' => e = .returned (.bool (p x)) ∧ Below W.heap.size W w') :
    Calls Try.prog 52 #[v, .func (.func 21) #[] #[]] w fun e w' => e = .returned (.int .i64 (idxF p xs)) ∧ Below w.heap.size w w' := by
  obtain ⟨A, c, rfl, hc1, hc2, _⟩ := id h
  have HP := Lib.hid hp
  clear hp
  have HF := Lib.hid (show idxF p xs = idxG p (xs.drop 0) 0 from rfl)
  go_enter Try.func52, Try.ntmps52
  go_wp2
  go_loopw [8] (fun i wr => ∃ k : Nat, k ≤ xs.length ∧ i = .int .i64 k ∧ Hid (idxF p xs = idxG p (xs.drop k) k) ∧ Below w.heap.size w wr) (fun i _ => xs.length - (intOf i).toNat)
  case atStart => exact ⟨0, Nat.zero_le _, rfl, HF, Below.refl _ _⟩
  case round =>
    obtain ⟨k, hk, rfl, HS, hb⟩ := hrel
    clear HF
    have hs := hb.size
    by_cases hlt : k < xs.length
    · obtain ⟨x, hx⟩ := get_at xs hlt
      have HD := Lib.hid (drop_at hx)
      obtain ⟨b, off, vs, rfl, hbB, g0, hcv⟩ := States.at_ (h.below saS (hb.mono hB)) hx
      have hbw : b < wr.heap.size := by omega
      clear hx
      go_wp2_with fail
      refine (HP.out x vs wr hb hcv).mono ?_
      rintro e w1 ⟨rfl, hb1⟩
      cases hpx : p x
      · go_wp2
        go_roundw
        case rel => exact ⟨k + 1, by omega, by go_num, by show _ = _; rw [HS.out, HD.out]; simp [idxG, hpx], hb.trans (hb1.mono hs)⟩
        case measure => simp [intOf]; omega
      · go_wp2
        go_ret
        exact ⟨ret_int (by rw [HS.out, HD.out]; simp [idxG, hpx]), hb.trans (hb1.mono hs)⟩
    · go_wp2
      go_ret
      exact ⟨ret_int (by rw [HS.out, List.drop_of_length_le (by omega)]; rfl), hb⟩
theorem containsStA_c (p : (List Int) → Bool) (xs : List (List Int)) (v : Value) (w : World) (B : Nat) (hB : B ≤ w.heap.size) (h : SlRep 1 stateR w (fun b => b < B) xs v)
    (hp : ∀ (x : (List Int)) (vs : Value) (W : World), Below w.heap.size w W → Ints W B x vs → Calls Try.prog 21 #[vs] W fun e w' => e = .returned (.bool (p x)) ∧ Below W.heap.size W w') :
    Calls Try.prog 20 #[v, .func (.func 21) #[] #[]] w fun e w' => e = .returned (.bool (xs.any p)) ∧ Below w.heap.size w w' := by
  have HI := Lib.hid (indexStA_c p xs v w B hB h hp)
  obtain ⟨A, c, rfl, hc1, hc2, _⟩ := id h
  have HE := Lib.hid (idx_any p xs)
  clear hp
  go_enter Try.func20, Try.ntmps20
  go_wp2_with fail
  refine HI.out.mono ?_
  rintro e w1 ⟨rfl, hb1⟩
  go_wp2
  go_ret
  exact ⟨ret_bool HE.out, hb1⟩

set_option maxHeartbeats 1000000 in
theorem indexStB_c (p : (List Int) → Bool) (xs : List (List Int)) (v : Value) (w : World) (B : Nat) (hB : B ≤ w.heap.size) (h : SlRep 1 stateR w (fun b => b < B) xs v)
    (hp : ∀ (x : (List Int)) (vs : Value) (W : World), Below w.heap.size w W → Ints W B x vs → Calls Try.prog 25 #[vs] W fun e w' => e = .returned (.bool (p x)) ∧ Below W.heap.size W w') :
    Calls Try.prog 52 #[v, .func (.func 25) #[] #[]] w fun e w' => e = .returned (.int .i64 (idxF p xs)) ∧ Below w.heap.size w w' := by
  obtain ⟨A, c, rfl, hc1, hc2, _⟩ := id h
  have HP := Lib.hid hp
  clear hp
  have HF := Lib.hid (show idxF p xs = idxG p (xs.drop 0) 0 from rfl)
  go_enter Try.func52, Try.ntmps52
  go_wp2
  go_loopw [8] (fun i wr => ∃ k : Nat, k ≤ xs.length ∧ i = .int .i64 k ∧ Hid (idxF p xs = idxG p (xs.drop k) k) ∧ Below w.heap.size w wr) (fun i _ => xs.length - (intOf i).toNat)
  case atStart => exact ⟨0, Nat.zero_le _, rfl, HF, Below.refl _ _⟩
  case round =>
    obtain ⟨k, hk, rfl, HS, hb⟩ := hrel
    clear HF
    have hs := hb.size
    by_cases hlt : k < xs.length
    · obtain ⟨x, hx⟩ := get_at xs hlt
      have HD := Lib.hid (drop_at hx)
      obtain ⟨b, off, vs, rfl, hbB, g0, hcv⟩ := States.at_ (h.below saS (hb.mono hB)) hx
      have hbw : b < wr.heap.size := by omega
      clear hx
      go_wp2_with fail
      refine (HP.out x vs wr hb hcv).mono ?_
      rintro e w1 ⟨rfl, hb1⟩
      cases hpx : p x
      · go_wp2
        go_roundw
        case rel => exact ⟨k + 1, by omega, by go_num, by show _ = _; rw [HS.out, HD.out]; simp [idxG, hpx], hb.trans (hb1.mono hs)⟩
        case measure => simp [intOf]; omega
      · go_wp2
        go_ret
        exact ⟨ret_int (by rw [HS.out, HD.out]; simp [idxG, hpx]), hb.trans (hb1.mono hs)⟩
    · go_wp2
      go_ret
      exact ⟨ret_int (by rw [HS.out, List.drop_of_length_le (by omega)]; rfl), hb⟩
theorem containsStB_c (p : (List Int) → Bool) (xs : List (List Int)) (v : Value) (w : World) (B : Nat) (hB : B ≤ w.heap.size) (h : SlRep 1 stateR w (fun b => b < B) xs v)
    (hp : ∀ (x : (List Int)) (vs : Value) (W : World), Below w.heap.size w W → Ints W B x vs → Calls Try.prog 25 #[vs] W fun e w' => e = .returned (.bool (p x)) ∧ Below W.heap.size W w') :
    Calls Try.prog 20 #[v, .func (.func 25) #[] #[]] w fun e w' => e = .returned (.bool (xs.any p)) ∧ Below w.heap.size w w' := by
  have HI := Lib.hid (indexStB_c p xs v w B hB h hp)
  obtain ⟨A, c, rfl, hc1, hc2, _⟩ := id h
  have HE := Lib.hid (idx_any p xs)
  clear hp
  go_enter Try.func20, Try.ntmps20
  go_wp2_with fail
  refine HI.out.mono ?_
  rintro e w1 ⟨rfl, hb1⟩
  go_wp2
  go_ret
  exact ⟨ret_bool HE.out, hb1⟩

set_option maxHeartbeats 1000000 in
theorem indexStC_c (c0 : Value) (p : (List Int) → Bool) (xs : List (List Int)) (v : Value) (w : World) (B : Nat) (hB : B ≤ w.heap.size) (h : SlRep 1 stateR w (fun b => b < B) xs v)
    (hp : ∀ (x : (List Int)) (vs : Value) (W : World), Below w.heap.size w W → Ints W B x vs → Calls Try.prog 26 #[vs, c0] W fun e w' => e = .returned (.bool (p x)) ∧ Below W.heap.size W w') :
    Calls Try.prog 52 #[v, .func (.func 26) #[] #[c0]] w fun e w' => e = .returned (.int .i64 (idxF p xs)) ∧ Below w.heap.size w w' := by
  obtain ⟨A, c, rfl, hc1, hc2, _⟩ := id h
  have HP := Lib.hid hp
  clear hp
  have HF := Lib.hid (show idxF p xs = idxG p (xs.drop 0) 0 from rfl)
  go_enter Try.func52, Try.ntmps52
  go_wp2
  go_loopw [8] (fun i wr => ∃ k : Nat, k ≤ xs.length ∧ i = .int .i64 k ∧ Hid (idxF p xs = idxG p (xs.drop k) k) ∧ Below w.heap.size w wr) (fun i _ => xs.length - (intOf i).toNat)
  case atStart => exact ⟨0, Nat.zero_le _, rfl, HF, Below.refl _ _⟩
  case round =>
    obtain ⟨k, hk, rfl, HS, hb⟩ := hrel
    clear HF
    have hs := hb.size
    by_cases hlt : k < xs.length
    · obtain ⟨x, hx⟩ := get_at xs hlt
      have HD := Lib.hid (drop_at hx)
      obtain ⟨b, off, vs, rfl, hbB, g0, hcv⟩ := States.at_ (h.below saS (hb.mono hB)) hx
      have hbw : b < wr.heap.size := by omega
      clear hx
      go_wp2_with fail
      refine (HP.out x vs wr hb hcv).mono ?_
      rintro e w1 ⟨rfl, hb1⟩
      cases hpx : p x
      · go_wp2
        go_roundw
        case rel => exact ⟨k + 1, by omega, by go_num, by show _ = _; rw [HS.out, HD.out]; simp [idxG, hpx], hb.trans (hb1.mono hs)⟩
        case measure => simp [intOf]; omega
      · go_wp2
        go_ret
        exact ⟨ret_int (by rw [HS.out, HD.out]; simp [idxG, hpx]), hb.trans (hb1.mono hs)⟩
    · go_wp2
      go_ret
      exact ⟨ret_int (by rw [HS.out, List.drop_of_length_le (by omega)]; rfl), hb⟩
theorem containsStC_c (c0 : Value) (p : (List Int) → Bool) (xs : List (List Int)) (v : Value) (w : World) (B : Nat) (hB : B ≤ w.heap.size) (h : SlRep 1 stateR w (fun b => b < B) xs v)
    (hp : ∀ (x : (List Int)) (vs : Value) (W : World), Below w.heap.size w W → Ints W B x vs → Calls Try.prog 26 #[vs, c0] W fun e w' => e = .returned (.bool (p x)) ∧ Below W.heap.size W w') :
    Calls Try.prog 20 #[v, .func (.func 26) #[] #[c0]] w fun e w' => e = .returned (.bool (xs.any p)) ∧ Below w.heap.size w w' := by
  have HI := Lib.hid (indexStC_c c0 p xs v w B hB h hp)
  obtain ⟨A, c, rfl, hc1, hc2, _⟩ := id h
  have HE := Lib.hid (idx_any p xs)
  clear hp
  go_enter Try.func20, Try.ntmps20
  go_wp2_with fail
  refine HI.out.mono ?_
  rintro e w1 ⟨rfl, hb1⟩
  go_wp2
  go_ret
  exact ⟨ret_bool HE.out, hb1⟩

set_option maxHeartbeats 1000000 in
theorem indexStD_c (c0 : Value) (p : (List Int) → Bool) (xs : List (List Int)) (v : Value) (w : World) (B : Nat) (hB : B ≤ w.heap.size) (h : SlRep 1 stateR w (fun b => b < B) xs v)
    (hp : ∀ (x : (List Int)) (vs : Value) (W : World), Below w.heap.size w W → Ints W B x vs → Calls Try.prog 54 #[vs, c0] W fun e w' => e = .returned (.bool (p x)) ∧ Below W.heap.size W w') :
    Calls Try.prog 52 #[v, .func (.func 54) #[] #[c0]] w fun e w' => e = .returned (.int .i64 (idxF p xs)) ∧ Below w.heap.size w w' := by
  obtain ⟨A, c, rfl, hc1, hc2, _⟩ := id h
  have HP := Lib.hid hp
  clear hp
  have HF := Lib.hid (show idxF p xs = idxG p (xs.drop 0) 0 from rfl)
  go_enter Try.func52, Try.ntmps52
  go_wp2
  go_loopw [8] (fun i wr => ∃ k : Nat, k ≤ xs.length ∧ i = .int .i64 k ∧ Hid (idxF p xs = idxG p (xs.drop k) k) ∧ Below w.heap.size w wr) (fun i _ => xs.length - (intOf i).toNat)
  case atStart => exact ⟨0, Nat.zero_le _, rfl, HF, Below.refl _ _⟩
  case round =>
    obtain ⟨k, hk, rfl, HS, hb⟩ := hrel
    clear HF
    have hs := hb.size
    by_cases hlt : k < xs.length
    · obtain ⟨x, hx⟩ := get_at xs hlt
      have HD := Lib.hid (drop_at hx)
      obtain ⟨b, off, vs, rfl, hbB, g0, hcv⟩ := States.at_ (h.below saS (hb.mono hB)) hx
      have hbw : b < wr.heap.size := by omega
      clear hx
      go_wp2_with fail
      refine (HP.out x vs wr hb hcv).mono ?_
      rintro e w1 ⟨rfl, hb1⟩
      cases hpx : p x
      · go_wp2
        go_roundw
        case rel => exact ⟨k + 1, by omega, by go_num, by show _ = _; rw [HS.out, HD.out]; simp [idxG, hpx], hb.trans (hb1.mono hs)⟩
        case measure => simp [intOf]; omega
      · go_wp2
        go_ret
        exact ⟨ret_int (by rw [HS.out, HD.out]; simp [idxG, hpx]), hb.trans (hb1.mono hs)⟩
    · go_wp2
      go_ret
      exact ⟨ret_int (by rw [HS.out, List.drop_of_length_le (by omega)]; rfl), hb⟩
theorem containsStD_c (c0 : Value) (p : (List Int) → Bool) (xs : List (List Int)) (v : Value) (w : World) (B : Nat) (hB : B ≤ w.heap.size) (h : SlRep 1 stateR w (fun b => b < B) xs v)
    (hp : ∀ (x : (List Int)) (vs : Value) (W : World), Below w.heap.size w W → Ints W B x vs → Calls Try.prog 54 #[vs, c0] W fun e w' => e = .returned (.bool (p x)) ∧ Below W.heap.size W w') :
    Calls Try.prog 20 #[v, .func (.func 54) #[] #[c0]] w fun e w' => e = .returned (.bool (xs.any p)) ∧ Below w.heap.size w w' := by
  have HI := Lib.hid (indexStD_c c0 p xs v w B hB h hp)
  obtain ⟨A, c, rfl, hc1, hc2, _⟩ := id h
  have HE := Lib.hid (idx_any p xs)
  clear hp
  go_enter Try.func20, Try.ntmps20
  go_wp2_with fail
  refine HI.out.mono ?_
  rintro e w1 ⟨rfl, hb1⟩
  go_wp2
  go_ret
  exact ⟨ret_bool HE.out, hb1⟩
end Go.Proofs.Ythabpkigflldmaa
