/- Possible and Steps, the program's and the reference's. -/
import Derived.Test.YthabpkigflldmaaStp
namespace Go.Proofs.Ythabpkigflldmaa
open Go.RowKit

def possE (ls : List Shelf) (bs : List Box) (at_ : List Int) : Int := if startE ls bs = 0 then checkF ls bs at_ else startE ls bs
theorem start_ne {ls : List Shelf} {bs : List Box} (h : startE ls bs ≠ 0) : (startE ls bs != 0) = true ∧ (startE ls bs == 0) = false := by simp [h]
set_option maxHeartbeats 1000000 in
theorem possible_c (ls : List Shelf) (bs : List Box) (at_ : List Int) (vl vb va : Value) (w : World) (B : Nat) (hB : B ≤ w.heap.size) (hl : Shelves w B ls vl) (hbx : Boxes w B bs vb) (ha : Ints w B at_ va) :
    Calls Try.prog 30 #[vl, vb, va] w fun e w' => e = .returned (.int .i64 (possE ls bs at_)) ∧ Below w.heap.size w w' := by
  have HO := Lib.hid (open_c ls bs vl vb w B hB hl hbx)
  by_cases hst : startE ls bs = 0
  · have HP := Lib.hid (show possE ls bs at_ = checkE ls bs at_ by rw [possE, if_pos hst, check_eq hst])
    simp only [openV, hst, if_true] at HO
    have HC := Lib.hid (fun (W : World) (hW : Below w.heap.size w W) => check_c ls bs at_ vl vb va W B (Nat.le_trans hB hW.size) (hl.below shS (hW.mono hB)) (hbx.below boS (hW.mono hB)) (ha.below inS (hW.mono hB)) hst)
    clear hst
    obtain ⟨A, c, rfl, hc1, hc2, _⟩ := id hl
    obtain ⟨A', c', rfl, hd1, hd2, _⟩ := id hbx
    go_enter Try.func30, Try.ntmps30
    go_wp2_with fail
    refine HO.out.mono ?_
    rintro e w1 ⟨rfl, hb1⟩
    go_wp2_with fail
    refine (HC.out _ (hb1.alloc hb1.size _)).mono ?_
    rintro e w2 ⟨rfl, hb2⟩
    go_wp2
    go_ret
    exact ⟨ret_int HP.out.symm, (hb1.alloc hb1.size _).trans (hb2.mono (by simp; have := hb1.size; omega))⟩
  · have HP := Lib.hid (show possE ls bs at_ = startE ls bs by rw [possE, if_neg hst])
    obtain ⟨n1, n2⟩ := start_ne hst
    simp only [openV, hst, if_false] at HO
    unfold zHouse at HO
    go_enter Try.func30, Try.ntmps30
    go_wp2_with fail
    refine HO.out.mono ?_
    rintro e w1 ⟨rfl, hb1⟩
    go_wp2
    go_ret
    exact ⟨ret_int HP.out.symm, hb1.alloc hb1.size _⟩
theorem poss_zero {ls : List Shelf} {bs : List Box} {at_ : List Int} (h : possE ls bs at_ = 0) : startE ls bs = 0 ∧ Right ls bs at_ ∧ heldB ls bs at_ = true := by
  unfold possE at h
  split at h
  · rename_i hst
    unfold checkF at h
    split at h
    · cases h
    · rename_i h1
      split at h
      · cases h
      · rename_i h2
        refine ⟨hst, ⟨by simpa using h1, by simpa using h2⟩, ?_⟩
        cases hh : heldB ls bs at_
        · rw [hh] at h; cases h
        · rfl
  · rename_i hst; exact absurd h hst
theorem poss_of {ls : List Shelf} {bs : List Box} {at_ : List Int} (h1 : startE ls bs = 0) (h2 : Right ls bs at_) (h3 : heldB ls bs at_ = true) : possE ls bs at_ = 0 := by
  rw [possE, if_pos h1, checkF, if_neg (by simp [h2.1]), if_neg (by simp [h2.2]), h3]; rfl
theorem ne_bool {n : Int} (h : n ≠ 0) : (n != 0) = true ∧ (n == 0) = false := by simp [h]
def stepsV (v : Value) (n : Int) : Value := .tuple #[v, .int .i64 n]
set_option maxHeartbeats 1000000 in
theorem Steps_bad (ls : List Shelf) (bs : List Box) (at_ : List Int) (vl vb va : Value) (w : World) (B : Nat) (hB : B ≤ w.heap.size) (hl : Shelves w B ls vl) (hbx : Boxes w B bs vb) (ha : Ints w B at_ va) (hp : possE ls bs at_ ≠ 0) :
    Calls Try.prog 28 #[vl, vb, va] w fun e w' => e = .returned (.tuple #[.slice none 0 0, .int .i64 (possE ls bs at_)]) ∧ Below w.heap.size w w' := by
  have HO := Lib.hid (possible_c ls bs at_ vl vb va w B hB hl hbx ha)
  obtain ⟨n1, n2⟩ := ne_bool hp
  clear hp
  go_enter Try.func28, Try.ntmps28
  go_wp2_with fail
  refine HO.out.mono ?_
  rintro e w1 ⟨rfl, hb1⟩
  go_wp2
  go_ret2
  exact ⟨rfl, hb1⟩
set_option maxHeartbeats 1000000 in
theorem Steps_ok (ls : List Shelf) (bs : List Box) (at_ : List Int) (vl vb va : Value) (w : World) (B : Nat) (hB : B ≤ w.heap.size) (hl : Shelves w B ls vl) (hbx : Boxes w B bs vb) (ha : Ints w B at_ va) (hp : possE ls bs at_ = 0) :
    Calls Try.prog 28 #[vl, vb, va] w fun e w' => ∃ v', e = .returned (.tuple #[v', .int .i64 0]) ∧ OwnRep 3 (flat Carry.enc) 57 w.heap.size w' (stepsF ls bs at_) v' ∧ Below w.heap.size w w' := by
  have HO := Lib.hid (possible_c ls bs at_ vl vb va w B hB hl hbx ha)
  rw [hp] at HO
  obtain ⟨h1, h2, h3⟩ := poss_zero hp
  have HC := Lib.hid (fun (W : World) (hW : Below w.heap.size w W) => steps_c ls bs at_ vl vb va W B (Nat.le_trans hB hW.size) (hl.below shS (hW.mono hB)) (hbx.below boS (hW.mono hB)) (ha.below inS (hW.mono hB)) h1 h2)
  clear hp h1 h2 h3
  obtain ⟨A, c, rfl, hc1, hc2, _⟩ := id hl
  obtain ⟨A', c', rfl, hd1, hd2, _⟩ := id hbx
  go_enter Try.func28, Try.ntmps28
  go_wp2_with fail
  refine HO.out.mono ?_
  rintro e w1 ⟨rfl, hb1⟩
  go_wp2_with fail
  refine (HC.out _ hb1).mono ?_
  rintro e w2 ⟨v', rfl, hown, hb2⟩
  go_wp2
  go_ret2
  exact ⟨_, rfl, hown.base_le hb1.size, hb1.trans (hb2.mono hb1.size)⟩

set_option maxHeartbeats 2000000 in
theorem rpossible_c (ls : List Shelf) (bs : List Box) (at_ : List Int) (vl vb va : Value) (w : World) (B : Nat) (hB : B ≤ w.heap.size) (hl : Shelves w B ls vl) (hbx : Boxes w B bs vb) (ha : Ints w B at_ va) :
    Calls Try.prog 31 #[vl, vb, va] w fun e w' => e = .returned (.int .i64 (possE ls bs at_)) ∧ Below w.heap.size w w' := by
  have HO := Lib.hid (start_c ls bs vl vb w B hB hl hbx)
  by_cases hst : startE ls bs = 0
  · have HP := Lib.hid (show possE ls bs at_ = checkF ls bs at_ by rw [possE, if_pos hst])
    rw [hst] at HO
    have HX := Lib.hid (fun (u : Int) (W : World) (hW : Below w.heap.size w W) => rshIx_c u ls vl W B (Nat.le_trans hB hW.size) (hl.below shS (hW.mono hB)))
    have HH := Lib.hid (fun (W : World) (hlen : at_.length = bs.length) (hW : Below w.heap.size w W) => held_c ls bs at_ vl vb va W B (Nat.le_trans hB hW.size) (hl.below shS (hW.mono hB)) (hbx.below boS (hW.mono hB)) (ha.below inS (hW.mono hB)) hst hlen)
    clear hst
    obtain ⟨A, c, rfl, hc1, hc2, _⟩ := id hl
    obtain ⟨A', c', rfl, hd1, hd2, _⟩ := id hbx
    obtain ⟨A2, c2, rfl, he1, he2, _⟩ := id ha
    by_cases hlen : at_.length = bs.length
    · have n1 : ((at_.length : Int) != (bs.length : Int)) = false := by simp [hlen]
      have HL := Lib.hid hlen
      clear hlen
      have HN0 := Lib.hid (show notHere ls at_ = notHere ls (at_.drop 0) by simp)
      go_enter Try.func31, Try.ntmps31
      go_wp2_with fail
      refine HO.out.mono ?_
      rintro e w1 ⟨rfl, hb1⟩
      go_wp2
      go_loopw [23] (fun i wr => ∃ k : Nat, k ≤ at_.length ∧ i = .int .i64 k ∧ Hid (notHere ls at_ = notHere ls (at_.drop k)) ∧ Below w.heap.size w wr) (fun i _ => at_.length - (intOf i).toNat)
      case atStart => exact ⟨0, Nat.zero_le _, rfl, HN0, hb1⟩
      case round =>
        obtain ⟨k, hk, rfl, HN, B1⟩ := hrel
        clear HN0
        by_cases hlt : k < at_.length
        · obtain ⟨x, hx⟩ := get_at at_ hlt
          have HD := Lib.hid (drop_at hx)
          obtain ⟨b, off, rfl, hbB, g0⟩ := Ints.at_ (ha.below inS (B1.mono hB)) hx
          have hs := B1.size
          have hbw : b < wr.heap.size := by omega
          clear hx
          go_wp2_with fail
          refine (HX.out x _ B1).mono ?_
          rintro e w2 ⟨rfl, hb2⟩
          have B2 := B1.trans (hb2.mono hs)
          by_cases hneg : shIx ls x < 0
          · have HE := Lib.hid (show possE ls bs at_ = 7 by
              rw [HP.out, checkF, if_neg (by simp [HL.out]), if_pos]
              rw [HN.out, HD.out]
              simp [notHere, hneg])
            go_wp2
            go_ret
            exact ⟨ret_int HE.out.symm, B2⟩
          · have HE := Lib.hid (show notHere ls at_ = notHere ls (at_.drop (k + 1)) by
              rw [HN.out, HD.out]
              simp [notHere, hneg])
            go_wp2
            go_roundw
            case rel => exact ⟨k + 1, by omega, by go_num, HE, B2⟩
            case measure => simp [intOf]; omega
        · have HNF := Lib.hid (show notHere ls at_ = false by rw [HN.out, List.drop_of_length_le (by omega)]; rfl)
          go_wp2_with fail
          refine (HH.out _ HL.out B1).mono ?_
          rintro e w2 ⟨rfl, hb2⟩
          have B2 := B1.trans (hb2.mono B1.size)
          cases hh : heldP ls (at_.zip bs)
          · have HE := Lib.hid (show possE ls bs at_ = 11 by
              rw [HP.out, checkF, if_neg (by simp [HL.out]), if_neg (by simp [HNF.out]), heldB, hh]; rfl)
            clear hh
            go_wp2
            go_ret
            exact ⟨ret_int HE.out.symm, B2⟩
          · have HE := Lib.hid (show possE ls bs at_ = 0 by
              rw [HP.out, checkF, if_neg (by simp [HL.out]), if_neg (by simp [HNF.out]), heldB, hh]; rfl)
            clear hh
            go_wp2
            go_ret
            exact ⟨ret_int HE.out.symm, B2⟩
    · have n1 : ((at_.length : Int) != (bs.length : Int)) = true := by simp; omega
      have HE := Lib.hid (show possE ls bs at_ = 10 by rw [HP.out, checkF, if_pos hlen])
      clear hlen
      go_enter Try.func31, Try.ntmps31
      go_wp2_with fail
      refine HO.out.mono ?_
      rintro e w1 ⟨rfl, hb1⟩
      go_wp2
      go_ret
      exact ⟨ret_int HE.out.symm, hb1⟩
  · have HP := Lib.hid (show possE ls bs at_ = startE ls bs by rw [possE, if_neg hst])
    obtain ⟨n1, n2⟩ := start_ne hst
    clear hst
    go_enter Try.func31, Try.ntmps31
    go_wp2_with fail
    refine HO.out.mono ?_
    rintro e w1 ⟨rfl, hb1⟩
    go_wp2
    go_ret
    exact ⟨ret_int HP.out.symm, hb1⟩
end Go.Proofs.Ythabpkigflldmaa
