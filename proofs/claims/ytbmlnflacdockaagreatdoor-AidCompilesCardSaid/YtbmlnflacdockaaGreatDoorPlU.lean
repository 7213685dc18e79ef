/- Plain: the reference's Piece is the program's unit. -/
import Derived.Test.YtbmlnflacdockaaGreatDoorPrN
namespace Go.Proofs.YtbmlnflacdockaaGreatDoor
open Go.RowKit

def pieceG : Nat → Nat → List UInt8 → Nat × Nat
  | _, _, [] => (0, 0)
  | n, i, c :: r => if 48 ≤ c.toNat ∧ c.toNat ≤ 57 then (if 1073741824 < 10 * n + (c.toNat - 48) then (0, 0) else pieceG (10 * n + (c.toNat - 48)) (i + 1) r) else if c = 93 then (n, i + 1) else (0, 0)
def pieceB (s : ByteArray) : Prop := s.size < 3 ∨ s.data.toList.getD 0 0 ≠ 91 ∨ (s.data.toList.getD 1 0).toNat < 49 ∨ 57 < (s.data.toList.getD 1 0).toNat
instance (s : ByteArray) : Decidable (pieceB s) := by unfold pieceB; infer_instance
/-- the piece that a text begins with, as the reference finds it -/
def pieceF (s : ByteArray) : Nat × Nat := if pieceB s then (0, 0) else pieceG 0 1 (s.data.toList.drop 1)
theorem numG_ge : ∀ (l : List UInt8) (n m : Nat), numG n l = some m → n * 10 ^ l.length ≤ m
  | [], n, m, h => by simp [numG] at h; subst h; simp
  | c :: r, n, m, h => by
    rw [numG_cons] at h
    split at h
    · have := numG_ge r _ m h
      refine Nat.le_trans ?_ this
      rw [List.length_cons, Nat.pow_succ, Nat.mul_comm (10 ^ r.length) 10, ← Nat.mul_assoc]
      exact Nat.mul_le_mul_right _ (by omega)
    · cases h
theorem numG_le {l : List UInt8} {n m : Nat} (h : numG n l = some m) : n ≤ m :=
  Nat.le_trans (Nat.le_mul_of_pos_right n (Nat.pow_pos (by omega))) (numG_ge l n m h)
def pieceM (n i : Nat) (l : List UInt8) : Nat × Nat := if Lib.indexByte l 93 < 0 then (0, 0) else match numG n (l.take (Lib.indexByte l 93).toNat) with
  | none => (0, 0)
  | some m => if 1073741824 < m then (0, 0) else (m, i + (Lib.indexByte l 93).toNat + 1)
theorem index_ge (c : UInt8) : ∀ l : List UInt8, -1 ≤ Lib.indexByte l c
  | [] => by rw [Lib.indexByte]; exact Int.le_refl _
  | x :: r => by
    have := index_ge c r
    rw [Lib.indexByte]
    split
    · omega
    · split <;> omega
theorem index_cons (c : UInt8) (r : List UInt8) : Lib.indexByte (c :: r) 93 = if c = 93 then 0 else if Lib.indexByte r 93 < 0 then -1 else Lib.indexByte r 93 + 1 := by
  rw [Lib.indexByte]
  by_cases h : c = 93
  · simp [h]
  · have h2 : ¬ (c == 93) = true := by simpa using h
    have h3 := index_ge 93 r
    rw [if_neg h, if_neg h2]
    by_cases h4 : Lib.indexByte r 93 < 0
    · have h5 : Lib.indexByte r 93 = -1 := by omega
      simp [h5]
    · have h5 : ¬ (Lib.indexByte r 93 == -1) = true := fun e => by
        have : Lib.indexByte r 93 = -1 := by simpa using e
        omega
      rw [if_neg h4, if_neg h5]
theorem piece_eqG : ∀ (l : List UInt8) (n i : Nat), n ≤ 1073741824 → pieceG n i l = pieceM n i l
  | [], n, i, _ => by simp [pieceG, pieceM, Lib.indexByte]
  | c :: r, n, i, hn => by
    unfold pieceG pieceM
    rw [index_cons]
    by_cases h1 : 48 ≤ c.toNat ∧ c.toNat ≤ 57
    · have hc : c ≠ 93 := fun e => by subst e; revert h1; decide
      rw [if_pos h1, if_neg hc]
      by_cases h2 : Lib.indexByte r 93 < 0
      · rw [if_pos h2, if_pos (show (-1 : Int) < 0 by decide)]
        split
        · rfl
        · rw [piece_eqG r _ _ (by omega)]
          unfold pieceM
          rw [if_pos h2]
      · rw [if_neg h2, if_neg (show ¬ (Lib.indexByte r 93 + 1 < 0) by omega)]
        obtain ⟨j, hj⟩ : ∃ j : Nat, Lib.indexByte r 93 = j := ⟨(Lib.indexByte r 93).toNat, by omega⟩
        rw [hj, show ((j : Int) + 1).toNat = j + 1 by omega, List.take_succ_cons, numG_cons, if_pos h1, Nat.mul_comm n 10]
        split
        · rename_i h3
          cases hm : numG (10 * n + (c.toNat - 48)) (r.take j) with
          | none => rfl
          | some m =>
            have := numG_le hm
            simp only
            rw [if_pos (by omega)]
        · rw [piece_eqG r _ _ (by omega)]
          unfold pieceM
          rw [if_neg h2, hj, show ((j : Nat) : Int).toNat = j by omega]
          cases hm : numG (10 * n + (c.toNat - 48)) (r.take j) with
          | none => rfl
          | some m =>
            simp only
            split
            · rfl
            · rw [show i + 1 + j + 1 = i + (j + 1) + 1 by omega]
    · rw [if_neg h1]
      by_cases hc : c = 93
      · rw [if_pos hc, if_pos hc, if_neg (by decide)]
        simp only [show (0 : Int).toNat = 0 from rfl, List.take_zero, numG]
        rw [if_neg (by omega)]
      · rw [if_neg hc, if_neg hc]
        by_cases h2 : Lib.indexByte r 93 < 0
        · rw [if_pos h2, if_pos (show (-1 : Int) < 0 by decide)]
        · rw [if_neg h2, if_neg (show ¬ (Lib.indexByte r 93 + 1 < 0) by omega)]
          rw [show (Lib.indexByte r 93 + 1).toNat = (Lib.indexByte r 93).toNat + 1 by omega, List.take_succ_cons, numG_cons, if_neg h1]
theorem piece_eq {s : ByteArray} (h : s.data.toList.getD 0 0 = 91) : pieceF s = unitF s := by
  obtain ⟨l, hl⟩ : ∃ l, s.data.toList = 91 :: l := by
    cases hs : s.data.toList with
    | nil => rw [hs] at h; simp at h
    | cons c l => rw [hs] at h; simp at h; subst h; exact ⟨l, rfl⟩
  have hsz : s.size = l.length + 1 := by
    have := congrArg List.length hl
    simpa using this
  have hE : endF s = if Lib.indexByte l 93 < 0 then -1 else Lib.indexByte l 93 + 1 := by
    unfold endF
    rw [hl, index_cons, if_neg (by decide)]
  have hM : ∀ j : Nat, endF s = (j : Int) + 1 → midF s = l.take j := by
    intro j hj
    unfold midF
    rw [hj, show ((j : Int) + 1).toNat = j + 1 by omega]
    have : (s.extract 1 (j + 1)).data.toList = (s.data.toList.drop 1).take j := by
      rw [ByteArray.data_extract, Array.toList_extract]
      simp [List.extract]
    rw [this, hl]
    rfl
  unfold pieceF unitF
  by_cases hB : pieceB s
  · rw [if_pos hB]
    by_cases h1 : endF s < 2 ∨ 11 < endF s
    · rw [if_pos h1]
    · rw [if_neg h1]
      by_cases h2 : s.data.toList.getD 1 0 = 48
      · rw [if_pos h2]
      · rw [if_neg h2]
        have hne : ¬ Lib.indexByte l 93 < 0 := fun e => by rw [hE, if_pos e] at h1; omega
        obtain ⟨j, hj⟩ : ∃ j : Nat, Lib.indexByte l 93 = j := ⟨(Lib.indexByte l 93).toNat, by omega⟩
        rw [if_neg hne, hj] at hE
        rw [hM j hE]
        have hjl := indexByte_lt l 93
        rw [hj] at hjl
        rcases l with _ | ⟨c, r⟩
        · simp at hjl; omega
        · rw [hl] at h2
          simp at h2
          unfold pieceB at hB
          rw [hl] at hB
          simp at hB hsz
          have hj1 : 1 ≤ j := by omega
          obtain ⟨j', rfl⟩ : ∃ j', j = j' + 1 := ⟨j - 1, by omega⟩
          rw [List.take_succ_cons, numG_cons]
          have hc : c.toNat ≠ 48 := fun e => h2 (by apply UInt8.toNat_inj.1; rw [e]; rfl)
          rw [if_neg (by
            simp at hjl
            omega)]
          rfl
  · rw [if_neg hB, hl]
    have hB' := hB
    unfold pieceB at hB'
    simp only [not_or, Classical.not_not, Nat.not_lt] at hB'
    obtain ⟨b1, -, b3, b4⟩ := hB'
    rw [hl] at b3 b4
    rw [List.drop_succ_cons, List.drop_zero, piece_eqG _ _ _ (by omega)]
    unfold pieceM
    rcases l with _ | ⟨c, r⟩
    · simp at hsz; omega
    · simp only [List.getD_cons_succ, List.getD_cons_zero] at b3 b4
      have hc : c ≠ 93 := fun e => by subst e; revert b4; decide
      have hd : (48 ≤ c.toNat ∧ c.toNat ≤ 57) := by omega
      have hx := index_cons c r
      rw [if_neg hc] at hx
      by_cases h2 : Lib.indexByte (c :: r) 93 < 0
      · rw [if_pos h2, if_pos (.inl (by rw [hE, if_pos h2]; decide))]
      · rw [if_neg h2]
        rw [if_neg h2] at hE
        have h3 : ¬ Lib.indexByte r 93 < 0 := fun e => by rw [if_pos e] at hx; omega
        rw [if_neg h3] at hx
        obtain ⟨j, hj⟩ : ∃ j : Nat, Lib.indexByte r 93 = j := ⟨(Lib.indexByte r 93).toNat, by omega⟩
        rw [hj] at hx
        rw [hx] at hE ⊢
        have hM' := hM (j + 1) (by rw [hE]; rfl)
        rw [if_neg (show ¬ ((91 :: c :: r : List UInt8).getD 1 0 = 48) by
          intro e
          simp at e
          subst e
          revert b3
          decide), hM', show ((j : Int) + 1).toNat = j + 1 by omega, List.take_succ_cons, numG_cons, if_pos hd]
        by_cases h11 : endF s < 2 ∨ 11 < endF s
        · rw [if_pos h11]
          cases hm : numG (0 * 10 + (c.toNat - 48)) (r.take j) with
          | none => rfl
          | some m =>
            have h5 := numG_ge _ _ _ hm
            have hjl := indexByte_lt r 93
            rw [hj] at hjl
            rw [List.length_take, show min j r.length = j by omega] at h5
            have h6 : 10 ^ 10 ≤ 10 ^ j := Nat.pow_le_pow_right (by omega) (by omega)
            have h7 : 1 * 10 ^ j ≤ (0 * 10 + (c.toNat - 48)) * 10 ^ j := Nat.mul_le_mul_right _ (by omega)
            simp only
            rw [if_pos (by omega)]
        · rw [if_neg h11]
          cases hm : numG (0 * 10 + (c.toNat - 48)) (r.take j) with
          | none => rfl
          | some m =>
            simp only [unitT]
            split
            · rfl
            · rw [hE, show ((j : Int) + 1 + 1).toNat = j + 2 by omega, show 1 + (j + 1) + 1 = j + 2 + 1 by omega]
theorem piece_zero {s : ByteArray} (h : s.data.toList.getD 0 0 ≠ 91) : pieceF s = (0, 0) := by
  unfold pieceF
  rw [if_pos (.inr (.inl h))]
end Go.Proofs.YtbmlnflacdockaaGreatDoor
