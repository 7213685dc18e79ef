/- Numbers and hexadecimal digits of chapter 16: what is read is what is written. No program in it. -/
import Derived.Test.YtenaifmkejmdaaaGreatDoorPrsP
namespace Go.Proofs.YtenaifmkejmdaaaGreatDoor
open Go.RowKit

theorem decFrom_app : ∀ (l m : List UInt8) (a : Nat), Lib.decFrom a (l ++ m) = (Lib.decFrom a l).bind fun b => Lib.decFrom b m
  | [], m, a => by simp [Lib.decFrom]
  | x :: l, m, a => by
    simp only [List.cons_append, Lib.decFrom]
    cases Lib.digitVal x with
    | none => rfl
    | some d => exact decFrom_app l m _
theorem digit_at {x : UInt8} {d : Nat} (h : Lib.digitVal x = some d) : d < 10 ∧ x = UInt8.ofNat (48 + d) := by
  unfold Lib.digitVal at h
  split at h
  · rename_i hx
    injection h with h
    refine ⟨by omega, ?_⟩
    apply UInt8.toNat_inj.1
    rw [UInt8.toNat_ofNat']
    omega
  · cases h
theorem digit_of {d : Nat} (h : d < 10) : Lib.digitVal (UInt8.ofNat (48 + d)) = some d := by
  unfold Lib.digitVal
  have : (UInt8.ofNat (48 + d)).toNat = 48 + d := by rw [UInt8.toNat_ofNat']; omega
  rw [this, if_pos (by omega)]
  congr 1
  omega
theorem decFrom_digits : ∀ (n : Nat), Lib.decFrom 0 (Lib.decDigits n) = some n := by
  intro n
  induction n using Nat.strongRecOn with
  | ind n ih =>
    rw [Lib.decDigits]
    by_cases h : n < 10
    · rw [dif_pos h]
      simp only [Lib.decFrom, digit_of h, Nat.zero_mul, Nat.zero_add]
    · rw [dif_neg h, decFrom_app, ih (n / 10) (by omega)]
      simp only [Option.bind_some, Lib.decFrom, digit_of (Nat.mod_lt n (by omega : 0 < 10))]
      congr 1
      omega
theorem decFrom_ge : ∀ (l : List UInt8) (a n : Nat), Lib.decFrom a l = some n → a ≤ n
  | [], a, n, h => by simp [Lib.decFrom] at h; omega
  | x :: l, a, n, h => by
    simp only [Lib.decFrom] at h
    cases hd : Lib.digitVal x with
    | none => rw [hd] at h; cases h
    | some d =>
      rw [hd] at h
      have := decFrom_ge l _ n h
      omega
theorem digits_head {n : Nat} (h : 10 ≤ n) : 1 < (Lib.decDigits n).length ∧ (Lib.decDigits n).head? ≠ some 48 := by
  induction n using Nat.strongRecOn with
  | ind n ih =>
    rw [Lib.decDigits, dif_neg (by omega)]
    by_cases h2 : n / 10 < 10
    · rw [Lib.decDigits, dif_pos h2]
      refine ⟨by simp, ?_⟩
      simp only [List.singleton_append, List.head?_cons]
      intro e
      injection e with e
      have := congrArg UInt8.toNat e
      rw [UInt8.toNat_ofNat'] at this
      have h48 : (48 : UInt8).toNat = 48 := rfl
      rw [h48] at this
      omega
    · obtain ⟨h3, h4⟩ := ih (n / 10) (by omega) (by omega)
      refine ⟨by simp; omega, ?_⟩
      cases hl : Lib.decDigits (n / 10) with
      | nil => rw [hl] at h3; simp at h3
      | cons y t => rw [hl] at h4; simpa using h4
theorem digits_uniq : ∀ (k : Nat) (w : List UInt8) (n : Nat), w.length = k → w ≠ [] → (1 < w.length → w.head? ≠ some 48) → Lib.decFrom 0 w = some n → Lib.decDigits n = w := by
  intro k
  induction k with
  | zero => intro w n hk hne; exact absurd (List.eq_nil_of_length_eq_zero hk) hne
  | succ k ih =>
    intro w n hk hne hh hd
    obtain ⟨l, x, rfl⟩ : ∃ l x, w = l ++ [x] := ⟨w.dropLast, w.getLast hne, (List.dropLast_concat_getLast hne).symm⟩
    rw [decFrom_app] at hd
    cases hl : Lib.decFrom 0 l with
    | none => rw [hl] at hd; cases hd
    | some m =>
      rw [hl] at hd
      simp only [Option.bind_some, Lib.decFrom] at hd
      cases hx : Lib.digitVal x with
      | none => rw [hx] at hd; cases hd
      | some d =>
        rw [hx] at hd
        injection hd with hd
        obtain ⟨h1, h2⟩ := digit_at hx
        by_cases hl0 : l = []
        · subst hl0
          simp [Lib.decFrom] at hl
          subst hl
          rw [Lib.decDigits, dif_pos (by omega), h2]
          simp
          congr 1
          omega
        · have hlen : 0 < l.length := List.length_pos_iff.2 hl0
          have hh' : l.head? ≠ some 48 := by
            have := hh (by simp; omega)
            cases hc : l with
            | nil => exact absurd hc hl0
            | cons y t => rw [hc] at this; simpa using this
          have ihl := ih l m (by simp at hk; omega) hl0 (fun _ => hh') hl
          have hm : 1 ≤ m := by
            cases hc : l with
            | nil => exact absurd hc hl0
            | cons y t =>
              rw [hc] at hl hh'
              simp only [Lib.decFrom] at hl
              cases hy : Lib.digitVal y with
              | none => rw [hy] at hl; cases hl
              | some e =>
                rw [hy] at hl
                have h3 := decFrom_ge t _ m hl
                obtain ⟨h4, h5⟩ := digit_at hy
                have : e ≠ 0 := fun e0 => hh' (by rw [h5, e0]; rfl)
                omega
          rw [Lib.decDigits, dif_neg (by omega), show n / 10 = m by omega, ihl, show n % 10 = d by omega, h2]
theorem digits_ne (n : Nat) : Lib.decDigits n ≠ [] := by
  rw [Lib.decDigits]
  split <;> simp
/-- a text is a number exactly if it is the one that is written -/
theorem numO_iff (w : List UInt8) (n : Nat) : numO w = some n ↔ w.length ≤ 10 ∧ Lib.decDigits n = w := by
  unfold numO
  constructor
  · intro h
    split at h
    · cases h
    · rename_i hc
      simp only [not_or, not_and] at hc
      exact ⟨by omega, digits_uniq _ w n rfl (fun e => by rw [e] at hc; simp at hc) (fun h1 => hc.2.2 h1) h⟩
  · rintro ⟨h1, rfl⟩
    have hl : 1 ≤ (Lib.decDigits n).length := List.length_pos_iff.2 (digits_ne n)
    rw [if_neg, decFrom_digits]
    rintro (h | h | ⟨h2, h3⟩)
    · omega
    · omega
    · by_cases h10 : 10 ≤ n
      · exact (digits_head h10).2 h3
      · rw [Lib.decDigits, dif_pos (by omega)] at h2
        simp at h2
theorem itoa_nat (n : Nat) : Lib.itoa (n : Int) = Lib.decDigits n := by
  unfold Lib.itoa
  rw [if_neg (by omega)]
  rfl
theorem parse_dec : ∀ (l : List UInt8) (a n : Nat), Lib.decFrom a l = some n → n < 1000000000000000000 → Lib.parseUint10 a l = .ok n
  | [], a, n, h, _ => by simp [Lib.decFrom] at h; simp [Lib.parseUint10, h]
  | x :: l, a, n, h, hn => by
    simp only [Lib.decFrom] at h
    cases hd : Lib.digitVal x with
    | none => rw [hd] at h; cases h
    | some d =>
      rw [hd] at h
      have hge := decFrom_ge l _ n h
      have hd' := hd
      unfold Lib.digitVal at hd'
      split at hd'
      · rename_i hx
        injection hd' with hd'
        rw [← hd'] at hge h
        rw [Lib.parseUint10, if_pos hx, if_neg (by omega), if_neg (by omega)]
        exact parse_dec l _ n h hn
      · cases hd'
theorem decFrom_lt : ∀ (l : List UInt8) (a n : Nat), Lib.decFrom a l = some n → n < (a + 1) * 10 ^ l.length
  | [], a, n, h => by simp [Lib.decFrom] at h; simp; omega
  | x :: l, a, n, h => by
    simp only [Lib.decFrom] at h
    cases hd : Lib.digitVal x with
    | none => rw [hd] at h; cases h
    | some d =>
      rw [hd] at h
      have h1 := decFrom_lt l _ n h
      obtain ⟨h2, -⟩ := digit_at hd
      rw [List.length_cons, Nat.pow_succ]
      calc n < (a * 10 + d + 1) * 10 ^ l.length := h1
        _ ≤ ((a + 1) * 10) * 10 ^ l.length := Nat.mul_le_mul_right _ (by omega)
        _ = (a + 1) * (10 ^ l.length * 10) := by rw [Nat.mul_assoc, Nat.mul_comm 10]
theorem num_lt {w : List UInt8} {n : Nat} (h : numO w = some n) : n < 10000000000 := by
  obtain ⟨h1, h2⟩ := (numO_iff w n).1 h
  have h3 := decFrom_lt w 0 n (by rw [← h2]; exact decFrom_digits n)
  have h4 : 10 ^ w.length ≤ 10 ^ 10 := Nat.pow_le_pow_right (by omega) h1
  omega
theorem num_atoi {w : List UInt8} {n : Nat} (h : numO w = some n) : Lib.atoiAll w = .ok (n : Int) ∧ w.length ≤ 10 ∧ Lib.itoa (n : Int) = w := by
  obtain ⟨h1, h2⟩ := (numO_iff w n).1 h
  have hlt := num_lt h
  refine ⟨?_, h1, by rw [itoa_nat, h2]⟩
  have hd : Lib.decFrom 0 w = some n := by rw [← h2]; exact decFrom_digits n
  have hp := parse_dec w 0 n hd (by omega)
  cases w with
  | nil => exact absurd h2 (digits_ne n)
  | cons c r =>
    have hc : 48 ≤ c.toNat ∧ c.toNat ≤ 57 := by
      simp only [Lib.decFrom, Lib.digitVal] at hd
      by_cases hc : 48 ≤ c.toNat ∧ c.toNat ≤ 57
      · exact hc
      · rw [if_neg hc] at hd; cases hd
    unfold Lib.atoiAll
    have e1 : ¬ (c.toNat = 43 ∨ c.toNat = 45) := by omega
    have e2 : Lib.parseMag (c :: r) = .ok n := by unfold Lib.parseMag; rw [if_neg (by simp), hp]
    simp only [e1, if_false, e2]
    have e3 : ¬ (c.toNat = 45) := by omega
    simp [e3]
    omega
theorem num_none {w : List UInt8} (h : numO w = none) {v : Int} (ha : Lib.itoa v = w) (hl : w.length ≤ 10) (hv : 0 ≤ v) : False := by
  have : numO w = some v.toNat := (numO_iff w _).2 ⟨hl, by rw [← ha, ← itoa_nat, Int.toNat_of_nonneg hv]⟩
  rw [h] at this
  cases this
def hexL : List UInt8 := [48, 49, 50, 51, 52, 53, 54, 55, 56, 57, 97, 98, 99, 100, 101, 102]
theorem byte_all {P : UInt8 → Prop} (h : ∀ i : Fin 256, P (UInt8.ofNat i.val)) (b : UInt8) : P b := by
  have h1 := h ⟨b.toNat, b.toNat_lt⟩
  have h2 : UInt8.ofNat b.toNat = b := UInt8.toNat_inj.1 (by rw [UInt8.toNat_ofNat']; have := b.toNat_lt; omega)
  simpa [h2] using h1
theorem hexV_index (b : UInt8) : Lib.indexByte hexL b = ((hexV b).map fun n : Nat => (n : Int)).getD (-1) := by
  revert b
  exact byte_all (by decide +kernel)
theorem hexV_D (b : UInt8) : ∀ n, hexV b = some n → hexD n = b ∧ n < 16 := by
  have : ∀ b : UInt8, (match hexV b with | none => true | some n => decide (hexD n = b ∧ n < 16)) = true := byte_all (by decide +kernel)
  intro n hn
  have h := this b
  rw [hn] at h
  simpa using h
theorem hexD_V (b : UInt8) : hexV (hexD (b.toNat / 16)) = some (b.toNat / 16) ∧ hexV (hexD (b.toNat % 16)) = some (b.toNat % 16) ∧ UInt8.ofNat (16 * (b.toNat / 16) + b.toNat % 16) = b := by
  revert b
  exact byte_all (by decide +kernel)
theorem unhex_hex : ∀ l : List UInt8, unhexG (hexT l) = some l
  | [] => rfl
  | b :: l => by
    obtain ⟨h1, h2, h3⟩ := hexD_V b
    have : hexT (b :: l) = hexD (b.toNat / 16) :: hexD (b.toNat % 16) :: hexT l := by simp [hexT]
    rw [this]
    unfold unhexG
    rw [h1, h2]
    simp [unhex_hex l, h3]
theorem byte_parts {x y : Nat} (hx : x < 16) (hy : y < 16) : (UInt8.ofNat (16 * x + y)).toNat = 16 * x + y := by rw [UInt8.toNat_ofNat']; omega
theorem hex_unhex : ∀ (k : Nat) (w g : List UInt8), w.length = 2 * k → unhexG w = some g → hexT g = w ∧ g.length = k := by
  intro k
  induction k with
  | zero =>
    intro w g hw h
    obtain rfl : w = [] := List.eq_nil_of_length_eq_zero (by omega)
    simp [unhexG] at h
    subst h
    exact ⟨rfl, rfl⟩
  | succ k ih =>
    intro w g hw h
    match w, hw, h with
    | a :: b :: r, hw, h =>
      unfold unhexG at h
      cases ha : hexV a with
      | none => rw [ha] at h; cases h
      | some x =>
        cases hb : hexV b with
        | none => rw [ha, hb] at h; cases h
        | some y =>
          rw [ha, hb] at h
          simp only at h
          cases hr : unhexG r with
          | none => rw [hr] at h; cases h
          | some g' =>
            rw [hr] at h
            simp only [Option.map_some] at h
            injection h with h
            subst h
            obtain ⟨h1, h2⟩ := ih r g' (by simp at hw; omega) hr
            obtain ⟨h3, h4⟩ := hexV_D a x ha
            obtain ⟨h5, h6⟩ := hexV_D b y hb
            refine ⟨?_, by simp [h2]⟩
            have : hexT (UInt8.ofNat (16 * x + y) :: g') = hexD ((16 * x + y) / 16) :: hexD ((16 * x + y) % 16) :: hexT g' := by
              simp only [hexT, List.flatMap_cons, byte_parts h4 h6]
              rfl
            rw [this, h1, show (16 * x + y) / 16 = x by omega, show (16 * x + y) % 16 = y by omega, h3, h5]
end Go.Proofs.YtenaifmkejmdaaaGreatDoor
