/- Chapter 16: a right list is read from its text, and what is read has just the text that was read. No program in it. -/
import Derived.Test.YtenaifmkejmdaaaGreatDoorPrsN
namespace Go.Proofs.YtenaifmkejmdaaaGreatDoor
open Go.RowKit

theorem digits_len : ∀ (k n : Nat), n < 10 ^ (k + 1) → (Lib.decDigits n).length ≤ k + 1
  | 0, n, h => by
    rw [Lib.decDigits, dif_pos (by omega)]
    simp
  | k + 1, n, h => by
    rw [Lib.decDigits]
    split
    · simp
    · have := digits_len k (n / 10) (by rw [Nat.pow_succ] at h; omega)
      simp only [List.length_append, List.length_singleton]
      omega
theorem digits_byte : ∀ (n : Nat), ∀ b ∈ Lib.decDigits n, 48 ≤ b.toNat ∧ b.toNat ≤ 57 := by
  intro n
  induction n using Nat.strongRecOn with
  | ind n ih =>
    intro b hb
    rw [Lib.decDigits] at hb
    have key : ∀ m : Nat, m < 10 → 48 ≤ (UInt8.ofNat (48 + m)).toNat ∧ (UInt8.ofNat (48 + m)).toNat ≤ 57 := fun m hm => by rw [UInt8.toNat_ofNat']; omega
    split at hb
    · rename_i h
      rw [List.mem_singleton] at hb
      subst hb
      exact key n h
    · rename_i h
      rcases List.mem_append.1 hb with hb | hb
      · exact ih (n / 10) (by omega) b hb
      · rw [List.mem_singleton] at hb
        subst hb
        exact key _ (Nat.mod_lt _ (by omega))
/-- a number that is not negative and at most a gigabyte, in decimal -/
theorem itoa_pos {n : Int} (h0 : 0 ≤ n) (h1 : n ≤ 1073741824) : numO (Lib.itoa n) = some n.toNat ∧ (∀ b ∈ Lib.itoa n, 48 ≤ b.toNat ∧ b.toNat ≤ 57) ∧ (Lib.itoa n).length ≤ 10 := by
  obtain ⟨m, rfl⟩ := Int.eq_ofNat_of_zero_le h0
  rw [itoa_nat]
  have hl := digits_len 9 m (by omega)
  exact ⟨(numO_iff _ _).2 ⟨hl, by simp⟩, digits_byte m, hl⟩
theorem hexD_byte (b : UInt8) : (48 ≤ (hexD (b.toNat / 16)).toNat ∧ (hexD (b.toNat / 16)).toNat ≤ 102) ∧ (48 ≤ (hexD (b.toNat % 16)).toNat ∧ (hexD (b.toNat % 16)).toNat ≤ 102) := by
  revert b
  exact byte_all (by decide +kernel)
theorem hexT_byte {l : List UInt8} {b : UInt8} (h : b ∈ hexT l) : 48 ≤ b.toNat ∧ b.toNat ≤ 102 := by
  obtain ⟨x, -, hb⟩ := List.mem_flatMap.1 h
  have := hexD_byte x
  simp only [List.mem_cons, List.not_mem_nil, or_false] at hb
  rcases hb with rfl | rfl
  · exact this.1
  · exact this.2
theorem hexT_len (l : List UInt8) : (hexT l).length = 2 * l.length := by
  unfold hexT
  induction l with
  | nil => rfl
  | cons b l ih => rw [List.flatMap_cons, List.length_append, ih, List.length_cons]; simp; omega
theorem splN_app {c : UInt8} : ∀ (A : List UInt8) (k : Nat) (cur B : List UInt8), c ∉ A → splN c (k + 1) cur (A ++ c :: B) = (cur ++ A) :: splN c k [] B
  | [], k, cur, B, _ => by rw [List.nil_append, splN_cons, if_pos rfl, List.append_nil]
  | x :: A, k, cur, B, h => by
    have hx : ¬ x = c := fun e => h (by simp [e])
    rw [List.cons_append, splN_cons, if_neg hx, splN_app A k _ B (fun e => h (by simp [e]))]
    simp
theorem splN_zero (c : UInt8) (cur l : List UInt8) : splN c 0 cur l = [cur ++ l] := by cases l <;> rfl
theorem splG_cons (c : UInt8) (cur : List UInt8) (x : UInt8) (r : List UInt8) : splG c cur (x :: r) = if x = c then cur :: splG c [] r else splG c (cur ++ [x]) r := by rw [splG]
theorem splG_app {c : UInt8} : ∀ (A cur B : List UInt8), c ∉ A → splG c cur (A ++ c :: B) = (cur ++ A) :: splG c [] B
  | [], cur, B, _ => by rw [List.nil_append, splG_cons, if_pos rfl, List.append_nil]
  | x :: A, cur, B, h => by
    have hx : ¬ x = c := fun e => h (by simp [e])
    rw [List.cons_append, splG_cons, if_neg hx, splG_app A _ B (fun e => h (by simp [e]))]
    simp
theorem splG_one {c : UInt8} : ∀ (A cur : List UInt8), c ∉ A → splG c cur A = [cur ++ A]
  | [], cur, _ => by simp [splG]
  | x :: A, cur, h => by
    have hx : ¬ x = c := fun e => h (by simp [e])
    rw [splG_cons, if_neg hx, splG_one A _ (fun e => h (by simp [e]))]
    simp
/-- pieces with c between -/
def jn (c : UInt8) : List (List UInt8) → List UInt8
  | [] => []
  | [t] => t
  | s :: t :: r => s ++ c :: jn c (t :: r)
theorem jn_cons (c : UInt8) (s : List UInt8) {r : List (List UInt8)} (h : r ≠ []) : jn c (s :: r) = s ++ c :: jn c r := by
  cases r with
  | nil => exact absurd rfl h
  | cons t r => rfl
theorem jn_splG (c : UInt8) : ∀ (l cur : List UInt8), jn c (splG c cur l) = cur ++ l
  | [], cur => by simp [splG, jn]
  | x :: r, cur => by
    rw [splG_cons]
    by_cases h : x = c
    · rw [if_pos h, jn_cons c cur (splG_ne c r []), jn_splG c r [], h]; simp
    · rw [if_neg h, jn_splG c r]; simp
theorem splN_ne (c : UInt8) (l : List UInt8) (k : Nat) (cur : List UInt8) : splN c k cur l ≠ [] := by
  intro h
  have := splN_len c l k cur
  rw [h] at this
  simp at this
theorem jn_splN (c : UInt8) : ∀ (l : List UInt8) (k : Nat) (cur : List UInt8), jn c (splN c k cur l) = cur ++ l
  | l, 0, cur => by rw [splN_zero]; rfl
  | [], k + 1, cur => by simp [splN, jn]
  | x :: r, k + 1, cur => by
    rw [splN_cons]
    by_cases h : x = c
    · rw [if_pos h, jn_cons c cur (splN_ne c r k []), jn_splN c r k [], h]; simp
    · rw [if_neg h, jn_splN c r (k + 1)]; simp
theorem numsO_cons (w : List UInt8) (r : List (List UInt8)) : numsO (w :: r) = (numO w).bind fun n => (numsO r).map (n :: ·) := by
  unfold numsO
  rw [List.mapM_cons]
  cases numO w with
  | none => rfl
  | some n => cases List.mapM numO r <;> rfl
theorem numsO_nil : numsO [] = some [] := rfl
theorem inB_iff {n lo hi : Int} : inB n lo hi = true ↔ lo ≤ n ∧ n ≤ hi := by simp [inB]
/-- the line of an item, without its end -/
def rowL (x : Item) : List UInt8 := lineT wItem [x.number, x.file, x.first, x.last, x.pages] ++ [32] ++ hexT x.digest.data.toList ++ [32] ++ x.title.data.toList
theorem rowT_L (x : Item) : rowT x = rowL x ++ [10] := rfl
structure ItemOk (x : Item) : Prop where
  number : 1 ≤ x.number ∧ x.number ≤ 9999
  file : 1 ≤ x.file ∧ x.file ≤ 1073741824
  pages : 1 ≤ x.pages ∧ x.pages ≤ 100000
  dating : 0 ≤ x.first ∧ x.first ≤ x.last ∧ x.last ≤ 1048575
  title : nameB x.title = true
  digest : x.digest.size = 32
theorem itemE_zero {x : Item} (h : itemE x = 0) : ItemOk x := by
  unfold itemE at h
  by_cases h1 : (inB x.number 1 9999 && inB x.file 1 1073741824 && inB x.pages 1 100000 && (decide (0 ≤ x.first) && decide (x.first ≤ x.last) && decide (x.last ≤ 1048575))) = false
  · rw [if_pos h1] at h; cases h
  · rw [if_neg h1] at h
    by_cases h2 : nameB x.title = false
    · rw [if_pos h2] at h; cases h
    · rw [if_neg h2] at h
      by_cases h3 : x.digest.size ≠ 32
      · rw [if_pos h3] at h; cases h
      · rw [Bool.not_eq_false] at h1 h2
        simp only [Bool.and_eq_true, decide_eq_true_eq, inB_iff] at h1
        exact ⟨h1.1.1.1, h1.1.1.2, h1.1.2, ⟨h1.2.1.1, h1.2.1.2, h1.2.2⟩, h2, by omega⟩
theorem chkG_ok : ∀ (r : List Item) (i : Nat) (q : Option Int) (fs : List Int), (chkG i q fs r).2 = 0 → ∀ x ∈ r, ItemOk x
  | [], _, _, _, _ => by simp
  | x :: r, i, q, fs, h => by
    unfold chkG at h
    by_cases h1 : itemE x ≠ 0
    · rw [if_pos h1] at h; exact absurd h h1
    · rw [if_neg h1] at h
      by_cases h2 : (q.any fun n => decide (x.number ≤ n)) = true
      · rw [if_pos h2] at h; cases h
      · rw [if_neg h2] at h
        by_cases h3 : x.file ∈ fs
        · rw [if_pos h3] at h; cases h
        · rw [if_neg h3] at h
          intro y hy
          rcases List.mem_cons.1 hy with rfl | hy
          · exact itemE_zero (Classical.not_not.1 h1)
          · exact chkG_ok r _ _ _ h y hy
structure RightOk (l : TL) : Prop where
  id : 1 ≤ l.id ∧ l.id ≤ 1073741824
  office : 1 ≤ l.office ∧ l.office ≤ 1073741824
  day : 0 ≤ l.day ∧ l.day ≤ 1048575
  ne : l.items ≠ []
  len : l.items.length ≤ 128
  item : ∀ x ∈ l.items, ItemOk x
  chk : (chkG 0 none [] l.items).2 = 0
theorem right_ok {l : TL} (h : rightB l = true) : RightOk l := by
  unfold rightB at h
  rw [decide_eq_true_eq] at h
  unfold chkF at h
  by_cases h1 : headB l = false
  · rw [if_pos h1] at h; cases h
  · rw [if_neg h1] at h
    by_cases h2 : l.items = []
    · rw [if_pos h2] at h; cases h
    · rw [if_neg h2] at h
      by_cases h3 : 128 < l.items.length
      · rw [if_pos h3] at h; cases h
      · rw [if_neg h3] at h
        rw [Bool.not_eq_false] at h1
        unfold headB at h1
        simp only [Bool.and_eq_true, inB_iff] at h1
        exact ⟨h1.1.1, h1.1.2, h1.2, h2, by omega, chkG_ok _ _ _ _ h, h⟩
theorem no_of {b : UInt8} {l : List UInt8} (lo hi : Nat) (h : ∀ x ∈ l, lo ≤ x.toNat ∧ x.toNat ≤ hi) (hb : b.toNat < lo ∨ hi < b.toNat) : b ∉ l := fun hm => by have := h b hm; omega
theorem title_byte {s : ByteArray} (h : nameB s = true) : ∀ b ∈ s.data.toList, 32 ≤ b.toNat ∧ b.toNat ≤ 126 := by
  unfold nameB at h
  simp only [Bool.and_eq_true, List.all_eq_true] at h
  intro b hb
  have := h.2 b hb
  unfold prB at this
  simpa using this
theorem name_size {s : ByteArray} (h : nameB s = true) : 1 ≤ s.size ∧ s.size ≤ 64 := by
  unfold nameB at h
  simp only [Bool.and_eq_true, decide_eq_true_eq] at h
  exact ⟨h.1.1.1.1.1, h.1.1.1.1.2⟩
theorem row_read {x : Item} (h : ItemOk x) : rowO (rowL x) = some x ∧ (10 : UInt8) ∉ rowL x := by
  obtain ⟨a1, a2, -⟩ := itoa_pos (n := x.number) (by have := h.number; omega) (by have := h.number; omega)
  obtain ⟨b1, b2, -⟩ := itoa_pos (n := x.file) (by have := h.file; omega) (by have := h.file; omega)
  obtain ⟨c1, c2, -⟩ := itoa_pos (n := x.first) (by have := h.dating; omega) (by have := h.dating; omega)
  obtain ⟨d1, d2, -⟩ := itoa_pos (n := x.last) (by have := h.dating; omega) (by have := h.dating; omega)
  obtain ⟨e1, e2, -⟩ := itoa_pos (n := x.pages) (by have := h.pages; omega) (by have := h.pages; omega)
  have hx2 : ∀ b ∈ hexT x.digest.data.toList, 48 ≤ b.toNat ∧ b.toNat ≤ 102 := fun b hb => hexT_byte hb
  have ht := title_byte h.title
  have h32 : (32 : UInt8).toNat = 32 := rfl
  have h10 : (10 : UInt8).toNat = 10 := rfl
  have hform : rowL x = wItem ++ 32 :: (Lib.itoa x.number ++ 32 :: (Lib.itoa x.file ++ 32 :: (Lib.itoa x.first ++ 32 :: (Lib.itoa x.last ++ 32 :: (Lib.itoa x.pages ++ 32 :: (hexT x.digest.data.toList ++ 32 :: x.title.data.toList)))))) := by
    simp [rowL, lineT]
  constructor
  · rw [hform]
    unfold rowO
    rw [splN_app _ _ _ _ (by decide), splN_app _ _ _ _ (no_of 48 57 a2 (by omega)), splN_app _ _ _ _ (no_of 48 57 b2 (by omega)), splN_app _ _ _ _ (no_of 48 57 c2 (by omega)), splN_app _ _ _ _ (no_of 48 57 d2 (by omega)), splN_app _ _ _ _ (no_of 48 57 e2 (by omega)), splN_app _ _ _ _ (no_of 48 102 hx2 (by omega)), splN_zero]
    simp only [List.nil_append]
    have hu : unhexO (hexT x.digest.data.toList) = some x.digest.data.toList := by
      unfold unhexO
      rw [if_neg (by rw [hexT_len]; have := h.digest; rw [Array.length_toList]; show ¬ 2 * x.digest.size ≠ 64; omega), unhex_hex]
    rw [if_pos trivial, hu, numsO_cons, numsO_cons, numsO_cons, numsO_cons, numsO_cons, numsO_nil, a1, b1, c1, d1, e1]
    simp only [Option.bind_some, Option.map_some]
    have g1 : ((x.number.toNat : Nat) : Int) = x.number := Int.toNat_of_nonneg (by have := h.number; omega)
    have g2 : ((x.file.toNat : Nat) : Int) = x.file := Int.toNat_of_nonneg (by have := h.file; omega)
    have g3 : ((x.first.toNat : Nat) : Int) = x.first := Int.toNat_of_nonneg (by have := h.dating; omega)
    have g4 : ((x.last.toNat : Nat) : Int) = x.last := Int.toNat_of_nonneg (by have := h.dating; omega)
    have g5 : ((x.pages.toNat : Nat) : Int) = x.pages := Int.toNat_of_nonneg (by have := h.pages; omega)
    rw [g1, g2, g3, g4, g5]
  · rw [hform]
    simp only [List.mem_append, List.mem_cons, not_or]
    exact ⟨by decide, by decide, no_of 48 57 a2 (by omega), by decide, no_of 48 57 b2 (by omega), by decide, no_of 48 57 c2 (by omega), by decide, no_of 48 57 d2 (by omega), by decide, no_of 48 57 e2 (by omega), by decide, no_of 48 102 hx2 (by omega), by decide, no_of 32 126 ht (by omega)⟩
theorem head_read {l : TL} (h : RightOk l) : headO (lineT wList [l.id, l.office, l.day]) = some (l.id, l.office, l.day) ∧ (10 : UInt8) ∉ lineT wList [l.id, l.office, l.day] := by
  obtain ⟨a1, a2, -⟩ := itoa_pos (n := l.id) (by have := h.id; omega) (by have := h.id; omega)
  obtain ⟨b1, b2, -⟩ := itoa_pos (n := l.office) (by have := h.office; omega) (by have := h.office; omega)
  obtain ⟨c1, c2, -⟩ := itoa_pos (n := l.day) (by have := h.day; omega) (by have := h.day; omega)
  have h32 : (32 : UInt8).toNat = 32 := rfl
  have h10 : (10 : UInt8).toNat = 10 := rfl
  have hform : lineT wList [l.id, l.office, l.day] = wList ++ 32 :: (Lib.itoa l.id ++ 32 :: (Lib.itoa l.office ++ 32 :: Lib.itoa l.day)) := by simp [lineT]
  constructor
  · rw [hform]
    unfold headO
    rw [splG_app _ _ _ (by decide), splG_app _ _ _ (no_of 48 57 a2 (by omega)), splG_app _ _ _ (no_of 48 57 b2 (by omega)), splG_one _ _ (no_of 48 57 c2 (by omega))]
    simp only [List.nil_append]
    rw [if_pos trivial, numsO_cons, numsO_cons, numsO_cons, numsO_nil, a1, b1, c1]
    simp only [Option.bind_some, Option.map_some]
    have g1 : ((l.id.toNat : Nat) : Int) = l.id := Int.toNat_of_nonneg (by have := h.id; omega)
    have g2 : ((l.office.toNat : Nat) : Int) = l.office := Int.toNat_of_nonneg (by have := h.office; omega)
    have g3 : ((l.day.toNat : Nat) : Int) = l.day := Int.toNat_of_nonneg (by have := h.day; omega)
    rw [g1, g2, g3]
  · rw [hform]
    simp only [List.mem_append, List.mem_cons, not_or]
    exact ⟨by decide, by decide, no_of 48 57 a2 (by omega), by decide, no_of 48 57 b2 (by omega), by decide, no_of 48 57 c2 (by omega)⟩
theorem rows_split : ∀ (xs : List Item), (∀ x ∈ xs, ItemOk x) → splG 10 [] (xs.flatMap rowT) = xs.map rowL ++ [[]]
  | [], _ => rfl
  | x :: xs, h => by
    have h1 := (row_read (h x (by simp))).2
    rw [List.flatMap_cons, rowT_L, List.append_assoc]
    show splG 10 [] (rowL x ++ 10 :: xs.flatMap rowT) = _
    rw [splG_app _ _ _ h1, rows_split xs (fun y hy => h y (by simp [hy]))]
    simp
theorem parseG_cons (i : Nat) (l : TL) (s : List UInt8) {r : List (List UInt8)} (hr : r ≠ []) : parseG i l (s :: r) = nextG i (stepO i l s) fun l' => parseG (i + 1) l' r := by
  cases r with
  | nil => exact absurd rfl hr
  | cons t r => rw [parseG]
theorem parse_rows : ∀ (xs : List Item) (i : Nat) (l : TL), (∀ x ∈ xs, ItemOk x) → i ≠ 0 → rightB ⟨l.id, l.office, l.day, l.items ++ xs⟩ = true → parseG i l (xs.map rowL ++ [[]]) = (⟨l.id, l.office, l.day, l.items ++ xs⟩, 0, 0)
  | [], i, l, _, hi, hr => by
    rw [List.append_nil] at hr ⊢
    show (if ([] : List UInt8) ≠ [] ∨ i = 0 then (zTL, (i : Int) + 1, 3) else if rightB l = false then (zTL, (i : Int), 1) else (l, 0, 0)) = _
    rw [if_neg (by simp [hi]), if_neg (by rw [show l = ⟨l.id, l.office, l.day, l.items⟩ from rfl, hr]; decide)]
  | x :: xs, i, l, h, hi, hr => by
    have h1 := (row_read (h x (by simp))).1
    have hs : stepO i l (rowL x) = some ⟨l.id, l.office, l.day, l.items ++ [x]⟩ := by unfold stepO; rw [if_neg hi, h1]; rfl
    rw [List.map_cons, List.cons_append, parseG_cons _ _ _ (by simp), hs]
    have := parse_rows xs (i + 1) ⟨l.id, l.office, l.day, l.items ++ [x]⟩ (fun y hy => h y (by simp [hy])) (by omega) (by simpa using hr)
    simpa [nextG] using this
theorem parse_print {l : TL} (h : rightB l = true) (hs : (printF l).length ≤ 65536) : parseF ⟨(printF l).toArray⟩ = (l, 0, 0) := by
  have hok := right_ok h
  obtain ⟨h1, h2⟩ := head_read hok
  have hp : printF l = lineT wList [l.id, l.office, l.day] ++ 10 :: l.items.flatMap rowT := by
    unfold printF headT
    rw [if_pos h, List.append_assoc]
    rfl
  unfold parseF
  rw [if_neg (by show ¬ 65536 < (printF l).toArray.size; simpa using hs)]
  show parseG 0 zTL (splG 10 [] (printF l)) = _
  rw [hp, splG_app _ _ _ h2, List.nil_append, rows_split _ hok.item, parseG_cons _ _ _ (by simp)]
  have hst : stepO 0 zTL (lineT wList [l.id, l.office, l.day]) = some ⟨l.id, l.office, l.day, []⟩ := by
    unfold stepO
    rw [if_pos rfl, h1]
    rfl
  rw [hst]
  have := parse_rows l.items 1 ⟨l.id, l.office, l.day, []⟩ hok.item (by omega) (by simpa using h)
  simpa [nextG] using this
theorem nums_all : ∀ (ws : List (List UInt8)) (ns : List Nat), numsO ws = some ns → ws = ns.map fun n : Nat => Lib.itoa (n : Int)
  | [], ns, h => by rw [numsO_nil] at h; injection h with h; subst h; rfl
  | w :: ws, ns, h => by
    rw [numsO_cons] at h
    cases hw : numO w with
    | none => rw [hw] at h; cases h
    | some n =>
      rw [hw] at h
      simp only [Option.bind_some] at h
      cases hr : numsO ws with
      | none => rw [hr] at h; cases h
      | some m =>
        rw [hr] at h
        simp only [Option.map_some] at h
        injection h with h
        subst h
        rw [List.map_cons, ← nums_all ws m hr, (num_atoi hw).2.2]
theorem row_print {s : List UInt8} {x : Item} (h : rowO s = some x) : rowL x = s := by
  unfold rowO at h
  have hj := jn_splN 32 s 7 []
  generalize splN 32 7 [] s = L at *
  split at h
  · rename_i w w1 w2 w3 w4 w5 w6 w7
    split at h
    · rename_i hw
      split at h
      · rename_i a b c d e g hn hu
        injection h with h
        subst h
        have h1 := nums_all _ _ hn
        simp only [List.map_cons, List.map_nil, List.cons.injEq, and_true] at h1
        obtain ⟨e1, e2, e3, e4, e5⟩ := h1
        have h2 : hexT g = w6 := by
          unfold unhexO at hu
          split at hu
          · cases hu
          · exact (hex_unhex 32 w6 g (by omega) hu).1
        simp only [jn, List.nil_append] at hj
        rw [← hj]
        simp [rowL, lineT, ← e1, ← e2, ← e3, ← e4, ← e5, h2, hw]
      · cases h
    · cases h
  · cases h
theorem head_print {s : List UInt8} {a b c : Int} (h : headO s = some (a, b, c)) : lineT wList [a, b, c] = s := by
  unfold headO at h
  have hj := jn_splG 32 s []
  generalize splG 32 [] s = L at *
  split at h
  · rename_i w r
    split at h
    · rename_i hw
      split at h
      · rename_i x y z hn
        injection h with h
        injection h with h1 h2
        injection h2 with h2 h3
        have h4 := nums_all _ _ hn
        rw [h4] at hj
        simp only [List.map_cons, List.map_nil, jn, List.nil_append] at hj
        rw [← hj, ← h1, ← h2, ← h3]
        simp [lineT, hw]
      · cases h
    · cases h
  · cases h
theorem parse_back : ∀ (ls : List (List UInt8)) (i : Nat) (l l' : TL) (k : Int), ls ≠ [] → i ≠ 0 → parseG i l ls = (l', k, 0) → rightB l' = true ∧ ∃ new, l' = ⟨l.id, l.office, l.day, l.items ++ new⟩ ∧ jn 10 ls = new.flatMap rowT
  | [], _, _, _, _, h, _, _ => absurd rfl h
  | [t], i, l, l', k, _, hi, h => by
    unfold parseG at h
    by_cases h1 : t ≠ [] ∨ i = 0
    · rw [if_pos h1] at h
      injection h with _ h
      injection h with _ h
      cases h
    · rw [if_neg h1] at h
      by_cases h2 : rightB l = false
      · rw [if_pos h2] at h
        injection h with _ h
        injection h with _ h
        cases h
      · rw [if_neg h2] at h
        injection h with h _
        subst h
        simp only [not_or, Classical.not_not] at h1
        exact ⟨by simpa using h2, [], by simp, by simp [jn, h1.1]⟩
  | s :: t :: r, i, l, l', k, _, hi, h => by
    rw [parseG_cons _ _ _ (by simp)] at h
    cases hs : stepO i l s with
    | none =>
      rw [hs] at h
      injection h with _ h
      injection h with _ h
      cases h
    | some l1 =>
      rw [hs] at h
      obtain ⟨h1, new, h2, h3⟩ := parse_back (t :: r) (i + 1) l1 l' k (by simp) (by omega) h
      unfold stepO at hs
      rw [if_neg hi] at hs
      cases hx : rowO s with
      | none => rw [hx] at hs; cases hs
      | some x =>
        rw [hx] at hs
        simp only [Option.map_some] at hs
        injection hs with hs
        subst hs
        refine ⟨h1, x :: new, by rw [h2]; simp, ?_⟩
        rw [jn_cons _ _ (by simp), h3, List.flatMap_cons, rowT_L, row_print hx]
        simp
theorem print_parse {text : ByteArray} {l : TL} {k : Int} (h : parseF text = (l, k, 0)) : rightB l = true ∧ printF l = text.data.toList := by
  unfold parseF at h
  split at h
  · injection h with _ h
    injection h with _ h
    cases h
  · have hj := jn_splG 10 text.data.toList []
    have hne := splG_ne 10 text.data.toList []
    generalize splG 10 [] text.data.toList = ls at *
    match ls, hne, h with
    | [t], _, h =>
      unfold parseG at h
      rw [if_pos (.inr rfl)] at h
      injection h with _ h
      injection h with _ h
      cases h
    | s :: t :: r, _, h =>
      rw [parseG_cons _ _ _ (by simp)] at h
      cases hs : stepO 0 zTL s with
      | none =>
        rw [hs] at h
        injection h with _ h
        injection h with _ h
        cases h
      | some l1 =>
        rw [hs] at h
        obtain ⟨h1, new, h2, h3⟩ := parse_back (t :: r) 1 l1 l k (by simp) (by omega) h
        unfold stepO at hs
        rw [if_pos rfl] at hs
        cases hx : headO s with
        | none => rw [hx] at hs; cases hs
        | some a =>
          obtain ⟨a, b, c⟩ := a
          rw [hx] at hs
          simp only [Option.map_some] at hs
          injection hs with hs
          subst hs
          subst h2
          refine ⟨h1, ?_⟩
          rw [← List.nil_append text.data.toList, ← hj, jn_cons _ _ (by simp), h3]
          unfold printF headT
          rw [if_pos h1]
          simp [head_print hx, zTL]
theorem lineT_len (w : List UInt8) : ∀ (ns : List Int), (∀ n ∈ ns, 0 ≤ n ∧ n ≤ 1073741824) → (lineT w ns).length ≤ w.length + 11 * ns.length := by
  intro ns h
  unfold lineT
  rw [List.length_append]
  induction ns with
  | nil => simp
  | cons n ns ih =>
    have h1 := (itoa_pos (h n (by simp)).1 (h n (by simp)).2).2.2
    have h2 := ih (fun m hm => h m (by simp [hm]))
    rw [List.flatMap_cons, List.length_append, List.length_cons, List.length_cons]
    omega
theorem row_len {x : Item} (h : ItemOk x) : (rowT x).length ≤ 200 := by
  have h1 := lineT_len wItem [x.number, x.file, x.first, x.last, x.pages] (by
    have a := h.number; have b := h.file; have c := h.dating; have d := h.pages
    intro n hn
    simp only [List.mem_cons, List.not_mem_nil, or_false] at hn
    rcases hn with rfl | rfl | rfl | rfl | rfl <;> omega)
  have h2 := name_size h.title
  have h3 : x.title.data.toList.length = x.title.size := Array.length_toList
  have h4 : x.digest.data.toList.length = x.digest.size := Array.length_toList
  have h5 := h.digest
  unfold rowT
  simp only [List.length_append, hexT_len, List.length_singleton]
  have : wItem.length = 4 := rfl
  simp only [List.length_cons, List.length_nil] at h1
  omega
theorem rows_len : ∀ (xs : List Item), (∀ x ∈ xs, ItemOk x) → (xs.flatMap rowT).length ≤ 200 * xs.length
  | [], _ => by simp
  | x :: xs, h => by
    have h1 := row_len (h x (by simp))
    have h2 := rows_len xs (fun y hy => h y (by simp [hy]))
    rw [List.flatMap_cons, List.length_append, List.length_cons]
    omega
theorem print_len (l : TL) : (printF l).length ≤ 60000 := by
  unfold printF
  by_cases h : rightB l = true
  · rw [if_pos h]
    have hok := right_ok h
    have h1 := rows_len l.items hok.item
    have h2 := lineT_len wList [l.id, l.office, l.day] (by
      have a := hok.id; have b := hok.office; have c := hok.day
      intro n hn
      simp only [List.mem_cons, List.not_mem_nil, or_false] at hn
      rcases hn with rfl | rfl | rfl <;> omega)
    have h3 := hok.len
    have : wList.length = 4 := rfl
    unfold headT
    simp only [List.length_append, List.length_singleton]
    simp only [List.length_cons, List.length_nil] at h2
    omega
  · rw [if_neg h]
    simp
end Go.Proofs.YtenaifmkejmdaaaGreatDoor
