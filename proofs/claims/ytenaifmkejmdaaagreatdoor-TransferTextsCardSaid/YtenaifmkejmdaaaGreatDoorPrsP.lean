/- Texts of chapter 16 in plain words: cutting at a byte, numbers, hexadecimal digits, lines, lists. No program in it. -/
import Derived.Test.YtenaifmkejmdaaaGreatDoorSpc
import Derived.Lib.SplitLaws
import Derived.Lib.ItoaNum
import Derived.Lib.AtoiAll
import Derived.Lib.Atoi
import Derived.Lib.Bytealg
namespace Go.Proofs.YtenaifmkejmdaaaGreatDoor
open Go.RowKit

/-- cut at each byte c, at most k times -/
def splN (c : UInt8) : Nat → List UInt8 → List UInt8 → List (List UInt8)
  | 0, cur, l => [cur ++ l]
  | _ + 1, cur, [] => [cur]
  | k + 1, cur, x :: r => if x = c then cur :: splN c k [] r else splN c (k + 1) (cur ++ [x]) r
/-- cut at each byte c -/
def splG (c : UInt8) : List UInt8 → List UInt8 → List (List UInt8)
  | cur, [] => [cur]
  | cur, x :: r => if x = c then cur :: splG c [] r else splG c (cur ++ [x]) r
theorem splG_ne (c : UInt8) : ∀ (l cur : List UInt8), splG c cur l ≠ []
  | [], _ => by simp [splG]
  | x :: r, cur => by
    unfold splG
    split
    · simp
    · exact splG_ne c r _
theorem splG_len (c : UInt8) : ∀ (l cur : List UInt8), (splG c cur l).length = l.count c + 1
  | [], _ => by simp [splG]
  | x :: r, cur => by
    unfold splG
    by_cases h : x = c
    · subst h
      rw [if_pos rfl, List.length_cons, splG_len x r [], List.count_cons_self]
    · rw [if_neg h, splG_len c r, List.count_cons_of_ne h]
theorem splN_G (c : UInt8) : ∀ (l : List UInt8) (k : Nat) (cur : List UInt8), l.count c ≤ k → splN c k cur l = splG c cur l
  | [], k, cur, _ => by cases k <;> simp [splN, splG]
  | x :: r, 0, cur, h => by
    have hx : x ≠ c := fun e => by subst e; rw [List.count_cons_self] at h; omega
    have hr : r.count c ≤ 0 := by rwa [List.count_cons_of_ne hx] at h
    have ih := splN_G c r 0 (cur ++ [x]) hr
    unfold splG
    rw [if_neg hx, ← ih]
    simp [splN]
  | x :: r, k + 1, cur, h => by
    unfold splN splG
    by_cases hx : x = c
    · subst hx
      rw [if_pos rfl, if_pos rfl, splN_G x r k [] (by rw [List.count_cons_self] at h; omega)]
    · rw [if_neg hx, if_neg hx, splN_G c r (k + 1) (cur ++ [x]) (by rwa [List.count_cons_of_ne hx] at h)]
theorem splN_len (c : UInt8) : ∀ (l : List UInt8) (k : Nat) (cur : List UInt8), (splN c k cur l).length = min (l.count c) k + 1
  | [], k, cur => by cases k <;> simp [splN]
  | x :: r, 0, cur => by simp [splN]
  | x :: r, k + 1, cur => by
    unfold splN
    by_cases hx : x = c
    · subst hx
      rw [if_pos rfl, List.length_cons, splN_len x r k [], List.count_cons_self]; omega
    · rw [if_neg hx, splN_len c r (k + 1) _, List.count_cons_of_ne hx]
theorem splN_cons (c : UInt8) (k : Nat) (cur : List UInt8) (x : UInt8) (r : List UInt8) : splN c (k + 1) cur (x :: r) = if x = c then cur :: splN c k [] r else splN c (k + 1) (cur ++ [x]) r := by rw [splN]
/-- the kit's cutting is this one -/
theorem splN_index (c : UInt8) : ∀ (l : List UInt8) (k : Nat) (cur : List UInt8), splN c (k + 1) cur l = if Lib.index l [c] = -1 then [cur ++ l] else (cur ++ l.take (Lib.index l [c]).toNat) :: splN c k [] (l.drop ((Lib.index l [c]).toNat + 1))
  | [], k, cur => by simp [splN, Lib.index]
  | x :: r, k, cur => by
    rw [splN_cons, show Lib.index (x :: r) [c] = if ([c] : List UInt8).isPrefixOf (x :: r) then 0 else if Lib.index r [c] == -1 then -1 else Lib.index r [c] + 1 from by rw [Lib.index]]
    by_cases hx : x = c
    · subst hx
      simp [List.isPrefixOf]
    · have hp : ([c] : List UInt8).isPrefixOf (x :: r) = false := by simp [List.isPrefixOf, Ne.symm hx]
      rw [if_neg hx, hp, splN_index c r k (cur ++ [x])]
      have hge := Lib.index_ge r [c]
      by_cases hm : Lib.index r [c] = -1
      · simp [hm]
      · obtain ⟨j, hj⟩ : ∃ j : Nat, Lib.index r [c] = j := ⟨(Lib.index r [c]).toNat, by omega⟩
        have e1 : ((j : Int) == -1) = false := by simp
        have e2 : ¬ ((j : Int) = -1) := by omega
        have e3 : ¬ ((j : Int) + 1 = -1) := by omega
        have e4 : ((j : Int) + 1).toNat = j + 1 := by omega
        rw [hj]
        simp [e1, e2, e3, e4]
theorem splitK_is (c : UInt8) : ∀ (k : Nat) (l : List UInt8), Lib.splitK [c] 0 k l = splN c k [] l
  | 0, l => by simp [Lib.splitK, splN]
  | k + 1, l => by
    rw [splN_index]
    unfold Lib.splitK
    by_cases h : Lib.index l [c] = -1
    · simp [h]
    · rw [if_neg (by simpa using h), if_neg h, splitK_is c k]
      simp
theorem split_all (c : UInt8) (s : ByteArray) : (Lib.splitB ⟨#[c]⟩ 0 (Lib.countB s ⟨#[c]⟩) s).map (fun x => x.data.toList) = splG c [] s.data.toList := by
  rw [Lib.splitB_data]
  have : Lib.countB s ⟨#[c]⟩ = s.data.toList.count c := by
    exact Lib.count_one c s.data.toList
  rw [this]
  show Lib.splitK [c] 0 _ _ = _
  rw [splitK_is, splN_G c _ _ _ (Nat.le_refl _)]
theorem split_n (c : UInt8) (n : Nat) (s : ByteArray) : (Lib.splitB ⟨#[c]⟩ 0 (min (n + 1) (s.size + 1) - 1) s).map (fun x => x.data.toList) = splN c n [] s.data.toList := by
  rw [Lib.splitB_data]
  show Lib.splitK [c] 0 _ _ = _
  rw [splitK_is]
  by_cases h : n ≤ s.size
  · rw [show min (n + 1) (s.size + 1) - 1 = n by omega]
  · have hc : s.data.toList.count c ≤ s.size := by
      have := List.count_le_length (a := c) (l := s.data.toList)
      rwa [Array.length_toList] at this
    rw [show min (n + 1) (s.size + 1) - 1 = s.size by omega, splN_G c _ _ _ hc, splN_G c _ _ _ (by omega)]

/-- the number with a text of up to ten digits, if it is one -/
def numO (w : List UInt8) : Option Nat := if w.length < 1 ∨ 10 < w.length ∨ (1 < w.length ∧ w.head? = some 48) then none else Lib.decFrom 0 w
def hexV (b : UInt8) : Option Nat := if 48 ≤ b.toNat ∧ b.toNat ≤ 57 then some (b.toNat - 48) else if 97 ≤ b.toNat ∧ b.toNat ≤ 102 then some (b.toNat - 87) else none
def unhexG : List UInt8 → Option (List UInt8)
  | [] => some []
  | [_] => some []
  | a :: b :: r => match hexV a, hexV b with
    | some x, some y => (unhexG r).map (UInt8.ofNat (16 * x + y) :: ·)
    | _, _ => none
def unhexO (w : List UInt8) : Option (List UInt8) := if w.length ≠ 64 then none else unhexG w
def wList : List UInt8 := [108, 105, 115, 116]
def wItem : List UInt8 := [105, 116, 101, 109]
def numsO (l : List (List UInt8)) : Option (List Nat) := l.mapM numO
def headO (s : List UInt8) : Option (Int × Int × Int) :=
  match splG 32 [] s with
  | w :: r => if w = wList then match numsO r with
    | some [a, b, c] => some (a, b, c)
    | _ => none
    else none
  | _ => none
def rowO (s : List UInt8) : Option Item :=
  match splN 32 7 [] s with
  | [w, w1, w2, w3, w4, w5, w6, w7] => if w = wItem then match numsO [w1, w2, w3, w4, w5], unhexO w6 with
    | some [a, b, c, d, e], some g => some ⟨a, b, ⟨w7.toArray⟩, c, d, e, ⟨g.toArray⟩⟩
    | _, _ => none
    else none
  | _ => none
def zTL : TL := ⟨0, 0, 0, []⟩
def stepO (i : Nat) (l : TL) (s : List UInt8) : Option TL :=
  if i = 0 then (headO s).map fun h => ⟨h.1, h.2.1, h.2.2, l.items⟩ else (rowO s).map fun x => ⟨l.id, l.office, l.day, l.items ++ [x]⟩
def nextG (i : Nat) (o : Option TL) (f : TL → TL × Int × Int) : TL × Int × Int :=
  match o with
  | none => (zTL, (i : Int) + 1, 3)
  | some l' => f l'
def parseG : Nat → TL → List (List UInt8) → TL × Int × Int
  | _, _, [] => (zTL, 0, 0)
  | i, l, [t] => if t ≠ [] ∨ i = 0 then (zTL, (i : Int) + 1, 3) else if rightB l = false then (zTL, (i : Int), 1) else (l, 0, 0)
  | i, l, s :: s2 :: r => nextG i (stepO i l s) fun l' => parseG (i + 1) l' (s2 :: r)
def parseF (text : ByteArray) : TL × Int × Int := if 65536 < text.size then (zTL, 0, 8) else parseG 0 zTL (splG 10 [] text.data.toList)

def hexD (n : Nat) : UInt8 := UInt8.ofNat (if n < 10 then 48 + n else 87 + n)
def hexT (l : List UInt8) : List UInt8 := l.flatMap fun b => [hexD (b.toNat / 16), hexD (b.toNat % 16)]
def lineT (w : List UInt8) (ns : List Int) : List UInt8 := w ++ ns.flatMap fun n => 32 :: Lib.itoa n
def rowT (x : Item) : List UInt8 := lineT wItem [x.number, x.file, x.first, x.last, x.pages] ++ [32] ++ hexT x.digest.data.toList ++ [32] ++ x.title.data.toList ++ [10]
def headT (l : TL) : List UInt8 := lineT wList [l.id, l.office, l.day] ++ [10]
def printE (l : TL) : Int := if rightB l then 0 else 1
def printF (l : TL) : List UInt8 := if rightB l then headT l ++ l.items.flatMap rowT else []
end Go.Proofs.YtenaifmkejmdaaaGreatDoor
