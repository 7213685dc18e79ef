/- Chapter 47 in plain words: what is right, what is chosen, named, cited and numbered. No program is in it. -/
import Derived.Test.YtbmlnflacdockaaGreatDoorData
namespace Go.Proofs.YtbmlnflacdockaaGreatDoor
open Go.RowKit

structure Cat where
  langs : List ByteArray
  labels : List Label
  sheets : List Sheet
def lessB (a b : ByteArray) : Bool := Op.bytesLess a.toList b.toList
/-- the index of the first element that fits, or -1 -/
def idxG {α : Type} (p : α → Bool) : List α → Nat → Int
  | [], _ => -1
  | x :: r, i => if p x then i else idxG p r (i + 1)
def idxF {α : Type} (p : α → Bool) (l : List α) : Int := idxG p l 0
theorem idxG_cases {α : Type} (p : α → Bool) : ∀ (l : List α) (i : Nat), (idxG p l i = -1 ∧ ∀ x ∈ l, p x = false) ∨ ∃ (k : Nat) (x : α), idxG p l i = ((i + k : Nat) : Int) ∧ l[k]? = some x ∧ p x = true ∧ ∀ (j : Nat) y, j < k → l[j]? = some y → p y = false
  | [], i => .inl ⟨rfl, by simp⟩
  | x :: r, i => by
    unfold idxG
    cases h : p x
    · rw [if_neg (by simp)]
      rcases idxG_cases p r (i + 1) with ⟨h1, h2⟩ | ⟨k, y, h1, h2, h3, h4⟩
      · refine .inl ⟨h1, fun y hy => ?_⟩
        rcases List.mem_cons.1 hy with rfl | hy
        · exact h
        · exact h2 y hy
      · refine .inr ⟨k + 1, y, h1.trans (by omega), by simpa using h2, h3, fun j z hj hz => ?_⟩
        rcases j with _ | j
        · simp at hz; subst hz; exact h
        · exact h4 j z (by omega) (by simpa using hz)
    · rw [if_pos rfl]
      exact .inr ⟨0, x, rfl, rfl, h, fun j y hj => by omega⟩
theorem idxF_cases {α : Type} (p : α → Bool) (l : List α) : (idxF p l = -1 ∧ ∀ x ∈ l, p x = false) ∨ ∃ (k : Nat) (x : α), idxF p l = (k : Int) ∧ l[k]? = some x ∧ p x = true ∧ ∀ (j : Nat) y, j < k → l[j]? = some y → p y = false := by
  rcases idxG_cases p l 0 with h | ⟨k, x, h1, h2⟩
  · exact .inl h
  · exact .inr ⟨k, x, h1.trans (by simp), h2⟩
theorem idx_any {α : Type} (p : α → Bool) (l : List α) : decide (0 ≤ idxF p l) = l.any p := by
  rcases idxF_cases p l with ⟨h1, h2⟩ | ⟨k, x, h1, h2, h3, _⟩
  · rw [h1]
    symm
    rw [List.any_eq_false.2 (fun x hx => by simp [h2 x hx])]
    rfl
  · rw [h1]
    symm
    rw [List.any_eq_true.2 ⟨x, List.mem_of_getElem? h2, h3⟩]
    simp
def hasS (l : List ByteArray) (s : ByteArray) : Bool := l.any fun x => decide (x = s)
def letB (s : ByteArray) : Bool := match s.data.toList with
  | [a, b] => decide (97 ≤ a.toNat) && decide (a.toNat ≤ 122) && decide (97 ≤ b.toNat) && decide (b.toNat ≤ 122)
  | _ => false
def langG : List ByteArray → List ByteArray → Int
  | _, [] => 0
  | sn, x :: r => if letB x = false then 4 else if hasS sn x = true then 6 else langG (sn ++ [x]) r
def langE (l : List ByteArray) : Int := if l.length < 1 ∨ 8 < l.length then 2 else langG [] l
/-- an element in a language comes ahead of another one -/
def bfB (e : Int) (s : ByteArray) (f : Int) (t : ByteArray) : Bool := decide (e < f) || (decide (e = f) && lessB s t)
def labT (p : Option Label) (x : Label) : Int := match p with
  | none => 0
  | some q => if bfB q.el q.lang x.el x.lang = false then 5 else if q.el = x.el ∧ q.idx ≠ x.idx then 10 else 0
def labF (ls : List ByteArray) (p : Option Label) (x : Label) : Int :=
  if x.el < 1 ∨ 64 < x.el ∨ x.idx < 0 ∨ 3 < x.idx then 2
  else if hasS ls x.lang = false then 7
  else if x.text.size < 1 ∨ 64 < x.text.size then 4
  else labT p x
def labG (ls : List ByteArray) : Option Label → List Label → Int
  | _, [] => 0
  | p, x :: r => if labF ls p x = 0 then labG ls (some x) r else labF ls p x
def labE (ls : List ByteArray) (l : List Label) : Int := if 256 < l.length then 8 else labG ls none l
def fctT (p : Option Fact) (x : Fact) : Int := match p with
  | none => 0
  | some q => if bfB q.el q.lang x.el x.lang = false then 5 else 0
def fctF (ls : List ByteArray) (p : Option Fact) (x : Fact) : Int :=
  if x.el < 1 ∨ 64 < x.el then 2
  else if hasS ls x.lang = false then 7
  else if x.text.size < 1 ∨ 4096 < x.text.size then 4
  else fctT p x
def fctG (ls : List ByteArray) : Option Fact → List Fact → Int
  | _, [] => 0
  | p, x :: r => if fctF ls p x = 0 then fctG ls (some x) r else fctF ls p x
def fctE (ls : List ByteArray) (l : List Fact) : Int := if 32 < l.length then 8 else fctG ls none l
/-- the index of the sheet of a unit -/
def shtIx (l : List Sheet) (u : Int) : Int := idxF (fun s => decide (s.unit = u)) l
def untIx (l : List Int) (u : Int) : Int := idxF (fun x => decide (x = u)) l
/-- how many units of the way down stay -/
def keepN (path : List Int) (parent : Int) : Nat := if parent = 0 then 0 else (untIx path parent + 1).toNat
def shtF (ls : List ByteArray) (bf : List Sheet) (path : List Int) (s : Sheet) : Int :=
  if s.unit < 1 ∨ 1073741824 < s.unit ∨ s.level < 1 ∨ 4 < s.level then 2
  else if 64 < s.mark.size ∨ s.title.size < 1 ∨ 64 < s.title.size then 4
  else if 0 ≤ shtIx bf s.unit then 6
  else if s.parent ≠ 0 ∧ untIx path s.parent < 0 then 7
  else if 12 ≤ keepN path s.parent then 15
  else fctE ls s.facts
def nextP (path : List Int) (s : Sheet) : List Int := path.take (keepN path s.parent) ++ [s.unit]
def shtG (ls : List ByteArray) : List Sheet → List Int → List Sheet → Int
  | _, _, [] => 0
  | bf, path, s :: r => if shtF ls bf path s = 0 then shtG ls (bf ++ [s]) (nextP path s) r else shtF ls bf path s
def shtE (ls : List ByteArray) (l : List Sheet) : Int := if 256 < l.length then 8 else shtG ls [] [] l
def catE (c : Cat) : Int := if langE c.langs ≠ 0 then langE c.langs else if labE c.langs c.labels ≠ 0 then labE c.langs c.labels else shtE c.langs c.sheets
/-- as the reference says it: the units from a sheet up to the top -/
def chainG (l : List Sheet) : Nat → Int → List Int
  | 0, _ => []
  | f + 1, i => if i < 0 then [] else match l[i.toNat]? with
    | none => []
    | some s => s.unit :: if s.parent = 0 then [] else chainG l f (shtIx (l.take i.toNat) s.parent)
def chainF (l : List Sheet) (i : Int) : List Int := chainG l (i.toNat + 1) i
def inB (l : List Int) (u : Int) : Bool := l.any fun x => decide (x = u)
def rshtF (ls : List ByteArray) (l : List Sheet) (i : Nat) (s : Sheet) : Int :=
  if s.unit < 1 ∨ 1073741824 < s.unit ∨ s.level < 1 ∨ 4 < s.level then 2
  else if 64 < s.mark.size ∨ s.title.size = 0 ∨ 64 < s.title.size then 4
  else if 0 ≤ shtIx (l.take i) s.unit then 6
  else if s.parent ≠ 0 ∧ (i = 0 ∨ inB (chainF l ((i : Int) - 1)) s.parent = false) then 7
  else if s.parent ≠ 0 ∧ 12 ≤ (chainF l (shtIx (l.take i) s.parent)).length then 15
  else fctE ls s.facts
def rshtG (ls : List ByteArray) (l : List Sheet) : Nat → List Sheet → Int
  | _, [] => 0
  | i, s :: r => if rshtF ls l i s = 0 then rshtG ls l (i + 1) r else rshtF ls l i s
def rcatE (c : Cat) : Int := if langE c.langs ≠ 0 then langE c.langs else if labE c.langs c.labels ≠ 0 then labE c.langs c.labels else if 256 < c.sheets.length then 8 else rshtG c.langs c.sheets 0 c.sheets
/-- the preference for a language -/
def prefF (ls : List ByteArray) (s : ByteArray) : List ByteArray := s :: ls.filter fun x => decide (x ≠ s)
def rightB (c : Cat) (s : ByteArray) : Bool := decide (catE c = 0) && hasS c.langs s
/-- the rank of a language -/
def rankF (ord : List ByteArray) (s : ByteArray) : Int := idxF (fun x => decide (x = s)) ord
/-- the facts that are chosen, as the program does it -/
def chooseG (ord : List ByteArray) : List Fact → List Fact → List Fact
  | out, [] => out
  | out, f :: r => match out.getLast? with
    | none => chooseG ord (out ++ [f]) r
    | some q => if q.el ≠ f.el then chooseG ord (out ++ [f]) r else if rankF ord f.lang < rankF ord q.lang then chooseG ord (out.dropLast ++ [f]) r else chooseG ord out r
def chooseF (ord : List ByteArray) (l : List Fact) : List Fact := chooseG ord [] l
/-- as the reference does it -/
def factAt (l : List Fact) (e : Int) (s : ByteArray) : Option Fact := l.find? fun f => decide (f.el = e) && decide (f.lang = s)
def firstLang (l : List Fact) (e : Int) (ord : List ByteArray) : Option Fact := ord.findSome? fun s => factAt l e s
def rchooseG (l : List Fact) (ord : List ByteArray) : Option Fact → List Fact → List Fact
  | _, [] => []
  | p, f :: r => if (p.any fun q => decide (q.el = f.el)) = true then rchooseG l ord (some f) r else (firstLang l f.el ord).toList ++ rchooseG l ord (some f) r
def rchooseF (l : List Fact) (ord : List ByteArray) : List Fact := rchooseG l ord none l
end Go.Proofs.YtbmlnflacdockaaGreatDoor
