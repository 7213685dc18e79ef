/- Chapter 16 in plain words: the first fault of a list, what is found, sums, parts, differences. -/
import Derived.Test.YtenaifmkejmdaaaGreatDoorData
namespace Go.Proofs.YtenaifmkejmdaaaGreatDoor
open Go.RowKit

structure TL where
  id : Int
  office : Int
  day : Int
  items : List Item
def inB (n lo hi : Int) : Bool := decide (lo ≤ n) && decide (n ≤ hi)
/-- a byte that can be seen, or a blank -/
def prB (c : UInt8) : Bool := decide (32 ≤ c.toNat) && decide (c.toNat ≤ 126)
def dblL : List UInt8 → Bool
  | [] => false
  | [_] => false
  | a :: b :: r => (decide (a = 32) && decide (b = 32)) || dblL (b :: r)
def nameB (s : ByteArray) : Bool := decide (1 ≤ s.size) && decide (s.size ≤ 64) && !decide (s.data.toList.head? = some 32) && !decide (s.data.toList.getLast? = some 32) && !dblL s.data.toList && s.data.toList.all prB
def itemE (x : Item) : Int :=
  if (inB x.number 1 9999 && inB x.file 1 1073741824 && inB x.pages 1 100000 && (decide (0 ≤ x.first) && decide (x.first ≤ x.last) && decide (x.last ≤ 1048575))) = false then 2
  else if nameB x.title = false then 4
  else if x.digest.size ≠ 32 then 1 else 0
def chkG : Nat → Option Int → List Int → List Item → Int × Int
  | _, _, _, [] => (-1, 0)
  | i, q, fs, x :: r =>
    if itemE x ≠ 0 then ((i : Int), itemE x)
    else if (q.any fun n => decide (x.number ≤ n)) = true then ((i : Int), 5)
    else if x.file ∈ fs then ((i : Int), 6)
    else chkG (i + 1) (some x.number) (fs ++ [x.file]) r
def headB (l : TL) : Bool := inB l.id 1 1073741824 && inB l.office 1 1073741824 && inB l.day 0 1048575
def chkF (l : TL) : Int × Int :=
  if headB l = false then (-1, 2)
  else if l.items = [] then (-1, 9)
  else if 128 < l.items.length then (-1, 8)
  else chkG 0 none [] l.items
def rightB (l : TL) : Bool := decide ((chkF l).2 = 0)
def zItem : Item := ⟨0, 0, ⟨#[]⟩, 0, 0, 0, ⟨#[]⟩⟩
def findO (l : List Item) (n : Int) : Option Item := l.find? fun x => decide (x.number = n)
def sumP (l : List Item) : Int := (l.map Item.pages).foldl (· + ·) 0
def minG (a : Int) (l : List Item) : Int := l.foldl (fun m x => min m x.first) a
def maxG (a : Int) (l : List Item) : Int := l.foldl (fun m x => max m x.last) a
def partG (most : Int) : Nat → Int → List Item → List Int
  | many, _, [] => if 0 < many then [(many : Int)] else []
  | many, sum, x :: r => if 0 < many ∧ most < sum + x.pages then (many : Int) :: partG most 1 x.pages r else partG most (many + 1) (sum + x.pages) r
def divE (l : TL) (p : Int) : Int :=
  if rightB l = false then 1 else if inB p 1 100000 = false then 2 else if (l.items.any fun x => decide (p < x.pages)) = true then 15 else 0
def divF (l : TL) (p : Int) : List Int := if divE l p = 0 then partG p 0 0 l.items else []
/-- whether two lists differ at a number -/
def eqItem (x y : Item) : Bool := decide (x.number = y.number) && decide (x.file = y.file) && decide (x.title = y.title) && (decide (x.first = y.first) && decide (x.last = y.last)) && decide (x.pages = y.pages) && decide (x.digest = y.digest)
def eqO : Option Item → Option Item → Bool
  | none, none => true
  | some x, some y => eqItem x y
  | _, _ => false
def difB (a b : List Item) (n : Int) : Bool := !eqO (findO a n) (findO b n)
end Go.Proofs.YtenaifmkejmdaaaGreatDoor
