/- What the functions of the chapter answer (no program in it). -/
import Derived.Test.YthbccfchjgihgaaGreatDoorData
import Derived.Lib.DecodeN
import Derived.Laws.RangeString
import Derived.Lib.IndexMore
import Derived.Shelf.GgClosure.StringsIndexFunc
import Derived.Lib.ItoaNum
namespace Go.Proofs.YthbccfchjgihgaaGreatDoor
open Go.RowKit

def inB (n lo hi : Int) : Bool := decide (lo ≤ n) && decide (n ≤ hi)
/-- a byte from lo to 126 -/
def prG (lo : Nat) (c : UInt8) : Bool := decide (lo ≤ c.toNat) && decide (c.toNat ≤ 126)
def prB : UInt8 → Bool := prG 32
def dblL : List UInt8 → Bool
  | [] => false
  | [_] => false
  | a :: b :: r => (decide (a = 32) && decide (b = 32)) || dblL (b :: r)
def nameB (s : ByteArray) : Bool := decide (1 ≤ s.size) && decide (s.size ≤ 64) && !decide (s.data.toList.head? = some 32) && !decide (s.data.toList.getLast? = some 32) && !dblL s.data.toList && s.data.toList.all prB
def markB (s : ByteArray) : Bool := inB s.size 1 64 && s.data.toList.all (prG 33)
def visG (lo r : Nat) : Bool := decide (r < lo) || decide (126 < r)
def visP : Nat → Bool := visG 32
theorem decodeN_big (n b0 b1 b2 b3 : Nat) (h : 128 ≤ b0) : 128 ≤ (Lib.decodeN n b0 b1 b2 b3).1 := by
  unfold Lib.decodeN
  rw [if_neg (by omega)]
  repeat' split
  all_goals (simp only []; omega)
theorem vis_from (lo : Nat) (hlo : lo ≤ 127) (s : ByteArray) : ∀ (f pos : Nat), s.size ≤ pos + f → decide (0 ≤ Lib.idxFuncFrom (visG lo) true s f pos) = !((s.data.toList.drop pos).all (prG lo))
  | 0, pos, h => by
    rw [List.drop_of_length_le (by rw [Array.length_toList]; exact h)]
    simp [Lib.idxFuncFrom]
  | f + 1, pos, h => by
    unfold Lib.idxFuncFrom
    by_cases hp : pos < s.size
    · have hd : s.data.toList.drop pos = s[pos] :: s.data.toList.drop (pos + 1) := by
        rw [List.drop_eq_getElem_cons (by rw [Array.length_toList]; exact hp)]
        rfl
      rw [if_pos hp, hd, List.all_cons]
      by_cases hb : s[pos].toNat < 128
      · rw [decode_ascii s pos hp hb]
        have hv : visG lo s[pos].toNat = !prG lo s[pos] := by
          unfold visG prG
          rw [Bool.eq_iff_iff]
          simp only [Bool.or_eq_true, decide_eq_true_eq, Bool.not_eq_true', Bool.and_eq_false_iff, decide_eq_false_iff_not]
          omega
        cases hc : prG lo s[pos]
        · rw [hc] at hv
          simp only [hv, Bool.not_false, if_true, Bool.false_and]
          simp
        · rw [hc] at hv
          simp only [hv, Bool.not_true, Bool.false_eq_true, if_false, Bool.true_and]
          exact vis_from lo hlo s f (pos + 1) (by omega)
      · have hge : 128 ≤ (Utf8.decode s pos).1 := by
          rw [Lib.decode_at]
          refine decodeN_big _ _ _ _ _ ?_
          have : s.get! pos = s[pos] := by simp [ByteArray.get!, getElem!_pos, hp]; rfl
          rw [this]
          omega
        have hv : visG lo (Utf8.decode s pos).1 = true := by unfold visG; simp; omega
        have hc : prG lo s[pos] = false := by unfold prG; simp; omega
        rw [if_pos hv, hc]
        simp
    · rw [if_neg hp, List.drop_of_length_le (by rw [Array.length_toList]; show s.size ≤ pos; omega)]
      simp
theorem vis_is (s : ByteArray) : decide (0 ≤ Lib.idxFunc visP true s) = !(s.data.toList.all prB) := vis_from 32 (by decide) s s.size 0 (by omega)
theorem vis33_is (s : ByteArray) : decide (0 ≤ Lib.idxFunc (visG 33) true s) = !(s.data.toList.all (prG 33)) := vis_from 33 (by decide) s s.size 0 (by omega)
theorem markB_prog (s : ByteArray) : markB s = (inB s.size 1 64 && !decide (0 ≤ Lib.idxFunc (visG 33) true s)) := by
  unfold markB
  rw [vis33_is, Bool.not_not]
theorem dbl_is : ∀ (l : List UInt8), Lib.contains l [32, 32] = dblL l
  | [] => rfl
  | [a] => by
    simp [Lib.contains, Lib.index, dblL, List.isPrefixOf]
  | a :: b :: r => by
    have ih := dbl_is (b :: r)
    unfold Lib.contains at ih ⊢
    have hge := Lib.index_ge (b :: r) [32, 32]
    rw [show Lib.index (a :: b :: r) [32, 32] = if ([32, 32] : List UInt8).isPrefixOf (a :: b :: r) then 0 else if Lib.index (b :: r) [32, 32] == -1 then -1 else Lib.index (b :: r) [32, 32] + 1 from by rw [Lib.index]]
    unfold dblL
    rw [← ih]
    have hp : ([32, 32] : List UInt8).isPrefixOf (a :: b :: r) = (decide (a = 32) && decide (b = 32)) := by
      simp only [List.isPrefixOf, Bool.and_true]
      rw [Bool.eq_iff_iff]
      simp only [Bool.and_eq_true, beq_iff_eq, decide_eq_true_eq]
      constructor
      · rintro ⟨rfl, rfl⟩; exact ⟨rfl, rfl⟩
      · rintro ⟨rfl, rfl⟩; exact ⟨rfl, rfl⟩
    rw [hp]
    cases decide (a = 32) && decide (b = 32)
    · by_cases hm : Lib.index (b :: r) [32, 32] = -1
      · simp [hm]
      · have e : (Lib.index (b :: r) [32, 32] == -1) = false := by simpa using hm
        have h0 : 0 ≤ Lib.index (b :: r) [32, 32] := by omega
        simp [e, h0]
        omega
    · simp
/-- the reference: byte for byte, with the byte before -/
def namG : Option UInt8 → List UInt8 → Bool
  | _, [] => true
  | q, x :: r => prB x && !(decide (q = some 32) && decide (x = 32)) && namG (some x) r
theorem namG_some : ∀ (l : List UInt8) (p : UInt8), namG (some p) l = (!dblL (p :: l) && l.all prB)
  | [], p => rfl
  | x :: r, p => by
    unfold namG
    rw [namG_some r x, show dblL (p :: x :: r) = ((decide (p = 32) && decide (x = 32)) || dblL (x :: r)) from rfl, List.all_cons]
    have e : decide (some p = some (32 : UInt8)) = decide (p = 32) := by simp
    rw [e]
    cases prB x <;> cases decide (p = 32) <;> cases decide (x = 32) <;> cases dblL (x :: r) <;> simp
theorem namG_none (l : List UInt8) : namG none l = (!dblL l && l.all prB) := by
  cases l with
  | nil => rfl
  | cons x r =>
    unfold namG
    rw [namG_some r x, List.all_cons]
    cases prB x <;> simp
theorem nameB_ref (s : ByteArray) : nameB s = (decide (1 ≤ s.size) && decide (s.size ≤ 64) && !decide (s.data.toList.head? = some 32) && !decide (s.data.toList.getLast? = some 32) && namG none s.data.toList) := by
  unfold nameB
  rw [namG_none]
  simp only [Bool.and_assoc]
theorem nameB_prog (s : ByteArray) : nameB s = (decide (1 ≤ s.size) && decide (s.size ≤ 64) && !decide (s.data.toList.head? = some 32) && !decide (s.data.toList.getLast? = some 32) && !Lib.contains s.data.toList [32, 32] && !decide (0 ≤ Lib.idxFunc visP true s)) := by
  unfold nameB
  rw [dbl_is, vis_is, Bool.not_not]

structure Tre where
  roots : List Int
  brs : List Brn
def fitB (p c : Int) : Bool := inB p 1 4 && inB c 1 4 && (decide (p < c) || (decide (p = 2) && decide (c = 2)))
def findB (l : List Brn) (id : Int) : Option Brn := l.find? fun b => decide (b.id = id)
/-- a unit by itself, and with the earlier ones -/
def aloneF (q : List Brn) (b : Brn) : Int :=
  if (inB b.id 1 1073741824 && inB b.level 1 4) = false then 2
  else if (q.getLast?.any fun x => decide (b.id ≤ x.id)) = true then 5
  else if nameB b.title = false then 4
  else if b.mark ≠ ⟨#[]⟩ ∧ markB b.mark = false then 1
  else if b.mark ≠ ⟨#[]⟩ ∧ (q.any fun x => decide (x.mark = b.mark)) = true then 19
  else 0
def placedF (l : List Brn) (b : Brn) : Int :=
  if b.parent = 0 then (if b.level ≠ 1 then 18 else 0)
  else match findB l b.parent with
    | none => 7
    | some p => if b.level = 1 ∨ fitB p.level b.level = false then 18 else 0
def kidsW (l : List Brn) (p : Int) : List Int := (l.filter fun b => decide (b.parent = p)).map Brn.id
def insI (x : Int) : List Int → List Int
  | [] => [x]
  | y :: r => if x ≤ y then x :: y :: r else y :: insI x r
def sortI : List Int → List Int
  | [] => []
  | x :: r => insI x (sortI r)
def justB (l : List Brn) (p : Int) (ks : List Int) : Bool := decide (sortI ks = kidsW l p)
/-- the program's count of the units above -/
def depthG (l : List Brn) : Nat → Nat → Brn → Int
  | 0, _, _ => 17
  | f + 1, many, b => if b.parent = 0 then (if 12 < many then 15 else 0) else if l.length < many then 17 else match findB l b.parent with
    | none => 17
    | some p => depthG l f (many + 1) p
def depthF (l : List Brn) (b : Brn) : Int := depthG l (l.length + 1) 1 b
/-- the first fault in a pass -/
def passG {α : Type} (f : List α → α → Int) : List α → List α → Option (Int × Int)
  | _, [] => none
  | q, b :: r => if f q b ≠ 0 then some ((q.length : Int), f q b) else passG f (q ++ [b]) r
def passF {α : Type} (f : List α → α → Int) (l : List α) : Option (Int × Int) := passG f [] l
def kidsE (l : List Brn) (b : Brn) : Int := if justB l b.id b.kids = false then 10 else 0
def chkF (t : Tre) : Int × Int :=
  if 256 < t.brs.length then (-1, 8)
  else match passF aloneF t.brs with
  | some r => r
  | none => match passF (fun _ => placedF t.brs) t.brs with
  | some r => r
  | none => match passF (fun _ => kidsE t.brs) t.brs with
  | some r => r
  | none => if justB t.brs 0 t.roots = false then (-1, 10) else match passF (fun _ => depthF t.brs) t.brs with
  | some r => r
  | none => (-1, 0)
def rightT (t : Tre) : Bool := decide ((chkF t).2 = 0)
/-- the way up from a unit: its IDs, the unit first; nothing if it is longer than f -/
def upG (l : List Brn) : Nat → Int → Option (List Int)
  | f, id => if id = 0 then some [] else match f with
    | 0 => none
    | f + 1 => (upG l f ((findB l id).map Brn.parent |>.getD 0)).map (id :: ·)
/-- the reference: the path of a unit; nothing if it does not end -/
def rpathF (l : List Brn) (id : Int) : List Int := ((upG l l.length id).getD []).reverse
def rplaceF (l : List Brn) (b : Brn) : Int :=
  if b.parent = 0 then (if b.level ≠ 1 then 18 else 0)
  else match findB l b.parent with
    | none => 7
    | some p => if fitB p.level b.level = false then 18 else 0
def rkidB (l : List Brn) (p : Int) (q : List Int) (k : Int) : Bool := ((findB l k).any fun b => decide (b.parent = p)) && !decide (k ∈ q)
def rkidsG (l : List Brn) (p : Int) : List Int → List Int → Bool
  | _, [] => true
  | q, k :: r => rkidB l p q k && rkidsG l p (q ++ [k]) r
def rkidsF (l : List Brn) (ks : List Int) (p : Int) : Bool := rkidsG l p [] ks && decide ((kidsW l p).length = ks.length)
def rkidsE (l : List Brn) (b : Brn) : Int := if rkidsF l b.kids b.id = false then 10 else 0
def rdepthF (l : List Brn) (b : Brn) : Int := if rpathF l b.id = [] then 17 else if 12 < (rpathF l b.id).length then 15 else 0
def rchkF (t : Tre) : Int × Int :=
  if 256 < t.brs.length then (-1, 8)
  else match passF aloneF t.brs with
  | some r => r
  | none => match passF (fun _ => rplaceF t.brs) t.brs with
  | some r => r
  | none => match passF (fun _ => rkidsE t.brs) t.brs with
  | some r => r
  | none => if rkidsF t.brs t.roots 0 = false then (-1, 10) else match passF (fun _ => rdepthF t.brs) t.brs with
  | some r => r
  | none => (-1, 0)
/-- the error of a tree and some IDs -/
def knownE (t : Tre) (ids : List Int) : Int := if rightT t = false then 1 else if (ids.any fun k => (findB t.brs k).isNone) = true then 7 else 0
def orTopE (t : Tre) (id : Int) : Int := if id = 0 then knownE t [] else knownE t [id]
/-- where evidence comes from -/
def camB (c : Came) : Bool := inB c.unit 1 1073741824 && inB c.office 0 1073741824 && (inB c.accession 1 1073741824 && inB c.number 1 9999 || decide (c.accession = 0) && decide (c.number = 0))
def clashF (q : List Came) (c : Came) : Int :=
  if c.accession = 0 then 0
  else if (q.any fun x => decide (x.accession = c.accession) && decide (x.number = c.number)) = true then 6
  else if (q.any fun x => decide (x.accession = c.accession) && decide (x.office ≠ c.office)) = true then 10
  else 0
def camF (q : List Came) (c : Came) : Int :=
  if camB c = false then 2
  else if (q.getLast?.any fun x => decide (c.unit ≤ x.unit)) = true then 5
  else clashF q c
def pchkF (l : List Came) : Int × Int := if 256 < l.length then (-1, 8) else (passF camF l).getD (-1, 0)
def prightB (l : List Came) : Bool := decide ((pchkF l).2 = 0)
/-- the reference -/
def rclashF (q : List Came) (c : Came) : Int :=
  if (q.any fun x => decide (x.unit = c.unit) || decide (c.accession ≠ 0) && decide (x.accession = c.accession) && decide (x.number = c.number)) = true then 6
  else if (q.any fun x => decide (c.accession ≠ 0) && decide (x.accession = c.accession) && decide (x.office ≠ c.office)) = true then 10
  else 0
def rcamF (q : List Came) (c : Came) : Int :=
  if camB c = false then 2
  else if (q.getLast?.any fun x => decide (c.unit ≤ x.unit)) = true then 5
  else rclashF q c
def rpchkF (l : List Came) : Int × Int := if 256 < l.length then (-1, 8) else (passF rcamF l).getD (-1, 0)
/-- the accession of a unit -/
def accF (l : List Came) (u : Int) : Int := ((l.find? fun c => decide (c.unit = u)).map Came.accession).getD 0
def rowsF (t : Tre) (l : List Came) : List RowT := t.brs.map fun b => ⟨b.id, b.parent, accF l b.id⟩

theorem passG_none {α : Type} {f : List α → α → Int} : ∀ (r q : List α), passG f q r = none ↔ ∀ (i : Nat) b, r[i]? = some b → f (q ++ r.take i) b = 0
  | [], q => by simp [passG]
  | b :: r, q => by
    unfold passG
    by_cases h : f q b = 0
    · rw [if_neg (by simp [h]), passG_none r (q ++ [b])]
      constructor
      · intro hh i x hx
        rcases i with _ | i
        · simp at hx; subst hx; simpa using h
        · have := hh i x (by simpa using hx)
          simpa using this
      · intro hh i x hx
        have := hh (i + 1) x (by simpa using hx)
        simpa using this
    · rw [if_pos h]
      constructor
      · intro e; cases e
      · intro hh
        exact absurd (by simpa using hh 0 b rfl) h
theorem passF_none {α : Type} {f : List α → α → Int} {l : List α} : passF f l = none ↔ ∀ (i : Nat) b, l[i]? = some b → f (l.take i) b = 0 := by
  unfold passF
  rw [passG_none]
  simp
theorem passF_none' {f : Brn → Int} {l : List Brn} : passF (fun _ => f) l = none ↔ ∀ b ∈ l, f b = 0 := by
  rw [passF_none]
  constructor
  · intro h b hb
    obtain ⟨i, hi⟩ := List.getElem?_of_mem hb
    exact h i b hi
  · intro h i b hi
    exact h b (List.mem_of_getElem? hi)
theorem passG_congr {f g : List Brn → Brn → Int} : ∀ (r q : List Brn), (∀ (q' : List Brn), ∀ b ∈ r, f q' b = g q' b) → passG f q r = passG g q r
  | [], _, _ => rfl
  | b :: r, q, h => by
    unfold passG
    rw [h q b (List.mem_cons_self ..), passG_congr r (q ++ [b]) (fun q' x hx => h q' x (List.mem_cons_of_mem _ hx))]
theorem passF_congr {f g : Brn → Int} {l : List Brn} (h : ∀ b ∈ l, f b = g b) : passF (fun _ => f) l = passF (fun _ => g) l := passG_congr l [] (fun _ b hb => h b hb)
/-- the IDs ascend -/
def AscB (l : List Brn) : Prop := l.Pairwise fun a b => a.id < b.id
theorem alone_asc {l : List Brn} (h : passF aloneF l = none) : AscB l ∧ ∀ b ∈ l, 1 ≤ b.id ∧ b.id ≤ 1073741824 ∧ 1 ≤ b.level ∧ b.level ≤ 4 := by
  rw [passF_none] at h
  have h1 : ∀ (i : Nat) b, l[i]? = some b → (inB b.id 1 1073741824 && inB b.level 1 4) = true ∧ ((l.take i).getLast?.any fun x => decide (b.id ≤ x.id)) = false := fun i b hb => by
    have h0 := h i b hb
    unfold aloneF at h0
    split at h0
    · cases h0
    · rename_i e1
      split at h0
      · cases h0
      · rename_i e2
        exact ⟨by simpa using e1, by simpa using e2⟩
  refine ⟨?_, fun b hb => ?_⟩
  · unfold AscB
    rw [List.pairwise_iff_getElem]
    intro i j hi hj hij
    -- step by step from i to j
    have key : ∀ (d : Nat) (hd : i + d + 1 < l.length), l[i].id < l[i + d + 1].id := by
      intro d
      induction d with
      | zero =>
        intro hd
        have := (h1 (i + 1) l[i + 1] (List.getElem?_eq_getElem hd)).2
        have hl : (l.take (i + 1)).getLast? = some l[i] := by
          rw [List.getLast?_eq_getElem?, List.length_take, Nat.min_eq_left (by omega), List.getElem?_take, if_pos (by omega), show i + 1 - 1 = i by omega, List.getElem?_eq_getElem hi]
        rw [hl] at this
        simp at this
        exact this
      | succ d ih =>
        intro hd
        have h2 := ih (by omega)
        have := (h1 (i + d + 1 + 1) l[i + d + 1 + 1] (List.getElem?_eq_getElem hd)).2
        have hl : (l.take (i + d + 1 + 1)).getLast? = some l[i + d + 1] := by
          rw [List.getLast?_eq_getElem?, List.length_take, Nat.min_eq_left (by omega), List.getElem?_take, if_pos (by omega), show i + d + 1 + 1 - 1 = i + d + 1 by omega, List.getElem?_eq_getElem (by omega)]
        rw [hl] at this
        simp at this
        exact Int.lt_trans h2 this
    have := key (j - i - 1) (by omega)
    simpa [show i + (j - i - 1) + 1 = j by omega] using this
  · obtain ⟨i, hi⟩ := List.getElem?_of_mem hb
    have := (h1 i b hi).1
    unfold inB at this
    simp only [Bool.and_eq_true, decide_eq_true_eq] at this
    omega
theorem find_mem {l : List Brn} {id : Int} {b : Brn} (h : findB l id = some b) : b ∈ l ∧ b.id = id := ⟨List.mem_of_find?_eq_some h, by have := List.find?_some h; simpa using this⟩
theorem asc_uniq {l : List Brn} (h : AscB l) {a b : Brn} (ha : a ∈ l) (hb : b ∈ l) (e : a.id = b.id) : a = b := by
  obtain ⟨i, hi⟩ := List.getElem?_of_mem ha
  obtain ⟨j, hj⟩ := List.getElem?_of_mem hb
  obtain ⟨hi', rfl⟩ := List.getElem?_eq_some_iff.1 hi
  obtain ⟨hj', rfl⟩ := List.getElem?_eq_some_iff.1 hj
  rcases Nat.lt_trichotomy i j with c | c | c
  · have := List.pairwise_iff_getElem.1 h i j hi' hj' c
    omega
  · subst c; rfl
  · have := List.pairwise_iff_getElem.1 h j i hj' hi' c
    omega
theorem find_of {l : List Brn} (h : AscB l) {b : Brn} (hb : b ∈ l) : findB l b.id = some b := by
  cases hf : findB l b.id with
  | none =>
    have := List.find?_eq_none.1 hf b hb
    simp at this
  | some x =>
    obtain ⟨h1, h2⟩ := find_mem hf
    rw [asc_uniq h h1 hb h2]
theorem fit_one (p : Int) : fitB p 1 = false := by
  unfold fitB inB
  by_cases h : 1 ≤ p
  · have : decide (p < 1) = false := by simp; omega
    simp [this]
  · have : decide (1 ≤ p) = false := by simpa using h
    simp [this]
theorem place_eq (l : List Brn) (b : Brn) : rplaceF l b = placedF l b := by
  unfold rplaceF placedF
  split
  · rfl
  · cases findB l b.parent with
    | none => rfl
    | some p =>
      by_cases h1 : b.level = 1
      · simp only [h1, fit_one, true_or, if_true]
      · simp [h1]
theorem subset_perm : ∀ (ks ws : List Int), ks.Nodup → (∀ k ∈ ks, k ∈ ws) → ws.length ≤ ks.length → ks.Perm ws
  | [], ws, _, _, hl => by
    have : ws = [] := List.eq_nil_of_length_eq_zero (by simpa using hl)
    rw [this]
  | k :: ks, ws, hn, hs, hl => by
    obtain ⟨hk, hn'⟩ := List.nodup_cons.1 hn
    have hw := hs k (List.mem_cons_self ..)
    have h1 := List.perm_cons_erase hw
    have h2 : ks.Perm (ws.erase k) := subset_perm ks (ws.erase k) hn' (fun x hx => (List.mem_erase_of_ne (fun (e : x = k) => hk (by rw [← e]; exact hx))).2 (hs x (List.mem_cons_of_mem _ hx))) (by rw [List.length_erase_of_mem hw]; simp at hl; omega)
    exact (h2.cons k).trans h1.symm
theorem subset_len : ∀ (ks ws : List Int), ks.Nodup → (∀ k ∈ ks, k ∈ ws) → ks.length ≤ ws.length
  | [], _, _, _ => Nat.zero_le _
  | k :: ks, ws, hn, hs => by
    obtain ⟨hk, hn'⟩ := List.nodup_cons.1 hn
    have hw := hs k (List.mem_cons_self ..)
    have h2 := subset_len ks (ws.erase k) hn' (fun x hx => (List.mem_erase_of_ne (fun (e : x = k) => hk (by rw [← e]; exact hx))).2 (hs x (List.mem_cons_of_mem _ hx)))
    rw [List.length_erase_of_mem hw] at h2
    have := List.length_pos_of_mem hw
    simp
    omega
theorem kidsW_mem {l : List Brn} {p k : Int} : k ∈ kidsW l p ↔ ∃ b ∈ l, b.parent = p ∧ b.id = k := by
  unfold kidsW
  simp [List.mem_map, List.mem_filter, and_assoc]
theorem kidsW_asc {l : List Brn} (h : AscB l) (p : Int) : (kidsW l p).Pairwise (· < ·) := by
  unfold kidsW
  rw [List.pairwise_map]
  exact List.Pairwise.filter _ h
theorem insI_perm (x : Int) : ∀ l : List Int, (insI x l).Perm (x :: l)
  | [] => List.Perm.refl _
  | y :: r => by
    unfold insI
    split
    · exact List.Perm.refl _
    · exact ((insI_perm x r).cons y).trans (List.Perm.swap x y r)
theorem sortI_perm : ∀ l : List Int, (sortI l).Perm l
  | [] => List.Perm.refl _
  | x :: r => (insI_perm x (sortI r)).trans ((sortI_perm r).cons x)
theorem insI_asc (x : Int) : ∀ l : List Int, l.Pairwise (· ≤ ·) → (insI x l).Pairwise (· ≤ ·)
  | [], _ => List.pairwise_singleton _ _
  | y :: r, h => by
    obtain ⟨h1, h2⟩ := List.pairwise_cons.1 h
    unfold insI
    split
    · rename_i hx
      refine List.pairwise_cons.2 ⟨fun z hz => ?_, h⟩
      rcases List.mem_cons.1 hz with rfl | hz
      · exact hx
      · exact Int.le_trans hx (h1 z hz)
    · rename_i hx
      refine List.pairwise_cons.2 ⟨fun z hz => ?_, insI_asc x r h2⟩
      rcases List.mem_cons.1 ((insI_perm x r).mem_iff.1 hz) with rfl | hz
      · omega
      · exact h1 z hz
theorem sortI_asc : ∀ l : List Int, (sortI l).Pairwise (· ≤ ·)
  | [] => List.Pairwise.nil
  | x :: r => insI_asc x _ (sortI_asc r)
theorem sortI_of {l m : List Int} (hm : m.Pairwise (· ≤ ·)) (h : m.Perm l) : m = sortI l := List.Perm.eq_of_pairwise (fun _ _ _ _ a b => Int.le_antisymm a b) hm (sortI_asc l) (h.trans (sortI_perm l).symm)
theorem rkids_iff {l : List Brn} {p : Int} : ∀ (r q : List Int), rkidsG l p q r = true ↔ (∀ k ∈ r, ∃ b, findB l k = some b ∧ b.parent = p) ∧ r.Nodup ∧ ∀ k ∈ r, k ∉ q
  | [], q => by simp [rkidsG]
  | k :: r, q => by
    unfold rkidsG
    rw [Bool.and_eq_true, rkids_iff r (q ++ [k])]
    unfold rkidB
    rw [Bool.and_eq_true]
    have e1 : ((findB l k).any fun b => decide (b.parent = p)) = true ↔ ∃ b, findB l k = some b ∧ b.parent = p := by
      cases findB l k <;> simp
    have e2 : (!decide (k ∈ q)) = true ↔ k ∉ q := by simp
    rw [e1, e2, List.nodup_cons]
    constructor
    · rintro ⟨⟨h1, h2⟩, h3, h4, h5⟩
      refine ⟨fun x hx => ?_, ⟨fun hk => ?_, h4⟩, fun x hx => ?_⟩
      · rcases List.mem_cons.1 hx with rfl | hx
        · exact h1
        · exact h3 x hx
      · exact h5 k hk (by simp)
      · rcases List.mem_cons.1 hx with rfl | hx
        · exact h2
        · exact fun hq => h5 x hx (by simp [hq])
    · rintro ⟨h1, ⟨h2, h3⟩, h4⟩
      refine ⟨⟨h1 k (List.mem_cons_self ..), h4 k (List.mem_cons_self ..)⟩, fun x hx => h1 x (List.mem_cons_of_mem _ hx), h3, fun x hx hq => ?_⟩
      rcases List.mem_append.1 hq with hq | hq
      · exact h4 x (List.mem_cons_of_mem _ hx) hq
      · rw [List.mem_singleton] at hq
        subst hq
        exact h2 hx
theorem just_eq {l : List Brn} (ha : AscB l) (p : Int) (ks : List Int) : justB l p ks = rkidsF l ks p := by
  unfold justB rkidsF
  rw [Bool.eq_iff_iff, Bool.and_eq_true, decide_eq_true_eq, decide_eq_true_eq, rkids_iff]
  have hw := kidsW_asc ha p
  constructor
  · intro e
    have hp : (kidsW l p).Perm ks := by rw [← e]; exact sortI_perm ks
    refine ⟨⟨fun k hk => ?_, ?_, by simp⟩, hp.length_eq⟩
    · obtain ⟨b, hb, h1, rfl⟩ := kidsW_mem.1 (hp.mem_iff.2 hk)
      exact ⟨b, find_of ha hb, h1⟩
    · exact hp.nodup_iff.1 (hw.imp (fun h => by omega))
  · rintro ⟨⟨h1, h2, -⟩, h3⟩
    have hp : ks.Perm (kidsW l p) := subset_perm ks _ h2 (fun k hk => by
      obtain ⟨b, hb, hbp⟩ := h1 k hk
      obtain ⟨m1, m2⟩ := find_mem hb
      exact kidsW_mem.2 ⟨b, m1, hbp, m2⟩) (by omega)
    exact (sortI_of (hw.imp (fun h => Int.le_of_lt h)) hp.symm).symm
/-- the parent of an ID, 0 where there is none -/
def parO (l : List Brn) (id : Int) : Int := ((findB l id).map Brn.parent).getD 0
theorem upG_zero (l : List Brn) (f : Nat) : upG l f 0 = some [] := by unfold upG; simp
theorem upG_none (l : List Brn) {id : Int} (h : id ≠ 0) : upG l 0 id = none := by unfold upG; simp [h]
theorem upG_succ (l : List Brn) (f : Nat) {id : Int} (h : id ≠ 0) : upG l (f + 1) id = (upG l f (parO l id)).map (id :: ·) := by
  conv => lhs; unfold upG
  rw [if_neg h]
  rfl
theorem upG_more (l : List Brn) : ∀ (f : Nat) (id : Int) (xs : List Int), upG l f id = some xs → upG l (f + 1) id = some xs
  | f, id, xs, h => by
    by_cases h0 : id = 0
    · subst h0; rw [upG_zero] at h ⊢; exact h
    · cases f with
      | zero => rw [upG_none l h0] at h; cases h
      | succ f =>
        rw [upG_succ l f h0] at h
        rw [upG_succ l (f + 1) h0]
        cases hp : upG l f (parO l id) with
        | none => rw [hp] at h; cases h
        | some ys => rw [upG_more l f _ ys hp]; rw [hp] at h; exact h
theorem upG_le (l : List Brn) {f g : Nat} {id : Int} {xs : List Int} (h : upG l f id = some xs) (hg : f ≤ g) : upG l g id = some xs := by
  induction hg with
  | refl => exact h
  | step _ ih => exact upG_more l _ _ _ ih
theorem upG_len (l : List Brn) : ∀ (f : Nat) (id : Int) (xs : List Int), upG l f id = some xs → xs.length ≤ f
  | f, id, xs, h => by
    by_cases h0 : id = 0
    · subst h0; rw [upG_zero] at h; injection h with h; subst h; simp
    · cases f with
      | zero => rw [upG_none l h0] at h; cases h
      | succ f =>
        rw [upG_succ l f h0] at h
        cases hp : upG l f (parO l id) with
        | none => rw [hp] at h; cases h
        | some ys =>
          rw [hp] at h
          injection h with h
          subst h
          have := upG_len l f _ ys hp
          simp
          omega
theorem upG_same (l : List Brn) {f g : Nat} {id : Int} {xs ys : List Int} (h : upG l f id = some xs) (h' : upG l g id = some ys) : xs = ys := by
  have h1 := upG_le l h (Nat.le_max_left f g)
  have h2 := upG_le l h' (Nat.le_max_right f g)
  rw [h1] at h2
  injection h2
/-- what stands in a way up has a way of its own, which is not longer -/
theorem upG_tail (l : List Brn) : ∀ (f : Nat) (id : Int) (xs : List Int), upG l f id = some xs → ∀ x ∈ xs, ∃ g zs, upG l g x = some zs ∧ zs.length ≤ xs.length
  | f, id, xs, h => by
    intro x hx
    by_cases h0 : id = 0
    · subst h0; rw [upG_zero] at h; injection h with h; subst h; cases hx
    · cases f with
      | zero => rw [upG_none l h0] at h; cases h
      | succ f =>
        have h' := h
        rw [upG_succ l f h0] at h
        cases hp : upG l f (parO l id) with
        | none => rw [hp] at h; cases h
        | some ys =>
          rw [hp] at h
          injection h with h
          subst h
          rcases List.mem_cons.1 hx with rfl | hx
          · exact ⟨f + 1, _, h', Nat.le_refl _⟩
          · obtain ⟨g, zs, e, hl⟩ := upG_tail l f _ ys hp x hx
            exact ⟨g, zs, e, by simp; omega⟩
theorem upG_nodup (l : List Brn) : ∀ (f : Nat) (id : Int) (xs : List Int), upG l f id = some xs → xs.Nodup
  | f, id, xs, h => by
    by_cases h0 : id = 0
    · subst h0; rw [upG_zero] at h; injection h with h; subst h; simp
    · cases f with
      | zero => rw [upG_none l h0] at h; cases h
      | succ f =>
        have h' := h
        rw [upG_succ l f h0] at h
        cases hp : upG l f (parO l id) with
        | none => rw [hp] at h; cases h
        | some ys =>
          rw [hp] at h
          injection h with h
          subst h
          refine List.nodup_cons.2 ⟨fun hm => ?_, upG_nodup l f _ ys hp⟩
          obtain ⟨g, zs, e, hl⟩ := upG_tail l f _ ys hp id hm
          have := upG_same l e h'
          subst this
          simp at hl
          omega
/-- every parent is there -/
def Plcd (l : List Brn) : Prop := ∀ b ∈ l, b.parent ≠ 0 → ∃ p, findB l b.parent = some p
theorem upG_in {l : List Brn} (ha : AscB l) (hp : Plcd l) : ∀ (f : Nat) (id : Int) (xs : List Int), (id ≠ 0 → id ∈ l.map Brn.id) → upG l f id = some xs → ∀ x ∈ xs, x ∈ l.map Brn.id
  | f, id, xs, hid, h => by
    intro x hx
    by_cases h0 : id = 0
    · subst h0; rw [upG_zero] at h; injection h with h; subst h; cases hx
    · cases f with
      | zero => rw [upG_none l h0] at h; cases h
      | succ f =>
        rw [upG_succ l f h0] at h
        cases hpp : upG l f (parO l id) with
        | none => rw [hpp] at h; cases h
        | some ys =>
          rw [hpp] at h
          injection h with h
          subst h
          rcases List.mem_cons.1 hx with rfl | hx
          · exact hid h0
          · refine upG_in ha hp f (parO l id) ys (fun hne => ?_) hpp x hx
            obtain ⟨b, hb, rfl⟩ := List.mem_map.1 (hid h0)
            have e : parO l b.id = b.parent := by unfold parO; rw [find_of ha hb]; rfl
            rw [e] at hne ⊢
            obtain ⟨p, hpf⟩ := hp b hb hne
            obtain ⟨m1, m2⟩ := find_mem hpf
            exact List.mem_map.2 ⟨p, m1, m2⟩
theorem up_end {l : List Brn} (ha : AscB l) (hp : Plcd l) {id : Int} (hid : id ∈ l.map Brn.id) (f : Nat) {xs : List Int} (h : upG l f id = some xs) : xs.length ≤ l.length := by
  have := subset_len xs (l.map Brn.id) (upG_nodup l f id xs h) (upG_in ha hp f id xs (fun _ => hid) h)
  simpa using this
theorem upG_trim (l : List Brn) : ∀ (f : Nat) (id : Int) (xs : List Int), upG l f id = some xs → upG l xs.length id = some xs
  | f, id, xs, h => by
    by_cases h0 : id = 0
    · subst h0; rw [upG_zero] at h ⊢; exact h
    · cases f with
      | zero => rw [upG_none l h0] at h; cases h
      | succ f =>
        rw [upG_succ l f h0] at h
        cases hp : upG l f (parO l id) with
        | none => rw [hp] at h; cases h
        | some ys =>
          rw [hp] at h
          injection h with h
          subst h
          show upG l (ys.length + 1) id = _
          rw [upG_succ l _ h0, upG_trim l f _ ys hp]
          rfl
theorem up_fuel {l : List Brn} (ha : AscB l) (hp : Plcd l) {id : Int} (hid : id ∈ l.map Brn.id) {f : Nat} (hf : l.length ≤ f) : upG l f id = upG l l.length id := by
  cases h : upG l f id with
  | some xs => exact (upG_le l (upG_trim l f id xs h) (up_end ha hp hid f h)).symm
  | none =>
    cases h2 : upG l l.length id with
    | none => rfl
    | some xs => rw [upG_le l h2 hf] at h; cases h
/-- the program's count says what the way up says -/
theorem depthG_eq {l : List Brn} (ha : AscB l) (hp : Plcd l) (hpos : ∀ b ∈ l, b.id ≠ 0) : ∀ (f many : Nat) (b : Brn), b ∈ l → f + many = l.length + 2 → 1 ≤ many → depthG l f many b = match upG l f b.id with
    | none => 17
    | some xs => if 12 < xs.length + (many - 1) then 15 else 0
  | 0, many, b, hb, hfm, hm => by
    rw [upG_none l (hpos b hb)]
    rfl
  | f + 1, many, b, hb, hfm, hm => by
    have e : parO l b.id = b.parent := by unfold parO; rw [find_of ha hb]; rfl
    rw [upG_succ l f (hpos b hb), e]
    unfold depthG
    by_cases h0 : b.parent = 0
    · rw [if_pos h0, h0, upG_zero]
      have e2 : ([b.id] : List Int).length + (many - 1) = many := by simp only [List.length_cons, List.length_nil]; omega
      simp only [Option.map_some, e2]
    · rw [if_neg h0]
      obtain ⟨p, hpf⟩ := hp b hb h0
      obtain ⟨m1, m2⟩ := find_mem hpf
      by_cases hl : l.length < many
      · rw [if_pos hl]
        have : f = 0 := by omega
        subst this
        rw [upG_none l h0]
        rfl
      · rw [if_neg hl, hpf]
        show depthG l f (many + 1) p = _
        rw [depthG_eq ha hp hpos f (many + 1) p m1 (by omega) (by omega), m2]
        cases upG l f b.parent with
        | none => rfl
        | some ys =>
          have e2 : (b.id :: ys).length + (many - 1) = ys.length + (many + 1 - 1) := by simp only [List.length_cons]; omega
          simp only [Option.map_some, e2]
theorem depth_eq {l : List Brn} (ha : AscB l) (hp : Plcd l) (hpos : ∀ b ∈ l, b.id ≠ 0) {b : Brn} (hb : b ∈ l) : rdepthF l b = depthF l b := by
  have hid : b.id ∈ l.map Brn.id := List.mem_map.2 ⟨b, hb, rfl⟩
  unfold depthF rdepthF rpathF
  rw [depthG_eq ha hp hpos _ 1 b hb (by omega) (Nat.le_refl _), up_fuel ha hp hid (f := l.length + 1) (Nat.le_succ _)]
  cases h : upG l l.length b.id with
  | none => simp
  | some xs =>
    have hne : xs ≠ [] := by
      intro e
      subst e
      have h0 := hpos b hb
      cases hl : l.length with
      | zero => rw [hl, upG_none l h0] at h; cases h
      | succ n =>
        rw [hl, upG_succ l n h0] at h
        cases hq : upG l n (parO l b.id) <;> rw [hq] at h <;> cases h
    simp [hne]
theorem placed_none {l : List Brn} (h : passF (fun _ => placedF l) l = none) : Plcd l := by
  rw [passF_none'] at h
  intro b hb h0
  have := h b hb
  unfold placedF at this
  rw [if_neg h0] at this
  cases hf : findB l b.parent with
  | none => rw [hf] at this; cases this
  | some p => exact ⟨p, rfl⟩
theorem rchk_eq (t : Tre) : rchkF t = chkF t := by
  unfold rchkF chkF
  split
  · rfl
  · cases h1 : passF aloneF t.brs with
    | some r => rfl
    | none =>
      obtain ⟨ha, hr⟩ := alone_asc h1
      have hpos : ∀ b ∈ t.brs, b.id ≠ 0 := fun b hb => by have := hr b hb; omega
      show (match passF (fun _ => rplaceF t.brs) t.brs with | some r => r | none => _) = (match passF (fun _ => placedF t.brs) t.brs with | some r => r | none => _)
      rw [passF_congr (fun b _ => place_eq t.brs b)]
      cases h2 : passF (fun _ => placedF t.brs) t.brs with
      | some r => rfl
      | none =>
        have hp := placed_none h2
        show (match passF (fun _ => rkidsE t.brs) t.brs with | some r => r | none => _) = (match passF (fun _ => kidsE t.brs) t.brs with | some r => r | none => _)
        rw [passF_congr (g := kidsE t.brs) (fun b _ => by unfold rkidsE kidsE; rw [just_eq ha])]
        cases passF (fun _ => kidsE t.brs) t.brs with
        | some r => rfl
        | none =>
          show (if rkidsF t.brs t.roots 0 = false then _ else _) = (if justB t.brs 0 t.roots = false then _ else _)
          rw [just_eq ha]
          split
          · rfl
          · rw [passF_congr (fun b hb => depth_eq ha hp hpos hb)]
/-- the evidence: the program's check and the reference's -/
theorem pchk_eq (l : List Came) : rpchkF l = pchkF l := by
  unfold rpchkF pchkF
  split
  · rfl
  · congr 1
    unfold passF
    have gen : ∀ (r q : List Came), q.Pairwise (fun a b => a.unit < b.unit) → passG rcamF q r = passG camF q r := by
      intro r
      induction r with
      | nil => intro q _; rfl
      | cons c r ih =>
        intro q hq
        unfold passG
        by_cases h1 : camB c = false
        · have e1 : rcamF q c = 2 := by unfold rcamF; rw [if_pos h1]
          have e2 : camF q c = 2 := by unfold camF; rw [if_pos h1]
          rw [e1, e2, if_pos (by decide), if_pos (by decide)]
        · by_cases h2 : (q.getLast?.any fun x => decide (c.unit ≤ x.unit)) = true
          · have e1 : rcamF q c = 5 := by unfold rcamF; rw [if_neg h1, if_pos h2]
            have e2 : camF q c = 5 := by unfold camF; rw [if_neg h1, if_pos h2]
            rw [e1, e2, if_pos (by decide), if_pos (by decide)]
          · have hlt : ∀ x ∈ q, x.unit < c.unit := by
              intro x hx
              rcases List.eq_nil_or_concat q with rfl | ⟨q', y, rfl⟩
              · cases hx
              · rw [List.concat_eq_append] at hx h2 hq
                rw [List.getLast?_append] at h2
                simp at h2
                rcases List.mem_append.1 hx with hx | hx
                · have := (List.pairwise_append.1 hq).2.2 x hx y (by simp)
                  omega
                · rw [List.mem_singleton] at hx
                  subst hx
                  omega
            have e : rcamF q c = camF q c := by
              unfold rcamF camF
              rw [if_neg h1, if_neg h1, if_neg h2, if_neg h2]
              unfold rclashF clashF
              have hu : ∀ x ∈ q, decide (x.unit = c.unit) = false := fun x hx => by have := hlt x hx; simp; omega
              by_cases h0 : c.accession = 0
              · rw [if_pos h0]
                have n1 : (q.any fun x => decide (x.unit = c.unit) || decide (c.accession ≠ 0) && decide (x.accession = c.accession) && decide (x.number = c.number)) = false := by
                  rw [List.any_eq_false]
                  intro x hx
                  rw [hu x hx]
                  simp [h0]
                have n2 : (q.any fun x => decide (c.accession ≠ 0) && decide (x.accession = c.accession) && decide (x.office ≠ c.office)) = false := by
                  rw [List.any_eq_false]
                  intro x hx
                  simp [h0]
                rw [n1, n2]
                rfl
              · rw [if_neg h0]
                have n1 : (q.any fun x => decide (x.unit = c.unit) || decide (c.accession ≠ 0) && decide (x.accession = c.accession) && decide (x.number = c.number)) = q.any fun x => decide (x.accession = c.accession) && decide (x.number = c.number) := by
                  rw [Bool.eq_iff_iff, List.any_eq_true, List.any_eq_true]
                  constructor
                  · rintro ⟨x, hx, h⟩
                    rw [hu x hx] at h
                    exact ⟨x, hx, by simpa [h0] using h⟩
                  · rintro ⟨x, hx, h⟩
                    exact ⟨x, hx, by rw [hu x hx]; simpa [h0] using h⟩
                have n2 : (q.any fun x => decide (c.accession ≠ 0) && decide (x.accession = c.accession) && decide (x.office ≠ c.office)) = q.any fun x => decide (x.accession = c.accession) && decide (x.office ≠ c.office) := by
                  congr 1
                  funext x
                  simp [h0]
                rw [n1, n2]
            rw [e, ih (q ++ [c]) (List.pairwise_append.2 ⟨hq, List.pairwise_singleton _ _, fun a ha b hb => by rw [List.mem_singleton] at hb; subst hb; exact hlt a ha⟩)]
    exact gen l [] List.Pairwise.nil

structure RightT (t : Tre) : Prop where
  asc : AscB t.brs
  pos : ∀ b ∈ t.brs, 1 ≤ b.id ∧ b.id ≤ 1073741824 ∧ 1 ≤ b.level ∧ b.level ≤ 4
  name : ∀ b ∈ t.brs, nameB b.title = true ∧ (b.mark ≠ ⟨#[]⟩ → markB b.mark = true)
  plcd : Plcd t.brs
  fits : ∀ b ∈ t.brs, (b.parent = 0 → b.level = 1) ∧ ∀ p, b.parent ≠ 0 → findB t.brs b.parent = some p → fitB p.level b.level = true
  kids : ∀ b ∈ t.brs, sortI b.kids = kidsW t.brs b.id
  tops : sortI t.roots = kidsW t.brs 0
  up : ∀ b ∈ t.brs, ∃ xs, upG t.brs t.brs.length b.id = some xs ∧ xs.length ≤ 12
  few : t.brs.length ≤ 256
theorem alone_names {l : List Brn} (h : passF aloneF l = none) : ∀ b ∈ l, nameB b.title = true ∧ (b.mark ≠ ⟨#[]⟩ → markB b.mark = true) := by
  rw [passF_none] at h
  intro b hb
  obtain ⟨i, hi⟩ := List.getElem?_of_mem hb
  have h0 := h i b hi
  unfold aloneF at h0
  split at h0
  · cases h0
  split at h0
  · cases h0
  split at h0
  · cases h0
  rename_i e3
  split at h0
  · cases h0
  rename_i e4
  refine ⟨by simpa using e3, fun hm => ?_⟩
  cases hb : markB b.mark with
  | true => rfl
  | false => exact absurd ⟨hm, hb⟩ e4
theorem placed_fits {l : List Brn} (h : passF (fun _ => placedF l) l = none) : ∀ b ∈ l, (b.parent = 0 → b.level = 1) ∧ ∀ p, b.parent ≠ 0 → findB l b.parent = some p → fitB p.level b.level = true := by
  rw [passF_none'] at h
  intro b hb
  have := h b hb
  unfold placedF at this
  refine ⟨fun h0 => ?_, fun p h0 hp => ?_⟩
  · rw [if_pos h0] at this
    split at this
    · cases this
    · rename_i e; simpa using e
  · rw [if_neg h0, hp] at this
    simp only at this
    split at this
    · cases this
    · rename_i e
      cases hf : fitB p.level b.level with
      | true => rfl
      | false => exact absurd (.inr hf) e
theorem right_of {t : Tre} (h : rightT t = true) : RightT t := by
  unfold rightT at h
  rw [decide_eq_true_eq] at h
  unfold chkF at h
  split at h
  · cases h
  rename_i hlen
  cases h1 : passF aloneF t.brs with
  | some r =>
    rw [h1] at h
    simp only at h
    have : ∀ (r q : List Brn) (f : List Brn → Brn → Int) e, passG f q r = some e → e.2 ≠ 0 := by
      intro r
      induction r with
      | nil => intro q f e he; cases he
      | cons b r ih =>
        intro q f e he
        unfold passG at he
        split at he
        · rename_i hne; injection he with he; subst he; exact hne
        · exact ih _ f e he
    exact absurd h (this _ _ _ _ h1)
  | none =>
  have hne : ∀ (r q : List Brn) (f : List Brn → Brn → Int) e, passG f q r = some e → e.2 ≠ 0 := by
    intro r
    induction r with
    | nil => intro q f e he; cases he
    | cons b r ih =>
      intro q f e he
      unfold passG at he
      split at he
      · rename_i hne; injection he with he; subst he; exact hne
      · exact ih _ f e he
  rw [h1] at h
  simp only at h
  cases h2 : passF (fun _ => placedF t.brs) t.brs with
  | some r => rw [h2] at h; exact absurd h (hne _ _ _ _ h2)
  | none =>
  rw [h2] at h
  simp only at h
  cases h3 : passF (fun _ => kidsE t.brs) t.brs with
  | some r => rw [h3] at h; exact absurd h (hne _ _ _ _ h3)
  | none =>
  rw [h3] at h
  simp only at h
  split at h
  · cases h
  rename_i h4
  cases h5 : passF (fun _ => depthF t.brs) t.brs with
  | some r => rw [h5] at h; exact absurd h (hne _ _ _ _ h5)
  | none =>
  obtain ⟨ha, hr⟩ := alone_asc h1
  have hpos : ∀ b ∈ t.brs, b.id ≠ 0 := fun b hb => by have := hr b hb; omega
  have hp := placed_none h2
  rw [passF_none'] at h3 h5
  refine ⟨ha, hr, alone_names h1, hp, placed_fits h2, fun b hb => ?_, ?_, fun b hb => ?_, by omega⟩
  · have := h3 b hb
    unfold kidsE at this
    split at this
    · cases this
    · rename_i e
      unfold justB at e
      simpa using e
  · unfold justB at h4
    simpa using h4
  · have := h5 b hb
    rw [← depth_eq ha hp hpos hb] at this
    unfold rdepthF rpathF at this
    cases hu : upG t.brs t.brs.length b.id with
    | none => rw [hu] at this; simp at this
    | some xs =>
      refine ⟨xs, rfl, ?_⟩
      rw [hu] at this
      simp only [Option.getD_some, List.length_reverse] at this
      split at this
      · cases this
      split at this
      · cases this
      · omega
/-- the way up -/
def upF (l : List Brn) (id : Int) : List Int := (upG l l.length id).getD []
def depN (l : List Brn) (id : Int) : Nat := (upF l id).length
section
variable {t : Tre} (T : RightT t)
include T
theorem RightT.find {b : Brn} (hb : b ∈ t.brs) : findB t.brs b.id = some b := find_of T.asc hb
theorem RightT.ids : (t.brs.map Brn.id).Nodup := by
  unfold List.Nodup
  rw [List.pairwise_map]
  exact T.asc.imp (fun h => by omega)
theorem RightT.par {b : Brn} (hb : b ∈ t.brs) : parO t.brs b.id = b.parent := by unfold parO; rw [T.find hb]; rfl
theorem RightT.upIs {b : Brn} (hb : b ∈ t.brs) : upG t.brs t.brs.length b.id = some (upF t.brs b.id) ∧ depN t.brs b.id ≤ 12 := by
  obtain ⟨xs, h1, h2⟩ := T.up b hb
  unfold depN upF
  rw [h1]
  exact ⟨rfl, h2⟩
theorem RightT.upAny {b : Brn} (hb : b ∈ t.brs) {f : Nat} (hf : t.brs.length ≤ f) : upG t.brs f b.id = some (upF t.brs b.id) := upG_le _ (T.upIs hb).1 hf
theorem RightT.upTop {b : Brn} (hb : b ∈ t.brs) (h : b.parent = 0) : upF t.brs b.id = [b.id] := by
  have h1 := T.upAny hb (Nat.le_succ _)
  rw [upG_succ _ _ (by have := T.pos b hb; omega), T.par hb, h, upG_zero] at h1
  injection h1 with h1
  exact h1.symm
theorem RightT.upKid {b p : Brn} (hb : b ∈ t.brs) (_ : b.parent ≠ 0) (hp : findB t.brs b.parent = some p) : upF t.brs b.id = b.id :: upF t.brs p.id := by
  obtain ⟨m1, m2⟩ := find_mem hp
  have h1 := T.upAny hb (Nat.le_succ _)
  rw [upG_succ _ _ (by have := T.pos b hb; omega), T.par hb, ← m2, (T.upIs m1).1] at h1
  injection h1 with h1
  exact h1.symm
theorem RightT.dep_pos {b : Brn} (hb : b ∈ t.brs) : 1 ≤ depN t.brs b.id := by
  unfold depN
  by_cases h : b.parent = 0
  · rw [T.upTop hb h]; simp
  · obtain ⟨p, hp⟩ := T.plcd b hb h
    rw [T.upKid hb h hp]; simp
theorem RightT.kid_iff {b : Brn} (hb : b ∈ t.brs) {k : Int} : k ∈ b.kids ↔ ∃ c ∈ t.brs, c.parent = b.id ∧ c.id = k := by
  rw [← kidsW_mem, ← T.kids b hb]
  exact (sortI_perm b.kids).mem_iff.symm
theorem RightT.top_iff {k : Int} : k ∈ t.roots ↔ ∃ c ∈ t.brs, c.parent = 0 ∧ c.id = k := by
  rw [← kidsW_mem, ← T.tops]
  exact (sortI_perm t.roots).mem_iff.symm
theorem RightT.kids_nodup {b : Brn} (hb : b ∈ t.brs) : b.kids.Nodup := by
  have h := (kidsW_asc T.asc b.id).imp (fun h => Int.ne_of_lt h)
  rw [← T.kids b hb] at h
  exact (sortI_perm b.kids).nodup_iff.1 h
theorem RightT.tops_nodup : t.roots.Nodup := by
  have h := (kidsW_asc T.asc 0).imp (fun h => Int.ne_of_lt h)
  rw [← T.tops] at h
  exact (sortI_perm t.roots).nodup_iff.1 h
theorem RightT.kid_up {b c : Brn} (hb : b ∈ t.brs) (hc : c ∈ t.brs) (h : c.parent = b.id) : upF t.brs c.id = c.id :: upF t.brs b.id := by
  refine T.upKid hc (by have := T.pos b hb; omega) ?_
  rw [h]
  exact T.find hb
theorem RightT.kid_dep {b c : Brn} (hb : b ∈ t.brs) (hc : c ∈ t.brs) (h : c.parent = b.id) : depN t.brs c.id = depN t.brs b.id + 1 := by
  unfold depN
  rw [T.kid_up hb hc h]
  rfl
end
/-- the children of an ID -/
def kidsO (l : List Brn) (id : Int) : List Int := ((findB l id).map Brn.kids).getD []
/-- a unit and what is below it, in order, each with the number of units above it -/
def preG (l : List Brn) : Nat → Nat → Int → List (Int × Nat)
  | 0, _, _ => []
  | f + 1, a, id => (id, a) :: (kidsO l id).flatMap (preG l f (a + 1))
def preF (l : List Brn) (a : Nat) (id : Int) : List (Int × Nat) := preG l 12 a id
def preT (t : Tre) (id : Int) : List (Int × Nat) := if id = 0 then t.roots.flatMap (preF t.brs 0) else preF t.brs 0 id
def belT (t : Tre) (id : Int) : List Int := (preT t id).map Prod.fst
section
variable {t : Tre} (T : RightT t)
include T
theorem RightT.kidsO_of {b : Brn} (hb : b ∈ t.brs) : kidsO t.brs b.id = b.kids := by unfold kidsO; rw [T.find hb]; rfl
theorem RightT.pre_fuel : ∀ (f g a : Nat) (b : Brn), b ∈ t.brs → 12 < f + depN t.brs b.id → 12 < g + depN t.brs b.id → preG t.brs f a b.id = preG t.brs g a b.id
  | 0, g, a, b, hb, hf, hg => by have := (T.upIs hb).2; omega
  | f + 1, 0, a, b, hb, hf, hg => by have := (T.upIs hb).2; omega
  | f + 1, g + 1, a, b, hb, hf, hg => by
    unfold preG
    rw [T.kidsO_of hb]
    congr 1
    rw [List.flatMap_def, List.flatMap_def]
    congr 1
    refine List.map_congr_left fun k hk => ?_
    obtain ⟨c, hc, h1, rfl⟩ := (T.kid_iff hb).1 hk
    have := T.kid_dep hb hc h1
    exact RightT.pre_fuel f g (a + 1) c hc (by omega) (by omega)
theorem RightT.pre_step {a : Nat} {b : Brn} (hb : b ∈ t.brs) : preF t.brs a b.id = (b.id, a) :: b.kids.flatMap (preF t.brs (a + 1)) := by
  unfold preF
  conv => lhs; unfold preG
  rw [T.kidsO_of hb]
  congr 1
  rw [List.flatMap_def, List.flatMap_def]
  congr 1
  refine List.map_congr_left fun k hk => ?_
  obtain ⟨c, hc, h1, rfl⟩ := (T.kid_iff hb).1 hk
  have := T.kid_dep hb hc h1
  have := T.dep_pos hb
  exact T.pre_fuel 11 12 (a + 1) c hc (by omega) (by omega)
/-- what is below a unit is where it stands in the way up -/
theorem RightT.pre_mem : ∀ (f a : Nat) (b : Brn), b ∈ t.brs → 12 < f + depN t.brs b.id → ∀ (x : Int) (n : Nat), (x, n) ∈ preG t.brs f a b.id ↔ ∃ c ∈ t.brs, c.id = x ∧ b.id ∈ upF t.brs x ∧ n + depN t.brs b.id = a + depN t.brs x
  | 0, a, b, hb, hf, x, n => by have := (T.upIs hb).2; omega
  | f + 1, a, b, hb, hf, x, n => by
    unfold preG
    rw [T.kidsO_of hb, List.mem_cons, List.mem_flatMap]
    constructor
    · rintro (e | ⟨k, hk, hm⟩)
      · injection e with e1 e2
        subst e1 e2
        refine ⟨b, hb, rfl, ?_, rfl⟩
        by_cases h : b.parent = 0
        · rw [T.upTop hb h]; simp
        · obtain ⟨p, hp⟩ := T.plcd b hb h
          rw [T.upKid hb h hp]; simp
      · obtain ⟨c, hc, h1, rfl⟩ := (T.kid_iff hb).1 hk
        have hd := T.kid_dep hb hc h1
        obtain ⟨y, hy, rfl, hu, hn⟩ := (RightT.pre_mem f (a + 1) c hc (by omega) x n).1 hm
        refine ⟨y, hy, rfl, ?_, by omega⟩
        obtain ⟨g, zs, hz, -⟩ := upG_tail t.brs _ _ _ (T.upIs hy).1 c.id hu
        -- c's way up ends y's
        have : ∀ (f : Nat) (id : Int) (xs : List Int), upG t.brs f id = some xs → c.id ∈ xs → ∀ z ∈ upF t.brs c.id, z ∈ xs := by
          intro f
          induction f with
          | zero =>
            intro id xs h hm z hz
            by_cases h0 : id = 0
            · subst h0; rw [upG_zero] at h; injection h with h; subst h; cases hm
            · rw [upG_none _ h0] at h; cases h
          | succ f ih =>
            intro id xs h hm z hz
            by_cases h0 : id = 0
            · subst h0; rw [upG_zero] at h; injection h with h; subst h; cases hm
            · have h' := h
              rw [upG_succ _ f h0] at h
              cases hp : upG t.brs f (parO t.brs id) with
              | none => rw [hp] at h; cases h
              | some ys =>
                rw [hp] at h
                injection h with h
                subst h
                rcases List.mem_cons.1 hm with e | hm
                · have e2 := upG_same t.brs h' (e ▸ (T.upIs hc).1 : upG t.brs t.brs.length id = some (upF t.brs c.id))
                  rw [e2]
                  exact hz
                · exact List.mem_cons_of_mem _ (ih _ ys hp hm z hz)
        refine this _ _ _ (T.upIs hy).1 hu b.id ?_
        rw [T.kid_up hb hc h1]
        refine List.mem_cons_of_mem _ ?_
        by_cases h : b.parent = 0
        · rw [T.upTop hb h]; simp
        · obtain ⟨p, hp⟩ := T.plcd b hb h
          rw [T.upKid hb h hp]; simp
    · rintro ⟨y, hy, rfl, hu, hn⟩
      by_cases e : y.id = b.id
      · left
        have : y = b := asc_uniq T.asc hy hb e
        subst this
        rw [show n = a by omega]
      · right
        -- the unit that stands before b in y's way up
        have key : ∀ (m : Nat) (y : Brn), y ∈ t.brs → depN t.brs y.id ≤ m → y.id ≠ b.id → b.id ∈ upF t.brs y.id → ∃ c ∈ t.brs, c.parent = b.id ∧ c.id ∈ upF t.brs y.id := by
          intro m
          induction m with
          | zero => intro y hy hd; have := T.dep_pos hy; omega
          | succ m ih =>
            intro y hy hd hne hu
            by_cases h : y.parent = 0
            · rw [T.upTop hy h] at hu
              exact absurd (List.mem_singleton.1 hu).symm hne
            · obtain ⟨p, hp⟩ := T.plcd y hy h
              obtain ⟨m1, m2⟩ := find_mem hp
              rw [T.upKid hy h hp] at hu ⊢
              rcases List.mem_cons.1 hu with e | hu
              · exact absurd e.symm hne
              · by_cases e : p.id = b.id
                · exact ⟨y, hy, by rw [← e, m2], List.mem_cons_self ..⟩
                · have hdp : depN t.brs y.id = depN t.brs p.id + 1 := T.kid_dep m1 hy m2.symm
                  obtain ⟨c, hc, h1, h2⟩ := ih p m1 (by omega) e hu
                  exact ⟨c, hc, h1, List.mem_cons_of_mem _ h2⟩
        obtain ⟨c, hc, h1, h2⟩ := key _ y hy (Nat.le_refl _) e hu
        have hd := T.kid_dep hb hc h1
        exact ⟨c.id, (T.kid_iff hb).2 ⟨c, hc, h1, rfl⟩, (RightT.pre_mem f (a + 1) c hc (by omega) y.id n).2 ⟨y, hy, rfl, h2, by omega⟩⟩
end

theorem preG_fst (l : List Brn) : ∀ (f a b : Nat) (id : Int), (preG l f a id).map Prod.fst = (preG l f b id).map Prod.fst
  | 0, _, _, _ => rfl
  | f + 1, a, b, id => by
    unfold preG
    rw [List.map_cons, List.map_cons, List.map_flatMap, List.map_flatMap]
    congr 1
    rw [List.flatMap_def, List.flatMap_def]
    congr 1
    exact List.map_congr_left fun k _ => preG_fst l f (a + 1) (b + 1) k
section
variable {t : Tre} (T : RightT t)
include T
theorem RightT.bel_mem {b : Brn} (hb : b ∈ t.brs) {a : Nat} {x : Int} : x ∈ (preF t.brs a b.id).map Prod.fst ↔ ∃ c ∈ t.brs, c.id = x ∧ b.id ∈ upF t.brs x := by
  have hd := T.dep_pos hb
  rw [List.mem_map]
  constructor
  · rintro ⟨⟨y, n⟩, hm, rfl⟩
    obtain ⟨c, h1, h2, h3, -⟩ := (T.pre_mem 12 a b hb (by omega) y n).1 hm
    exact ⟨c, h1, h2, h3⟩
  · rintro ⟨c, hc, rfl, hu⟩
    -- the way up of c is at least as long as that of b
    obtain ⟨g, zs, hz, hl⟩ := upG_tail t.brs _ _ _ (T.upIs hc).1 b.id hu
    have e := upG_same t.brs hz (T.upIs hb).1
    subst e
    exact ⟨(c.id, a + depN t.brs c.id - depN t.brs b.id), (T.pre_mem 12 a b hb (by omega) c.id _).2 ⟨c, hc, rfl, hu, by unfold depN at *; omega⟩, rfl⟩
theorem RightT.up_self {b : Brn} (hb : b ∈ t.brs) : b.id ∈ upF t.brs b.id := by
  by_cases h : b.parent = 0
  · rw [T.upTop hb h]; simp
  · obtain ⟨p, hp⟩ := T.plcd b hb h
    rw [T.upKid hb h hp]; simp
/-- a part of a way up at the same height is the same -/
theorem RightT.up_one : ∀ (m : Nat) (y : Brn), y ∈ t.brs → depN t.brs y.id ≤ m → ∀ c ∈ t.brs, ∀ d ∈ t.brs, c.id ∈ upF t.brs y.id → d.id ∈ upF t.brs y.id → depN t.brs c.id = depN t.brs d.id → c = d
  | 0, y, hy, hm => by have := T.dep_pos hy; omega
  | m + 1, y, hy, hm => by
    intro c hc d hd h1 h2 he
    have hc' : ∀ x ∈ t.brs, x.id ∈ upF t.brs y.id → x = y ∨ ∃ p ∈ t.brs, findB t.brs y.parent = some p ∧ y.parent ≠ 0 ∧ x.id ∈ upF t.brs p.id := by
      intro x hx hu
      by_cases h : y.parent = 0
      · rw [T.upTop hy h] at hu
        exact .inl (asc_uniq T.asc hx hy (List.mem_singleton.1 hu))
      · obtain ⟨p, hp⟩ := T.plcd y hy h
        rw [T.upKid hy h hp] at hu
        rcases List.mem_cons.1 hu with e | hu
        · exact .inl (asc_uniq T.asc hx hy e)
        · exact .inr ⟨p, (find_mem hp).1, hp, h, hu⟩
    have hle : ∀ x ∈ t.brs, ∀ p ∈ t.brs, x.id ∈ upF t.brs p.id → depN t.brs x.id ≤ depN t.brs p.id := by
      intro x hx p hp hu
      obtain ⟨g, zs, hz, hl⟩ := upG_tail t.brs _ _ _ (T.upIs hp).1 x.id hu
      have e := upG_same t.brs hz (T.upIs hx).1
      subst e
      exact hl
    rcases hc' c hc h1 with rfl | ⟨p, hp, hpf, hp0, hu⟩
    · rcases hc' d hd h2 with rfl | ⟨p, hp, hpf, hp0, hu⟩
      · rfl
      · have := hle d hd p hp hu
        have := T.kid_dep hp hc (find_mem hpf).2.symm
        omega
    · have hk := T.kid_dep hp hy (find_mem hpf).2.symm
      rcases hc' d hd h2 with rfl | ⟨p', hp', hpf', hp0', hu'⟩
      · have := hle c hc p hp hu
        omega
      · rw [hpf] at hpf'
        injection hpf' with e
        subst e
        exact RightT.up_one m p hp (by omega) c hc d hd hu hu' he
theorem RightT.pre_nodup : ∀ (f a : Nat) (b : Brn), b ∈ t.brs → 12 < f + depN t.brs b.id → ((preG t.brs f a b.id).map Prod.fst).Nodup
  | 0, _, b, hb, hf => by have := (T.upIs hb).2; omega
  | f + 1, a, b, hb, hf => by
    unfold preG
    rw [T.kidsO_of hb, List.map_cons, List.map_flatMap, List.nodup_cons]
    have hm : ∀ k ∈ b.kids, ∀ x ∈ (preG t.brs f (a + 1) k).map Prod.fst, ∃ c ∈ t.brs, c.parent = b.id ∧ c.id = k ∧ ∃ y ∈ t.brs, y.id = x ∧ c.id ∈ upF t.brs x := by
      intro k hk x hx
      obtain ⟨c, hc, h1, rfl⟩ := (T.kid_iff hb).1 hk
      have hd := T.kid_dep hb hc h1
      obtain ⟨⟨x', n⟩, hx', rfl⟩ := List.mem_map.1 hx
      obtain ⟨y, hy, h2, h3, -⟩ := (T.pre_mem f (a + 1) c hc (by omega) x' n).1 hx'
      exact ⟨c, hc, h1, rfl, y, hy, h2, h3⟩
    refine ⟨fun h => ?_, ?_⟩
    · rw [List.mem_flatMap] at h
      obtain ⟨k, hk, hx⟩ := h
      obtain ⟨c, hc, h1, -, y, hy, h2, h3⟩ := hm k hk _ hx
      -- c would stand in b's way up
      obtain ⟨g, zs, hz, hl⟩ := upG_tail t.brs _ _ _ (T.upIs hb).1 c.id h3
      have e := upG_same t.brs hz (T.upIs hc).1
      subst e
      have := T.kid_dep hb hc h1
      unfold depN at this
      omega
    · unfold List.Nodup
      rw [List.pairwise_flatMap]
      refine ⟨fun k hk => ?_, (T.kids_nodup hb).imp_of_mem ?_⟩
      · obtain ⟨c, hc, h1, rfl⟩ := (T.kid_iff hb).1 hk
        have hd := T.kid_dep hb hc h1
        exact RightT.pre_nodup f (a + 1) c hc (by omega)
      · intro k k' hk hk' hne x hx y hy e
        subst e
        obtain ⟨c, hc, h1, rfl, z, hz, h2, h3⟩ := hm k hk x hx
        obtain ⟨c', hc', h1', rfl, z', hz', h2', h3'⟩ := hm k' hk' x hy
        subst h2
        have := T.up_one _ z hz (Nat.le_refl _) c hc c' hc' h3 h3' (by rw [T.kid_dep hb hc h1, T.kid_dep hb hc' h1'])
        exact hne (by rw [this])
theorem RightT.below_nodup {b : Brn} (hb : b ∈ t.brs) (a : Nat) : ((preF t.brs a b.id).map Prod.fst).Nodup := T.pre_nodup 12 a b hb (by have := T.dep_pos hb; omega)
theorem RightT.id_ne {b : Brn} (hb : b ∈ t.brs) : b.id ≠ 0 := by have := T.pos b hb; omega
omit T in
theorem all_is : belT t 0 = t.roots.flatMap fun k => (preF t.brs 0 k).map Prod.fst := by
  unfold belT preT
  rw [if_pos rfl, List.map_flatMap]
theorem RightT.bel_is {b : Brn} (hb : b ∈ t.brs) : belT t b.id = (preF t.brs 0 b.id).map Prod.fst := by
  unfold belT preT
  rw [if_neg (T.id_ne hb)]
/-- the top of a way up -/
theorem RightT.top_in : ∀ (m : Nat) (y : Brn), y ∈ t.brs → depN t.brs y.id ≤ m → ∃ c ∈ t.brs, c.parent = 0 ∧ c.id ∈ upF t.brs y.id
  | 0, y, hy, hm => by have := T.dep_pos hy; omega
  | m + 1, y, hy, hm => by
    by_cases h : y.parent = 0
    · exact ⟨y, hy, h, T.up_self hy⟩
    · obtain ⟨p, hp⟩ := T.plcd y hy h
      have hk := T.kid_dep (find_mem hp).1 hy (find_mem hp).2.symm
      obtain ⟨c, hc, h1, h2⟩ := RightT.top_in m p (find_mem hp).1 (by omega)
      exact ⟨c, hc, h1, by rw [T.upKid hy h hp]; exact List.mem_cons_of_mem _ h2⟩
theorem RightT.all_mem {x : Int} : x ∈ belT t 0 ↔ x ∈ t.brs.map Brn.id := by
  rw [all_is, List.mem_flatMap, List.mem_map]
  constructor
  · rintro ⟨k, hk, hx⟩
    obtain ⟨c, hc, -, rfl⟩ := T.top_iff.1 hk
    obtain ⟨y, hy, h, -⟩ := (T.bel_mem hc).1 hx
    exact ⟨y, hy, h⟩
  · rintro ⟨y, hy, rfl⟩
    obtain ⟨c, hc, h0, hu⟩ := T.top_in _ y hy (Nat.le_refl _)
    exact ⟨c.id, T.top_iff.2 ⟨c, hc, h0, rfl⟩, (T.bel_mem hc).2 ⟨y, hy, rfl, hu⟩⟩
theorem RightT.all_nodup : (belT t 0).Nodup := by
  rw [all_is]
  unfold List.Nodup
  rw [List.pairwise_flatMap]
  refine ⟨fun k hk => ?_, T.tops_nodup.imp_of_mem ?_⟩
  · obtain ⟨c, hc, h1, rfl⟩ := T.top_iff.1 hk
    exact T.below_nodup hc 0
  · intro k k' hk hk' hne x hx y hy e
    subst e
    obtain ⟨c, hc, h1, rfl⟩ := T.top_iff.1 hk
    obtain ⟨c', hc', h1', rfl⟩ := T.top_iff.1 hk'
    obtain ⟨z, hz, h2, h3⟩ := (T.bel_mem hc).1 hx
    obtain ⟨z', hz', h2', h3'⟩ := (T.bel_mem hc').1 hy
    subst h2
    have := T.up_one _ z hz (Nat.le_refl _) c hc c' hc' h3 h3' (by unfold depN; rw [T.upTop hc h1, T.upTop hc' h1']; rfl)
    exact hne (by rw [this])
theorem RightT.all_perm : (belT t 0).Perm (t.brs.map Brn.id) := by
  refine subset_perm _ _ T.all_nodup (fun k hk => T.all_mem.1 hk) ?_
  exact subset_len _ _ T.ids (fun k hk => T.all_mem.2 hk)
/-- what is below a unit stands together -/
theorem RightT.pre_part : ∀ (f a : Nat) (b : Brn), b ∈ t.brs → 12 < f + depN t.brs b.id → ∀ c ∈ t.brs, b.id ∈ upF t.brs c.id → ∃ A C, (preG t.brs f a b.id).map Prod.fst = A ++ belT t c.id ++ C ∧ (c.id ≠ b.id → b.id ∈ A ∧ ∀ p ∈ t.brs, c.parent = p.id → p.id ∈ A)
  | 0, _, b, hb, hf => by have := (T.upIs hb).2; omega
  | f + 1, a, b, hb, hf => by
    intro c hc hu
    by_cases e : c.id = b.id
    · obtain rfl : c = b := asc_uniq T.asc hc hb e
      refine ⟨[], [], ?_, fun h => absurd rfl h⟩
      rw [List.nil_append, List.append_nil, T.bel_is hb]
      unfold preF
      rw [preG_fst t.brs 12 0 a, T.pre_fuel (f + 1) 12 a c hb hf (by have := T.dep_pos hb; omega)]
    · -- the child of b that stands in c's way up
      have key : ∀ (m : Nat) (y : Brn), y ∈ t.brs → depN t.brs y.id ≤ m → y.id ≠ b.id → b.id ∈ upF t.brs y.id → ∃ d ∈ t.brs, d.parent = b.id ∧ d.id ∈ upF t.brs y.id := by
        intro m
        induction m with
        | zero => intro y hy hd; have := T.dep_pos hy; omega
        | succ m ih =>
          intro y hy hd hne hu
          by_cases h : y.parent = 0
          · rw [T.upTop hy h] at hu
            exact absurd (List.mem_singleton.1 hu).symm hne
          · obtain ⟨p, hp⟩ := T.plcd y hy h
            obtain ⟨m1, m2⟩ := find_mem hp
            rw [T.upKid hy h hp] at hu ⊢
            rcases List.mem_cons.1 hu with e | hu
            · exact absurd e.symm hne
            · by_cases e : p.id = b.id
              · exact ⟨y, hy, by rw [← e, m2], List.mem_cons_self ..⟩
              · have hdp : depN t.brs y.id = depN t.brs p.id + 1 := T.kid_dep m1 hy m2.symm
                obtain ⟨d, hd', h1, h2⟩ := ih p m1 (by omega) e hu
                exact ⟨d, hd', h1, List.mem_cons_of_mem _ h2⟩
      obtain ⟨d, hd, h1, h2⟩ := key _ c hc (Nat.le_refl _) e hu
      have hdd := T.kid_dep hb hd h1
      obtain ⟨A, C, h3, h4⟩ := RightT.pre_part f (a + 1) d hd (by omega) c hc h2
      obtain ⟨P, Q, hPQ⟩ := List.append_of_mem ((T.kid_iff hb).2 ⟨d, hd, h1, rfl⟩)
      refine ⟨b.id :: ((P.flatMap fun k => (preG t.brs f (a + 1) k).map Prod.fst) ++ A), C ++ Q.flatMap fun k => (preG t.brs f (a + 1) k).map Prod.fst, ?_, fun _ => ⟨List.mem_cons_self .., fun p hp hpp => ?_⟩⟩
      · rw [show preG t.brs (f + 1) a b.id = (b.id, a) :: (kidsO t.brs b.id).flatMap (preG t.brs f (a + 1)) from rfl, T.kidsO_of hb, List.map_cons, List.map_flatMap, hPQ, List.flatMap_append, List.flatMap_cons, h3]
        simp
      · by_cases e2 : c.id = d.id
        · obtain rfl : c = d := asc_uniq T.asc hc hd e2
          rw [h1] at hpp
          rw [← hpp]
          exact List.mem_cons_self ..
        · exact List.mem_cons_of_mem _ (List.mem_append_right _ ((h4 e2).2 p hp hpp))
theorem RightT.all_part {c : Brn} (hc : c ∈ t.brs) : ∃ A C, belT t 0 = A ++ belT t c.id ++ C ∧ (c.parent ≠ 0 → c.parent ∈ A) := by
  obtain ⟨r, hr, h0, hu⟩ := T.top_in _ c hc (Nat.le_refl _)
  obtain ⟨A, C, h1, h2⟩ := T.pre_part 12 0 r hr (by have := T.dep_pos hr; omega) c hc hu
  obtain ⟨P, Q, hPQ⟩ := List.append_of_mem (T.top_iff.2 ⟨r, hr, h0, rfl⟩)
  refine ⟨(P.flatMap fun k => (preF t.brs 0 k).map Prod.fst) ++ A, C ++ Q.flatMap fun k => (preF t.brs 0 k).map Prod.fst, ?_, fun hp => ?_⟩
  · rw [all_is, hPQ, List.flatMap_append, List.flatMap_cons]
    show _ ++ ((preG t.brs 12 0 r.id).map Prod.fst ++ _) = _
    rw [h1]
    simp
  · obtain ⟨p, hpf⟩ := T.plcd c hc hp
    obtain ⟨m1, m2⟩ := find_mem hpf
    have hne : c.id ≠ r.id := fun e => hp (by rw [asc_uniq T.asc hc hr e]; exact h0)
    rw [← m2]
    exact List.mem_append_right _ ((h2 hne).2 p m1 m2.symm)
theorem RightT.bel_head {c : Brn} (hc : c ∈ t.brs) : ∃ r, belT t c.id = c.id :: r := by
  rw [T.bel_is hc, T.pre_step hc]
  exact ⟨_, rfl⟩
/-- the unit at place i: it stands there alone, and its part follows -/
theorem RightT.at_place {i : Nat} {c : Brn} (hc : c ∈ t.brs) (hi : (belT t 0)[i]? = some c.id) : (belT t 0).drop i = belT t c.id ++ (belT t 0).drop (i + (belT t c.id).length) ∧ (c.parent ≠ 0 → c.parent ∈ (belT t 0).take i) ∧ i + (belT t c.id).length ≤ (belT t 0).length := by
  obtain ⟨A, C, h1, h2⟩ := T.all_part hc
  obtain ⟨r, hr⟩ := T.bel_head hc
  have hA : (belT t 0)[A.length]? = some c.id := by rw [h1, hr]; simp
  have hi' : i < (belT t 0).length := (List.getElem?_eq_some_iff.1 hi).1
  have e : i = A.length := (List.getElem?_inj hi' T.all_nodup).1 (hi.trans hA.symm)
  subst e
  rw [h1]
  refine ⟨?_, fun h => ?_, by simp⟩
  · simp [List.drop_append]
  · simp [h2 h]
theorem RightT.bel_iff {c o : Brn} (hc : c ∈ t.brs) (ho : o ∈ t.brs) : c.id ∈ upF t.brs o.id ↔ o.id ∈ belT t c.id := by
  rw [T.bel_is hc, T.bel_mem hc]
  exact ⟨fun h => ⟨o, ho, rfl, h⟩, fun ⟨_, _, _, h⟩ => h⟩
end

def pthF (l : List Brn) (id : Int) : List Int := (upF l id).reverse
theorem pth_ref (l : List Brn) (id : Int) : rpathF l id = pthF l id := rfl
/-- the last of the first places at which two lists agree -/
def comG : Int → List Int → List Int → Int
  | o, [], _ => o
  | o, _ :: _, [] => o
  | o, x :: p, y :: q => if x = y then comG x p q else o
theorem com_comm : ∀ (p q : List Int) (o : Int), comG o p q = comG o q p
  | [], [], _ => rfl
  | [], _ :: _, _ => rfl
  | _ :: _, [], _ => rfl
  | x :: p, y :: q, o => by
    unfold comG
    by_cases h : x = y
    · subst h
      rw [if_pos rfl, if_pos rfl, com_comm p q x]
    · rw [if_neg h, if_neg (fun e => h e.symm)]
/-- how many places agree -/
def samN : List Int → List Int → Nat
  | x :: p, y :: q => if x = y then samN p q + 1 else 0
  | _, _ => 0
theorem sam_le : ∀ (p q : List Int), samN p q ≤ p.length ∧ samN p q ≤ q.length
  | [], _ => by simp [samN]
  | _ :: _, [] => by simp [samN]
  | x :: p, y :: q => by
    unfold samN
    have := sam_le p q
    split <;> simp <;> omega
theorem sam_take : ∀ (p q : List Int), p.take (samN p q) = q.take (samN p q)
  | [], _ => by simp [samN]
  | _ :: _, [] => by simp [samN]
  | x :: p, y :: q => by
    unfold samN
    split
    · rename_i h
      subst h
      rw [List.take_succ_cons, List.take_succ_cons, sam_take p q]
    · rfl
theorem sam_ne : ∀ (p q : List Int) (x y : Int), p[samN p q]? = some x → q[samN p q]? = some y → x ≠ y
  | [], _, _, _, h, _ => by simp at h
  | _ :: _, [], _, _, _, h => by simp at h
  | a :: p, b :: q, x, y, h1, h2 => by
    unfold samN at h1 h2
    by_cases h : a = b
    · rw [if_pos h] at h1 h2
      exact sam_ne p q x y (by simpa using h1) (by simpa using h2)
    · rw [if_neg h] at h1 h2
      simp at h1 h2
      subst h1 h2
      exact h
theorem com_at : ∀ (p q : List Int) (o : Int), comG o p q = if samN p q = 0 then o else p.getD (samN p q - 1) 0
  | [], _, _ => by simp [samN, comG]
  | _ :: _, [], _ => by simp [samN, comG]
  | x :: p, y :: q, o => by
    unfold comG samN
    by_cases h : x = y
    · rw [if_pos h, if_pos h, com_at p q x, if_neg (Nat.succ_ne_zero _)]
      by_cases h0 : samN p q = 0
      · rw [if_pos h0, h0]; rfl
      · rw [if_neg h0, show samN p q + 1 - 1 = (samN p q - 1) + 1 by omega]; rfl
    · rw [if_neg h, if_neg h, if_pos rfl]
theorem sam_all : ∀ (p z : List Int), samN p (p ++ z) = p.length
  | [], _ => by cases ‹List Int› <;> rfl
  | x :: p, z => by
    show samN (x :: p) (x :: (p ++ z)) = _
    unfold samN
    rw [if_pos rfl, sam_all p z]
    rfl
section
variable {t : Tre} (T : RightT t)
include T
theorem RightT.up_suffix : ∀ (m : Nat) (y : Brn), y ∈ t.brs → depN t.brs y.id ≤ m → ∀ c ∈ t.brs, c.id ∈ upF t.brs y.id → ∃ zs, upF t.brs y.id = zs ++ upF t.brs c.id
  | 0, y, hy, hm => by have := T.dep_pos hy; omega
  | m + 1, y, hy, hm => by
    intro c hc hu
    by_cases e : c.id = y.id
    · exact ⟨[], by rw [e]; rfl⟩
    · by_cases h : y.parent = 0
      · rw [T.upTop hy h] at hu
        exact absurd (List.mem_singleton.1 hu) e
      · obtain ⟨p, hp⟩ := T.plcd y hy h
        have hk := T.kid_dep (find_mem hp).1 hy (find_mem hp).2.symm
        rw [T.upKid hy h hp] at hu ⊢
        rcases List.mem_cons.1 hu with e2 | hu
        · exact absurd e2 e
        · obtain ⟨zs, hz⟩ := RightT.up_suffix m p (find_mem hp).1 (by omega) c hc hu
          exact ⟨y.id :: zs, by rw [hz]; rfl⟩
theorem RightT.path_part {y c : Brn} (hy : y ∈ t.brs) (hc : c ∈ t.brs) (hu : c.id ∈ pthF t.brs y.id) : ∃ z, pthF t.brs y.id = pthF t.brs c.id ++ z := by
  obtain ⟨zs, hz⟩ := T.up_suffix _ y hy (Nat.le_refl _) c hc (by unfold pthF at hu; simpa using hu)
  exact ⟨zs.reverse, by unfold pthF; rw [hz, List.reverse_append]⟩
theorem RightT.path_top {b : Brn} (hb : b ∈ t.brs) (h : b.parent = 0) : pthF t.brs b.id = [b.id] := by
  unfold pthF
  rw [T.upTop hb h]
  rfl
theorem RightT.path_kid {b p : Brn} (hb : b ∈ t.brs) (h : b.parent ≠ 0) (hp : findB t.brs b.parent = some p) : pthF t.brs b.id = pthF t.brs p.id ++ [b.id] := by
  unfold pthF
  rw [T.upKid hb h hp, List.reverse_cons]
theorem RightT.path_nodup {b : Brn} (hb : b ∈ t.brs) : (pthF t.brs b.id).Nodup := by
  unfold pthF
  exact List.pairwise_reverse.2 ((upG_nodup _ _ _ _ (T.upIs hb).1).imp fun h => Ne.symm h)
theorem RightT.path_last {b : Brn} (hb : b ∈ t.brs) : ∃ q, pthF t.brs b.id = q ++ [b.id] := by
  by_cases h : b.parent = 0
  · exact ⟨[], T.path_top hb h⟩
  · obtain ⟨p, hp⟩ := T.plcd b hb h
    exact ⟨_, T.path_kid hb h hp⟩
theorem RightT.path_len {b : Brn} (hb : b ∈ t.brs) : 1 ≤ (pthF t.brs b.id).length ∧ (pthF t.brs b.id).length ≤ 12 := by
  unfold pthF
  rw [List.length_reverse]
  exact ⟨T.dep_pos hb, (T.upIs hb).2⟩
/-- what stands in a path: the first unit is at the top, each other one a child of that before -/
theorem RightT.path_at : ∀ (m : Nat) (y : Brn), y ∈ t.brs → depN t.brs y.id ≤ m → ∀ (i : Nat) (x : Int), (pthF t.brs y.id)[i]? = some x → ∃ c ∈ t.brs, c.id = x ∧ (i = 0 → c.parent = 0) ∧ ∀ j, i = j + 1 → (pthF t.brs y.id)[j]? = some c.parent ∧ c.parent ≠ 0
  | 0, y, hy, hm => by have := T.dep_pos hy; omega
  | m + 1, y, hy, hm => by
    intro i x hx
    by_cases h : y.parent = 0
    · rw [T.path_top hy h] at hx ⊢
      rcases i with _ | i
      · simp at hx
        exact ⟨y, hy, hx, fun _ => h, fun j e => by omega⟩
      · simp at hx
    · obtain ⟨p, hp⟩ := T.plcd y hy h
      have hk := T.kid_dep (find_mem hp).1 hy (find_mem hp).2.symm
      obtain ⟨q, hq⟩ := T.path_last (find_mem hp).1
      rw [T.path_kid hy h hp] at hx ⊢
      by_cases hi : i < (pthF t.brs p.id).length
      · rw [List.getElem?_append_left hi] at hx
        obtain ⟨c, hc, h1, h2, h3⟩ := RightT.path_at m p (find_mem hp).1 (by omega) i x hx
        exact ⟨c, hc, h1, h2, fun j e => by rw [List.getElem?_append_left (by omega)]; exact h3 j e⟩
      · have hil := (List.getElem?_eq_some_iff.1 hx).1
        rw [List.length_append, List.length_singleton] at hil
        have hi' : i = (pthF t.brs p.id).length := by omega
        subst hi'
        rw [List.getElem?_append_right (Nat.le_refl _)] at hx
        simp at hx
        refine ⟨y, hy, hx, fun e => ?_, fun j e => ?_⟩
        · rw [hq] at e; simp at e
        · rw [List.getElem?_append_left (by omega)]
          refine ⟨?_, h⟩
          rw [hq] at e ⊢
          have : j = q.length := by simp at e; omega
          rw [this, ← (find_mem hp).2]
          simp
/-- what two units have in common -/
theorem RightT.meets {a b : Brn} (ha : a ∈ t.brs) (hb : b ∈ t.brs) :
    let p := pthF t.brs a.id; let q := pthF t.brs b.id; let c := comG 0 p q; let n := samN p q
    (c = 0 ↔ n = 0) ∧ (n ≠ 0 → p[n - 1]? = some c ∧ q[n - 1]? = some c) ∧ (a.id ∈ q → c = a.id) ∧ ∀ x y, p[n]? = some x → q[n]? = some y → x ≠ y := by
  intro p q c n
  have hle := sam_le p q
  have hat : n ≠ 0 → p[n - 1]? = some c ∧ q[n - 1]? = some c := by
    intro h0
    have hc : c = p.getD (n - 1) 0 := by
      show comG 0 p q = _
      rw [com_at, if_neg h0]
    have h1 : p[n - 1]? = some c := by
      rw [hc, List.getD_eq_getElem?_getD, List.getElem?_eq_getElem (by omega)]
      rfl
    refine ⟨h1, ?_⟩
    have h2 := sam_take p q
    have h3 : (p.take n)[n - 1]? = (q.take n)[n - 1]? := by rw [h2]
    rw [List.getElem?_take, List.getElem?_take, if_pos (by omega), if_pos (by omega)] at h3
    rw [← h3]
    exact h1
  refine ⟨⟨fun h => ?_, fun h => ?_⟩, hat, fun h => ?_, fun x y => sam_ne p q x y⟩
  · refine Classical.byContradiction fun h0 => ?_
    obtain ⟨x, hx, h1, -⟩ := T.path_at _ a ha (Nat.le_refl _) _ _ (hat h0).1
    exact T.id_ne hx (h1.trans h)
  · show comG 0 p q = 0
    rw [com_at, if_pos h]
  · obtain ⟨z, hz⟩ := T.path_part hb ha h
    have hn : n = p.length := by
      show samN p q = p.length
      rw [show q = p ++ z from hz, sam_all]
    obtain ⟨r, hr⟩ := T.path_last ha
    have hp : p = r ++ [a.id] := hr
    have h0 : n ≠ 0 := by rw [hn, hp]; simp
    have := (hat h0).1
    rw [hn, hp] at this
    simp at this
    exact this.symm
end

def wordL (n : Int) : List UInt8 :=
  if n = 1 then [102, 111, 110, 100, 115] else if n = 2 then [115, 101, 114, 105, 101, 115] else if n = 3 then [102, 105, 108, 101] else [105, 116, 101, 109]
def zBrn : Brn := ⟨0, 0, 0, ⟨#[]⟩, ⟨#[]⟩, []⟩
/-- the unit with an ID; the unit of zeros if there is none -/
def unitO (l : List Brn) (id : Int) : Brn := (findB l id).getD zBrn
def markL (b : Brn) : List UInt8 := if b.mark = ⟨#[]⟩ then [] else [32, 91] ++ b.mark.data.toList ++ [93]
/-- the line of a unit without its blanks -/
def bodyL (b : Brn) : List UInt8 := Lib.itoa b.id ++ [32] ++ wordL b.level ++ [32] ++ b.title.data.toList ++ markL b
def outL (b : Brn) (n : Nat) : List UInt8 := List.replicate (2 * n) 32 ++ bodyL b ++ [10]
def printT (t : Tre) : List UInt8 := if rightT t = true then (preT t 0).flatMap fun p => outL (unitO t.brs p.1) p.2 else []
/-- as the reference writes it: the blanks by the path -/
def rprintT (t : Tre) : List UInt8 := if rightT t = true then (belT t 0).flatMap fun x => outL (unitO t.brs x) ((pthF t.brs x).length - 1) else []
section
variable {t : Tre} (T : RightT t)
include T
theorem RightT.unit_of {b : Brn} (hb : b ∈ t.brs) : unitO t.brs b.id = b := by unfold unitO; rw [T.find hb]; rfl
theorem RightT.pre_dep {x : Int} {n : Nat} (h : (x, n) ∈ preT t 0) : ∃ c ∈ t.brs, c.id = x ∧ n + 1 = depN t.brs x := by
  unfold preT at h
  rw [if_pos rfl, List.mem_flatMap] at h
  obtain ⟨k, hk, hm⟩ := h
  obtain ⟨r, hr, h0, rfl⟩ := T.top_iff.1 hk
  have hd : depN t.brs r.id = 1 := by unfold depN; rw [T.upTop hr h0]; rfl
  obtain ⟨c, hc, h1, -, h3⟩ := (T.pre_mem 12 0 r hr (by omega) x n).1 hm
  exact ⟨c, hc, h1, by omega⟩
theorem RightT.print_eq : ((belT t 0).flatMap fun x => outL (unitO t.brs x) ((pthF t.brs x).length - 1)) = (preT t 0).flatMap fun p => outL (unitO t.brs p.1) p.2 := by
  unfold belT
  rw [List.flatMap_map, List.flatMap_def, List.flatMap_def]
  congr 1
  refine List.map_congr_left fun p hp => ?_
  obtain ⟨x, n⟩ := p
  obtain ⟨c, hc, h1, h2⟩ := T.pre_dep hp
  have : (pthF t.brs x).length = depN t.brs x := by unfold pthF depN; rw [List.length_reverse]
  show outL (unitO t.brs x) ((pthF t.brs x).length - 1) = outL (unitO t.brs x) n
  rw [this, ← h2, Nat.add_sub_cancel]
end
theorem print_ref (t : Tre) : rprintT t = printT t := by
  unfold rprintT printT
  by_cases h : rightT t = true
  · rw [if_pos h, if_pos h, (right_of h).print_eq]
  · rw [if_neg h, if_neg h]

theorem digits_in : ∀ (n : Nat), (∀ b ∈ Lib.decDigits n, 48 ≤ b.toNat ∧ b.toNat ≤ 57) ∧ Lib.decDigits n ≠ [] := fun n => by
  induction n using Nat.strongRecOn with
  | ind n ih =>
    rw [Lib.decDigits]
    have hd : ∀ d, d < 10 → 48 ≤ (UInt8.ofNat (48 + d)).toNat ∧ (UInt8.ofNat (48 + d)).toNat ≤ 57 := fun d hd => by
      rw [UInt8.toNat_ofNat']
      rw [Nat.mod_eq_of_lt (by omega)]
      omega
    by_cases h : n < 10
    · rw [dif_pos h]
      exact ⟨fun b hb => by rw [List.mem_singleton] at hb; subst hb; exact hd n h, by simp⟩
    · rw [dif_neg h]
      refine ⟨fun b hb => ?_, by simp⟩
      rcases List.mem_append.1 hb with hb | hb
      · exact (ih (n / 10) (by omega)).1 b hb
      · rw [List.mem_singleton] at hb; subst hb; exact hd _ (Nat.mod_lt _ (by decide))
theorem itoa_in {n : Int} (h : 0 ≤ n) : (∀ b ∈ Lib.itoa n, 48 ≤ b.toNat ∧ b.toNat ≤ 57) ∧ Lib.itoa n ≠ [] := by
  unfold Lib.itoa
  rw [if_neg (by omega)]
  exact digits_in _
theorem word_in (n : Int) : ∀ b ∈ wordL n, 97 ≤ b.toNat ∧ b.toNat ≤ 122 := by
  unfold wordL
  repeat' split
  all_goals decide
theorem ten_of {b : UInt8} (h : 32 ≤ b.toNat) : b ≠ 10 := fun e => by subst e; revert h; decide
/-- no line end stands in the body of a line, and it begins with a digit -/
theorem body_no {b : Brn} (h0 : 0 ≤ b.id) (ht : nameB b.title = true) (hm : b.mark ≠ ⟨#[]⟩ → markB b.mark = true) : (10 : UInt8) ∉ bodyL b ∧ ∃ d r, bodyL b = d :: r ∧ d ≠ 32 := by
  obtain ⟨h1, h2⟩ := itoa_in h0
  refine ⟨fun hc => ?_, ?_⟩
  · unfold bodyL at hc
    simp only [List.mem_append] at hc
    rcases hc with ((((hc | hc) | hc) | hc) | hc) | hc
    · have := h1 _ hc; revert this; decide
    · simp at hc
    · have := word_in _ _ hc; revert this; decide
    · simp at hc
    · unfold nameB at ht
      rw [Bool.and_eq_true] at ht
      have := List.all_eq_true.1 ht.2 _ hc
      revert this; decide
    · unfold markL at hc
      split at hc
      · cases hc
      · rename_i hne
        simp only [List.mem_append] at hc
        rcases hc with (hc | hc) | hc
        · simp at hc
        · have hb := hm hne
          unfold markB at hb
          rw [Bool.and_eq_true] at hb
          have := List.all_eq_true.1 hb.2 _ hc
          revert this; decide
        · simp at hc
  · cases hi : Lib.itoa b.id with
    | nil => exact absurd hi h2
    | cons d r =>
      refine ⟨d, r ++ [32] ++ wordL b.level ++ [32] ++ b.title.data.toList ++ markL b, ?_, ?_⟩
      · unfold bodyL; rw [hi]; simp
      · intro e
        have := h1 d (by rw [hi]; exact List.mem_cons_self ..)
        subst e
        revert this; decide
/-- pieces, each with its line end -/
def afterG : List UInt8 → List UInt8 → List (List UInt8)
  | acc, [] => [acc]
  | acc, x :: r => if x = 10 then (acc ++ [x]) :: afterG [] r else afterG (acc ++ [x]) r
theorem after_body : ∀ (b acc r : List UInt8), (10 : UInt8) ∉ b → afterG acc (b ++ 10 :: r) = (acc ++ b ++ [10]) :: afterG [] r
  | [], acc, r, _ => by simp [afterG]
  | x :: b, acc, r, h => by
    have hx : x ≠ 10 := fun e => h (by rw [e]; exact List.mem_cons_self ..)
    rw [List.cons_append, afterG, if_neg hx, after_body b (acc ++ [x]) r (fun hc => h (List.mem_cons_of_mem _ hc))]
    simp
theorem after_lines : ∀ (l : List (List UInt8)), (∀ b ∈ l, (10 : UInt8) ∉ b) → afterG [] (l.flatMap fun b => b ++ [10]) = (l.map fun b => b ++ [10]) ++ [[]]
  | [], _ => rfl
  | b :: l, h => by
    rw [List.flatMap_cons, List.append_assoc, List.singleton_append, after_body b [] _ (h b (List.mem_cons_self ..)), after_lines l (fun x hx => h x (List.mem_cons_of_mem _ hx))]
    rfl
def trimL (l : List UInt8) : List UInt8 := l.dropWhile (· == 32)
theorem trim_out {b : Brn} {d : UInt8} {r : List UInt8} (hb : bodyL b = d :: r) (hd : d ≠ 32) (n : Nat) : trimL (outL b n) = bodyL b ++ [10] := by
  unfold trimL outL
  have : ∀ m : Nat, (List.replicate m (32 : UInt8) ++ (bodyL b ++ [10])).dropWhile (· == 32) = bodyL b ++ [10] := by
    intro m
    induction m with
    | zero => rw [hb]; simp [hd]
    | succ m ih => rw [List.replicate_succ, List.cons_append, List.dropWhile_cons, if_pos (by simp)]; exact ih
  rw [List.append_assoc]
  exact this _
/-- the outline's lines -/
def linesT (t : Tre) : List (List UInt8) := (preT t 0).map fun p => outL (unitO t.brs p.1) p.2
theorem RightT.lines {t : Tre} (T : RightT t) : afterG [] ((preT t 0).flatMap fun p => outL (unitO t.brs p.1) p.2) = linesT t ++ [[]] := by
  have h := after_lines ((preT t 0).map fun p => List.replicate (2 * p.2) 32 ++ bodyL (unitO t.brs p.1)) (fun b hb => by
    obtain ⟨⟨x, n⟩, hp, rfl⟩ := List.mem_map.1 hb
    obtain ⟨c, hc, rfl, -⟩ := T.pre_dep hp
    show (10 : UInt8) ∉ List.replicate (2 * n) 32 ++ bodyL (unitO t.brs c.id)
    rw [T.unit_of hc]
    intro hm
    rcases List.mem_append.1 hm with hm | hm
    · have := List.eq_of_mem_replicate hm
      revert this; decide
    · exact (body_no (by have := (T.pos c hc).1; omega) (T.name c hc).1 (T.name c hc).2).1 hm)
  rw [List.flatMap_map, List.map_map] at h
  exact h
theorem prefix_self : ∀ (s b : List UInt8), s.isPrefixOf (s ++ b) = true
  | [], _ => by simp
  | x :: s, b => by simp
theorem contains_mid (s b : List UInt8) : ∀ a : List UInt8, Lib.contains (a ++ (s ++ b)) s = true
  | [] => by
    unfold Lib.contains
    rw [List.nil_append]
    cases h : s ++ b with
    | nil =>
      have : s = [] := (List.append_eq_nil_iff.1 h).1
      subst this
      simp [Lib.index]
    | cons x r => rw [Lib.index, ← h, if_pos (prefix_self s b)]; simp
  | x :: a => by
    have ih := contains_mid s b a
    unfold Lib.contains at ih ⊢
    rw [decide_eq_true_eq] at ih ⊢
    rw [List.cons_append, Lib.index]
    split
    · omega
    · split
      · rename_i h
        rw [beq_iff_eq] at h
        omega
      · omega
theorem out_len (b : Brn) (n : Nat) : (outL b n).length = 2 * n + (bodyL b ++ [10]).length := by
  unfold outL
  simp
theorem body_title (b : Brn) : Lib.contains (bodyL b ++ [10]) (32 :: b.title.data.toList) = true := by
  have : bodyL b ++ [10] = (Lib.itoa b.id ++ [32] ++ wordL b.level) ++ ((32 :: b.title.data.toList) ++ (markL b ++ [10])) := by
    unfold bodyL
    simp
  rw [this]
  exact contains_mid _ _ _
theorem body_end (b : Brn) : ∃ a, bodyL b ++ [10] = a ++ [10] := ⟨_, rfl⟩
theorem body_mark {b : Brn} (h : b.mark ≠ ⟨#[]⟩) : ∃ a, bodyL b ++ [10] = a ++ ([32, 91] ++ b.mark.data.toList ++ [93, 10]) := by
  refine ⟨Lib.itoa b.id ++ [32] ++ wordL b.level ++ [32] ++ b.title.data.toList, ?_⟩
  unfold bodyL markL
  rw [if_neg h]
  simp

def exT : Tre := ⟨[1], [⟨1, 0, 1, ⟨#[84, 111, 119, 110]⟩, ⟨#[84]⟩, [2, 5]⟩, ⟨2, 1, 2, ⟨#[65, 99, 116, 115]⟩, ⟨#[]⟩, [9]⟩, ⟨5, 1, 2, ⟨#[80, 108, 97, 110, 115]⟩, ⟨#[]⟩, []⟩, ⟨9, 2, 3, ⟨#[77, 105, 108, 108]⟩, ⟨#[84, 45, 57]⟩, []⟩]⟩
theorem ex_chk : chkF exT = (-1, 0) := by decide +kernel
theorem ex_right : rightT exT = true := by decide +kernel
theorem ex_path : pthF exT.brs 9 = [1, 2, 9] ∧ pthF exT.brs 5 = [1, 5] ∧ comG 0 (pthF exT.brs 9) (pthF exT.brs 5) = 1 := by decide +kernel
theorem ex_below : belT exT 2 = [2, 9] ∧ preT exT 0 = [(1, 0), (2, 1), (9, 2), (5, 1)] := by decide +kernel
theorem ex_known : knownE exT [9] = 0 ∧ knownE exT [9, 5] = 0 ∧ orTopE exT 2 = 0 ∧ orTopE exT 0 = 0 := by decide +kernel
theorem ex_rows : pchkF [] = (-1, 0) ∧ (rowsF exT []).length = 4 := by decide +kernel
theorem ex_fits : fitB 2 2 = true := by decide
theorem itoa_one {n : Nat} (h : n < 10) : Lib.itoa (n : Int) = [UInt8.ofNat (48 + n)] := by
  unfold Lib.itoa
  rw [if_neg (by omega), Int.toNat_natCast, Lib.decDigits, dif_pos h]
def exL : List UInt8 := [49, 32, 102, 111, 110, 100, 115, 32, 84, 111, 119, 110, 32, 91, 84, 93, 10, 32, 32, 50, 32, 115, 101, 114, 105, 101, 115, 32, 65, 99, 116, 115, 10, 32, 32, 32, 32, 57, 32, 102, 105, 108, 101, 32, 77, 105, 108, 108, 32, 91, 84, 45, 57, 93, 10, 32, 32, 53, 32, 115, 101, 114, 105, 101, 115, 32, 80, 108, 97, 110, 115, 10]
theorem ex_print : printT exT = exL := by
  unfold printT
  rw [if_pos ex_right, ex_below.2]
  simp only [List.flatMap_cons, List.flatMap_nil, outL, bodyL]
  have e1 := itoa_one (n := 1) (by decide)
  have e2 := itoa_one (n := 2) (by decide)
  have e5 := itoa_one (n := 5) (by decide)
  have e9 := itoa_one (n := 9) (by decide)
  have u1 : unitO exT.brs 1 = exT.brs[0] := rfl
  have u2 : unitO exT.brs 2 = exT.brs[1] := rfl
  have u9 : unitO exT.brs 9 = exT.brs[3] := rfl
  have u5 : unitO exT.brs 5 = exT.brs[2] := rfl
  rw [u1, u2, u9, u5]
  show _ ++ (Lib.itoa ((1 : Nat) : Int) ++ _ ++ _ ++ _ ++ _ ++ _) ++ _ ++ (_ ++ (Lib.itoa ((2 : Nat) : Int) ++ _ ++ _ ++ _ ++ _ ++ _) ++ _ ++ (_ ++ (Lib.itoa ((9 : Nat) : Int) ++ _ ++ _ ++ _ ++ _ ++ _) ++ _ ++ (_ ++ (Lib.itoa ((5 : Nat) : Int) ++ _ ++ _ ++ _ ++ _ ++ _) ++ _ ++ _))) = _
  rw [e1, e2, e5, e9]
  decide +kernel

def kidsR (t : Tre) (id : Int) : List Int := if orTopE t id ≠ 0 then [] else if id = 0 then t.roots else kidsO t.brs id
def pathR (t : Tre) (id : Int) : List Int := if knownE t [id] ≠ 0 then [] else pthF t.brs id
def belR (t : Tre) (id : Int) : List Int := if orTopE t id ≠ 0 then [] else belT t id
def comR (t : Tre) (a b : Int) : Int := if knownE t [a, b] ≠ 0 then 0 else comG 0 (pthF t.brs a) (pthF t.brs b)
def rowsE (t : Tre) (l : List Came) : Int := if prightB l = true ∧ rightT t = true then 0 else 1
def rowsR (t : Tre) (l : List Came) : List RowT := if rowsE t l ≠ 0 then [] else rowsF t l
def printE (t : Tre) : Int := if rightT t = true then 0 else 1
def findU (l : List Brn) (id : Int) : Brn × Bool := match findB l id with | some b => (b, true) | none => (zBrn, false)
def markF (l : List Brn) (m : ByteArray) : Int × Bool := match l.find? (fun b => decide (m ≠ ⟨#[]⟩) && decide (b.mark = m)) with | some b => (b.id, true) | none => (0, false)
def fewT (t : Tre) : Bool := !(decide (20 < t.brs.length) && decide (t.brs.length ≠ 257)) && decide (t.roots.length ≤ 20) && t.brs.all fun b => decide (b.kids.length ≤ 20) && decide (b.title.size ≤ 100) && decide (b.mark.size ≤ 100)
theorem few_brs {t : Tre} (h : fewT t = true) : t.brs.length ≤ 257 ∧ t.roots.length ≤ 20 ∧ ∀ b ∈ t.brs, b.kids.length ≤ 20 ∧ b.title.size ≤ 100 ∧ b.mark.size ≤ 100 := by
  unfold fewT at h
  simp only [Bool.and_eq_true, Bool.not_eq_true', Bool.and_eq_false_iff, decide_eq_false_iff_not, decide_eq_true_eq, List.all_eq_true] at h
  obtain ⟨⟨h1, h2⟩, h3⟩ := h
  refine ⟨by omega, h2, fun b hb => ?_⟩
  obtain ⟨⟨a, c⟩, d⟩ := h3 b hb
  exact ⟨a, c, d⟩
theorem known_nil (t : Tre) : knownE t [] = if rightT t = false then 1 else 0 := by unfold knownE; simp
theorem known_one (t : Tre) (k : Int) : knownE t [k] = if rightT t = false then 1 else if (findB t.brs k).isNone = true then 7 else 0 := by unfold knownE; simp
theorem known_two (t : Tre) (a b : Int) : knownE t [a, b] = if rightT t = false then 1 else if (findB t.brs a).isNone = true then 7 else if (findB t.brs b).isNone = true then 7 else 0 := by
  unfold knownE
  rw [List.any_cons, List.any_cons, List.any_nil]
  generalize (findB t.brs a).isNone = x
  generalize (findB t.brs b).isNone = y
  cases rightT t <;> cases x <;> cases y <;> rfl
theorem known_zero {t : Tre} {ids : List Int} (h : knownE t ids = 0) : RightT t ∧ ∀ k ∈ ids, ∃ b ∈ t.brs, b.id = k := by
  unfold knownE at h
  split at h
  · cases h
  rename_i h1
  split at h
  · cases h
  rename_i h2
  refine ⟨right_of (by simpa using h1), fun k hk => ?_⟩
  have h3 : ∀ k ∈ ids, (findB t.brs k).isNone = false := fun k hk => by
    cases hc : (findB t.brs k).isNone with
    | false => rfl
    | true => exact absurd (List.any_eq_true.2 ⟨k, hk, hc⟩) h2
  cases hf : findB t.brs k with
  | none => have := h3 k hk; rw [hf] at this; cases this
  | some b => exact ⟨b, find_mem hf⟩
theorem orTop_zero {t : Tre} {id : Int} (h : orTopE t id = 0) : RightT t ∧ (id ≠ 0 → ∃ b ∈ t.brs, b.id = id) := by
  unfold orTopE at h
  split at h
  · rename_i h0
    exact ⟨(known_zero h).1, fun hne => absurd h0 hne⟩
  · exact ⟨(known_zero h).1, fun _ => (known_zero h).2 id (by simp)⟩
section
variable {t : Tre} (T : RightT t)
include T
theorem RightT.bel_step {b : Brn} (hb : b ∈ t.brs) : belT t b.id = b.id :: b.kids.flatMap (belT t) := by
  rw [T.bel_is hb, T.pre_step hb, List.map_cons, List.map_flatMap]
  congr 1
  rw [List.flatMap_def, List.flatMap_def]
  congr 1
  refine List.map_congr_left fun k hk => ?_
  obtain ⟨c, hc, h1, rfl⟩ := (T.kid_iff hb).1 hk
  rw [T.bel_is hc]
  unfold preF
  exact preG_fst _ _ _ _ _
theorem RightT.bel_tops : belT t 0 = t.roots.flatMap (belT t) := by
  rw [all_is]
  rw [List.flatMap_def, List.flatMap_def]
  congr 1
  refine List.map_congr_left fun k hk => ?_
  obtain ⟨c, hc, h1, rfl⟩ := T.top_iff.1 hk
  rw [T.bel_is hc]
/-- each unit of a path is a child of the one before, and fits under it -/
theorem RightT.path_ok {y : Brn} (hy : y ∈ t.brs) {i : Nat} {x : Int} (hx : (pthF t.brs y.id)[i]? = some x) : ∃ c ∈ t.brs, c.id = x ∧ (i = 0 → c.parent = 0 ∧ c.level = 1 ∧ x ∈ t.roots) ∧ ∀ j, i = j + 1 → ∃ p ∈ t.brs, (pthF t.brs y.id)[j]? = some p.id ∧ c.parent = p.id ∧ x ∈ p.kids ∧ fitB p.level c.level = true := by
  obtain ⟨c, hc, h1, h2, h3⟩ := T.path_at _ y hy (Nat.le_refl _) i x hx
  refine ⟨c, hc, h1, fun h0 => ⟨h2 h0, (T.fits c hc).1 (h2 h0), T.top_iff.2 ⟨c, hc, h2 h0, h1⟩⟩, fun j hj => ?_⟩
  obtain ⟨h4, h5⟩ := h3 j hj
  obtain ⟨p, hp⟩ := T.plcd c hc h5
  obtain ⟨m1, m2⟩ := find_mem hp
  exact ⟨p, m1, by rw [m2]; exact h4, m2.symm, (T.kid_iff m1).2 ⟨c, hc, m2.symm, h1⟩, (T.fits c hc).2 p h5 hp⟩
end
end Go.Proofs.YthbccfchjgihgaaGreatDoor
