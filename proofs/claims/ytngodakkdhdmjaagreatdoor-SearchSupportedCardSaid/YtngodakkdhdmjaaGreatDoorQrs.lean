/- Queries in plain words: their trees, what is right, what matches, what supports. The library's variables that chapter 56 reads: a length, a table; Split. The program's Check on queries, and the index behind a query. The program's Check on queries: named, after, Check. -/
import Derived.Test.YtngodakkdhdmjaaGreatDoorWdQ
import Derived.Test.YtngodakkdhdmjaaGreatDoorOfs
import Derived.Test.YtngodakkdhdmjaaGreatDoorRgs
import Derived.Test.YtngodakkdhdmjaaGreatDoorShelf
import Derived.Lib.SmallJoins
import Derived.Test.YtngodakkdhdmjaaGreatDoorIvK
import Derived.Test.YtngodakkdhdmjaaGreatDoorIxs
namespace Go.Proofs.YtngodakkdhdmjaaGreatDoor
section
open Go.RowKit

/-- how many parts an operation has -/
def prtN (op : Int) : Nat := if op = 6 ∨ op = 7 then 2 else if op = 8 then 1 else 0
theorem prtN_cases (op : Int) : prtN op = 0 ∨ prtN op = 1 ∨ prtN op = 2 := by unfold prtN; split <;> (try split) <;> omega
/-- a query as a tree -/
inductive Qt where
  | leaf (a : Ask)
  | one (a : Ask) (q : Qt)
  | two (a : Ask) (p q : Qt)
def Qt.ls : Qt → List Ask
  | .leaf a => [a]
  | .one a q => a :: q.ls
  | .two a p q => a :: (p.ls ++ q.ls)
/-- each operation has its parts -/
def Qt.Fit : Qt → Prop
  | .leaf a => prtN a.op = 0
  | .one a q => prtN a.op = 1 ∧ q.Fit
  | .two a p q => prtN a.op = 2 ∧ p.Fit ∧ q.Fit
theorem Qt.ls_pos (q : Qt) : 1 ≤ q.ls.length := by cases q <;> simp [Qt.ls]
/-- the index behind some queries, -1 if the list ends too early -/
def aftG : List Ask → Nat → Nat → Int
  | _, 0, i => i
  | [], _ + 1, _ => -1
  | a :: r, n + 1, i => aftG r (n + prtN a.op) (i + 1)
def aftF (l : List Ask) (i : Nat) : Int := aftG (l.drop i) 1 i
theorem aftG_tree : ∀ (q : Qt), q.Fit → ∀ (r : List Ask) (n i : Nat), aftG (q.ls ++ r) (n + 1) i = aftG r n (i + q.ls.length)
  | .leaf a, h, r, n, i => by
    have h' : prtN a.op = 0 := h
    show aftG r (n + prtN a.op) (i + 1) = aftG r n (i + 1)
    rw [h']
    rfl
  | .one a q, h, r, n, i => by
    obtain ⟨h1, h2⟩ := h
    show aftG (q.ls ++ r) (n + prtN a.op) (i + 1) = aftG r n (i + (q.ls.length + 1))
    rw [h1, aftG_tree q h2]
    congr 1
    omega
  | .two a p q, h, r, n, i => by
    obtain ⟨h1, h2, h3⟩ := h
    show aftG ((p.ls ++ q.ls) ++ r) (n + prtN a.op) (i + 1) = aftG r n (i + ((p.ls ++ q.ls).length + 1))
    rw [h1, List.append_assoc, show n + 2 = (n + 1) + 1 from rfl, aftG_tree p h2, aftG_tree q h3, List.length_append]
    congr 1
    omega
theorem aftF_at {l : List Ask} {q : Qt} (h : q.Fit) {i : Nat} {r : List Ask} (hl : l.drop i = q.ls ++ r) : aftF l i = ((i + q.ls.length : Nat) : Int) := by
  unfold aftF
  rw [hl, show (1 : Nat) = 0 + 1 from rfl, aftG_tree q h]
  cases r <;> rfl
theorem aftG_ge : ∀ (l : List Ask) (n i : Nat), 0 ≤ aftG l n i → ∃ (qs : List Qt) (r : List Ask), qs.length = n ∧ (∀ q ∈ qs, q.Fit) ∧ l = qs.flatMap Qt.ls ++ r ∧ aftG l n i = ((i + (qs.flatMap Qt.ls).length : Nat) : Int)
  | l, 0, i, _ => ⟨[], l, rfl, by simp, rfl, by simp [aftG]⟩
  | [], n + 1, i, h => by
    unfold aftG at h
    omega
  | a :: r, n + 1, i, h => by
    have h' : 0 ≤ aftG r (n + prtN a.op) (i + 1) := h
    obtain ⟨qs, s, h1, h2, h3, h4⟩ := aftG_ge r (n + prtN a.op) (i + 1) h'
    have e : aftG (a :: r) (n + 1) i = aftG r (n + prtN a.op) (i + 1) := rfl
    rw [e, h4]
    rcases prtN_cases a.op with hp | hp | hp
    · rw [hp] at h1
      refine ⟨.leaf a :: qs, s, by simp [h1], fun q hq => ?_, by rw [h3]; rfl, ?_⟩
      · rcases List.mem_cons.1 hq with rfl | hq
        · exact hp
        · exact h2 q hq
      · rw [List.flatMap_cons, List.length_append]
        show ((i + 1 + _ : Nat) : Int) = ((i + (1 + _) : Nat) : Int)
        omega
    · rw [hp] at h1
      match qs, h1 with
      | q :: qs, h1 =>
        refine ⟨.one a q :: qs, s, by simpa using h1, fun x hx => ?_, by rw [h3]; simp [Qt.ls], ?_⟩
        · rcases List.mem_cons.1 hx with rfl | hx
          · exact ⟨hp, h2 q (by simp)⟩
          · exact h2 x (by simp [hx])
        · rw [List.flatMap_cons, List.length_append, List.flatMap_cons, List.length_append]
          show ((i + 1 + _ : Nat) : Int) = ((i + ((q.ls.length + 1) + _) : Nat) : Int)
          omega
    · rw [hp] at h1
      match qs, h1 with
      | [q], h1 => exact absurd h1 (by simp)
      | p :: q :: qs, h1 =>
        refine ⟨.two a p q :: qs, s, by simpa using h1, fun x hx => ?_, by rw [h3]; simp [Qt.ls], ?_⟩
        · rcases List.mem_cons.1 hx with rfl | hx
          · exact ⟨hp, h2 p (by simp), h2 q (by simp)⟩
          · exact h2 x (by simp [hx])
        · rw [List.flatMap_cons, List.flatMap_cons, List.flatMap_cons, List.length_append, List.length_append, List.length_append]
          show ((i + 1 + _ : Nat) : Int) = ((i + (((p.ls ++ q.ls).length + 1) + _) : Nat) : Int)
          rw [List.length_append]
          omega
theorem tree_of {l : List Ask} (h : aftF l 0 = l.length) : ∃ q : Qt, q.Fit ∧ q.ls = l := by
  unfold aftF at h
  rw [List.drop_zero] at h
  obtain ⟨qs, r, h1, h2, h3, h4⟩ := aftG_ge l 1 0 (by omega)
  match qs, h1 with
  | [q], _ =>
    rw [h] at h4
    have hl : l.length = q.ls.length := by
      simp only [List.flatMap_cons, List.flatMap_nil, List.append_nil, Nat.zero_add] at h4
      omega
    have h3' : l = q.ls ++ r := by simpa using h3
    have hr : r = [] := by
      have := congrArg List.length h3'
      rw [List.length_append] at this
      exact List.eq_nil_of_length_eq_zero (by omega)
    exact ⟨q, h2 q (by simp), by rw [h3', hr, List.append_nil]⟩

/-- whether an operation looks for words -/
def txtB (op : Int) : Bool := decide (op = 1) || decide (op = 2) || decide (op = 3)
def rngB (a : Ask) : Bool :=
  if txtB a.op then decide (-1 ≤ a.field) && decide (a.field ≤ 64) && decide (a.num = 0)
  else if a.op = 4 then decide (a.field = 0) && decide (1 ≤ a.num) && decide (a.num ≤ 4)
  else if a.op = 5 then decide (a.field = 0) && decide (1 ≤ a.num) && decide (a.num ≤ 1073741824)
  else decide (a.field = 0) && decide (a.num = 0)
def simB (s : ByteArray) : Bool := s.data.toList.all plnB && decide (1 ≤ s.size) && decide (s.size ≤ 64)
def keyB (s : ByteArray) : Bool := decide (s = ⟨#[97, 110, 100]⟩) || decide (s = ⟨#[111, 114]⟩) || decide (s = ⟨#[110, 111, 116]⟩)
/-- the pieces of a text between blanks -/
def wntF (s : ByteArray) : List ByteArray := splB 32 s
def namB (a : Ask) : Bool :=
  if a.op = 1 then simB a.text && !keyB a.text
  else if a.op = 2 then simB a.text
  else if a.op = 3 then decide (a.text.size ≤ 64) && !(wntF a.text).any fun s => !simB s
  else decide (a.text = ⟨#[]⟩)
def askF (a : Ask) : Int := if a.op < 1 ∨ 8 < a.op then 1 else if rngB a = false then 2 else if namB a = false then 4 else 0
def askG : List Ask → Int
  | [] => 0
  | a :: r => if askF a = 0 then askG r else askF a
/-- the first fault of a query -/
def askE (l : List Ask) : Int := if l.length = 0 then 9 else if 32 < l.length then 8 else if askG l ≠ 0 then askG l else if aftF l 0 ≠ l.length then 10 else 0
theorem askG_zero : ∀ {l : List Ask}, askG l = 0 → ∀ a ∈ l, askF a = 0
  | [], _, a, ha => by simp at ha
  | b :: r, h, a, ha => by
    unfold askG at h
    split at h
    · rename_i hb
      rcases List.mem_cons.1 ha with rfl | ha
      · exact hb
      · exact askG_zero h a ha
    · rename_i hb
      exact absurd h hb
theorem askE_zero {l : List Ask} (h : askE l = 0) : l.length ≤ 32 ∧ (∀ a ∈ l, askF a = 0) ∧ ∃ q : Qt, q.Fit ∧ q.ls = l := by
  unfold askE at h
  split at h
  · omega
  split at h
  · omega
  split at h
  · rename_i h1; exact absurd h h1
  split at h
  · omega
  · rename_i _ h2 h3 h4
    exact ⟨by omega, askG_zero (by simpa using h3), tree_of (by simpa using h4)⟩

/-- whether a node finds words in a list of words -/
def atB (a : Ask) (want : List ByteArray) : List ByteArray → Bool
  | [] => false
  | x :: r => (if a.op = 2 then pfxB a.text x else decide ((x :: r).take want.length = want)) || atB a want r
def fndB (fs : List Wds) (a : Ask) : Bool := fs.any fun f => (decide (a.field = 0) || decide (a.field = f.field)) && atB a (wntF a.text) f.list
/-- the fields of a unit, as words -/
def fldF (c : Cat) (s : ByteArray) (x : Sheet) : List Wds := ⟨-1, wordsF x.title⟩ :: (chooseR c x.unit s).map fun f => ⟨f.el, wordsF f.text⟩
def evQ (ev : Ask → Bool) : Qt → Bool
  | .leaf a => ev a
  | .one _ q => !evQ ev q
  | .two a p q => if a.op = 6 then evQ ev p && evQ ev q else evQ ev p || evQ ev q
/-- the nodes that look for words, outside of not -/
def posQ : Qt → List Ask
  | .leaf a => if txtB a.op then [a] else []
  | .one _ _ => []
  | .two _ p q => posQ p ++ posQ q
/-- as the program says it: for how many more nodes a not goes on -/
def posG : List Ask → Nat → List Ask
  | [], _ => []
  | a :: r, n + 1 => posG r (n + prtN a.op)
  | a :: r, 0 => if a.op = 8 then posG r 1 else if txtB a.op then a :: posG r 0 else posG r 0
theorem posG_deny : ∀ (q : Qt), q.Fit → ∀ (r : List Ask) (n : Nat), posG (q.ls ++ r) (n + 1) = posG r n
  | .leaf a, h, r, n => by
    have h' : prtN a.op = 0 := h
    show posG r (n + prtN a.op) = posG r n
    rw [h']
    rfl
  | .one a q, h, r, n => by
    obtain ⟨h1, h2⟩ := h
    show posG (q.ls ++ r) (n + prtN a.op) = posG r n
    rw [h1, posG_deny q h2]
  | .two a p q, h, r, n => by
    obtain ⟨h1, h2, h3⟩ := h
    show posG ((p.ls ++ q.ls) ++ r) (n + prtN a.op) = posG r n
    rw [h1, List.append_assoc, show n + 2 = (n + 1) + 1 from rfl, posG_deny p h2, posG_deny q h3]
theorem txt_parts {op : Int} (h : txtB op = true) : prtN op = 0 := by
  unfold txtB at h
  unfold prtN
  simp only [Bool.or_eq_true, decide_eq_true_eq] at h
  rw [if_neg (by omega), if_neg (by omega)]
theorem posG_tree : ∀ (q : Qt), q.Fit → ∀ (r : List Ask), posG (q.ls ++ r) 0 = posQ q ++ posG r 0
  | .leaf a, h, r => by
    have h' : prtN a.op = 0 := h
    have h8 : a.op ≠ 8 := by
      intro h8
      rw [h8] at h'
      exact absurd h' (by decide)
    show (if a.op = 8 then posG r 1 else if txtB a.op then a :: posG r 0 else posG r 0) = (if txtB a.op then [a] else []) ++ posG r 0
    rw [if_neg h8]
    split <;> rfl
  | .one a q, h, r => by
    obtain ⟨h1, h2⟩ := h
    have h8 : a.op = 8 := by
      unfold prtN at h1
      split at h1
      · omega
      split at h1
      · assumption
      · omega
    show (if a.op = 8 then posG (q.ls ++ r) 1 else if txtB a.op then a :: posG (q.ls ++ r) 0 else posG (q.ls ++ r) 0) = [] ++ posG r 0
    rw [if_pos h8, show (1 : Nat) = 0 + 1 from rfl, posG_deny q h2]
    rfl
  | .two a p q, h, r => by
    obtain ⟨h1, h2, h3⟩ := h
    have h8 : a.op ≠ 8 := by
      intro h8
      rw [h8] at h1
      exact absurd h1 (by decide)
    have ht : ¬ txtB a.op = true := fun ht => by rw [txt_parts ht] at h1; omega
    show (if a.op = 8 then posG ((p.ls ++ q.ls) ++ r) 1 else if txtB a.op then a :: posG ((p.ls ++ q.ls) ++ r) 0 else posG ((p.ls ++ q.ls) ++ r) 0) = (posQ p ++ posQ q) ++ posG r 0
    rw [if_neg h8, if_neg ht, List.append_assoc, posG_tree p h2, posG_tree q h3, List.append_assoc]
theorem posG_is {q : Qt} (h : q.Fit) : posG q.ls 0 = posQ q := by
  have := posG_tree q h []
  rw [List.append_nil] at this
  rw [this]
  show posQ q ++ [] = posQ q
  rw [List.append_nil]

/-- the words of a phrase stand one behind the other -/
def frsB (all : Post → Bool) (p : Post) : Nat → List ByteArray → Bool
  | _, [] => true
  | i, x :: r => (decide (i ≠ 0) || decide (x = p.word)) && all ⟨x, p.unit, p.field, p.place + i⟩ && frsB all p (i + 1) r
/-- whether a posting supports its unit for a node -/
def supB (all : Post → Bool) (p : Post) (a : Ask) : Bool :=
  (decide (a.field = 0) || decide (a.field = p.field)) && if a.op = 2 then pfxB a.text p.word else frsB all p 0 (wntF a.text)
def ownB (l : List Post) (u : Int) (x : Post) : Bool := decide (x.unit = u) && l.any fun y => decide (y = x)
def supF (l : List Post) (u : Int) (nodes : List Ask) : List Post := l.filter fun p => decide (p.unit = u) && nodes.any (supB (ownB l u) p)
def scoF (l : List Post) : Int := l.foldl (fun n p => if p.field = -1 then n + 3 else n + 1) 0
end
section
open Go.RowKit

structure VarOk (w : World) : Prop where
  len : ∃ m : Int, w.cell? ⟨0, 0, none⟩ = some (.int .i64 m)
  tab : Lib.TabIs Tryz.prog w "internal/strconv.uint64pow10" .u64 Lib.pow10Tab
theorem cell_kept_ {w w' : World} {a : Addr} {u : Value} (hb : Below w.heap.size w w') (h : w.cell? a = some u) : w'.cell? a = some u :=
  (hb.cell (p := a) (World.block_lt_of_cell? w a h)).trans h
theorem VarOk.below {w w' : World} (h : VarOk w) (hb : Below w.heap.size w w') : VarOk w' := by
  obtain ⟨⟨m, h1⟩, h2⟩ := h
  exact ⟨⟨m, cell_kept_ hb h1⟩, Go.Joins.tab_stays (g := 1) (by kernel_rfl) h2 hb (Nat.le_refl _)⟩
/-- the strings of a row that has just been laid -/
theorem sl_new {w : World} {g : Nat} {ts : List ByteArray} {cs : Array Value} {t : TypeId} {fz : Nat × Nat} (hg : w.heap[g]? = some (.cells cs t fz)) (hc : ∀ (i : Nat) x, ts[i]? = some x → cs[i]? = some (.string x)) (c : Nat) (h1 : ts.length ≤ c) (h2 : c ≤ 9223372036854775807) : SlRep 1 (flat strEnc) w (fun b => b = g) ts (.slice (some ⟨g, 0, none⟩) ts.length c) := by
  refine ⟨_, c, rfl, h1, h2, fun i x hx => ⟨g, 0, strEnc x, rfl, rfl, rfl, fun j u hu => ?_⟩⟩
  rcases j with _ | j
  · simp [strEnc] at hu
    subst hu
    rw [Lib.cell_of_heap hg]
    simp [hc i x hx]
  · simp [strEnc] at hu
theorem split_c (c : UInt8) (s : ByteArray) (w : World) (hs : s.size ≤ 1000000) (hV : VarOk w) :
    Calls Tryz.prog 117 #[.string s, .string ⟨#[c]⟩] w fun e w' => e = .returned (.slice (some ⟨w.heap.size, 0, none⟩) (splB c s).length (splB c s).length) ∧ SlRep 1 (flat strEnc) w' (fun b => b = w.heap.size) (splB c s) (.slice (some ⟨w.heap.size, 0, none⟩) (splB c s).length (splB c s).length) ∧ Below w.heap.size w w' ∧ w'.heap.size = w.heap.size + 1 := by
  obtain ⟨⟨m, hm⟩, -⟩ := hV
  have hl := splB_len c s
  have hl2 := splB_lt c s
  refine (Tryz.strings_Split s ⟨#[c]⟩ m w (by omega) hm (Nat.le_refl _)).mono ?_
  rintro e w' ⟨rfl, rfl⟩
  refine ⟨by rw [hl], ?_, (Below.refl _ _).alloc (Nat.le_refl _) _, by simp⟩
  refine sl_new (g := w.heap.size) (cs := ((splB c s).map Value.string).toArray) (t := 9) (fz := (0, 0)) ?_ (fun i x hx => ?_) _ (Nat.le_refl _) (by omega)
  · show (w.heap.push _)[w.heap.size]? = _
    simp [splB]
  · simp [hx]
end
section
open Go.RowKit

abbrev askC (a : Ask) : Obj := .cells #[.int .i64 a.op, .int .i64 a.field, .int .i64 a.num, .string a.text] 53
abbrev askV (a : Ask) : Value := .agg #[.int .i64 a.op, .int .i64 a.field, .int .i64 a.num, .string a.text]
theorem askW_at {w W : World} {a : Ask} (hW : Below (w.heap.size + 1) (w.alloc (askC a)) W) : W.cell? ⟨w.heap.size, 0, none⟩ = some (.int .i64 a.op) ∧ W.cell? ⟨w.heap.size, 1, none⟩ = some (.int .i64 a.field) ∧ W.cell? ⟨w.heap.size, 2, none⟩ = some (.int .i64 a.num) ∧ W.cell? ⟨w.heap.size, 3, none⟩ = some (.string a.text) ∧ w.heap.size < W.heap.size :=
  ⟨(hW.cell (p := ⟨w.heap.size, 0, none⟩) (by simp)).trans (by simp), (hW.cell (p := ⟨w.heap.size, 1, none⟩) (by simp)).trans (by simp), (hW.cell (p := ⟨w.heap.size, 2, none⟩) (by simp)).trans (by simp), (hW.cell (p := ⟨w.heap.size, 3, none⟩) (by simp)).trans (by simp), by have := hW.size; simp at this; omega⟩
theorem textual_c (n : Int) (w : World) : Calls Tryz.prog 146 #[.int .i64 n] w fun e w' => e = .returned (.bool (txtB n)) ∧ w = w' := by
  have HE := Lib.hid (show txtB n = (decide (n = 1) || decide (n = 2) || decide (n = 3)) from rfl)
  go_enter Tryz.func146, Tryz.ntmps146
  go_wp2
  all_goals
    go_ret
    refine ⟨ret_bool ?_, rfl⟩
    rw [HE.out]
    clear HE
    simp_all
    try (rw [Bool.eq_iff_iff]; simp)
theorem beq_lit {s : ByteArray} {l : List UInt8} (h : s = ⟨l.toArray⟩) : (s.toList == l) = true := by
  have := str_eq s ⟨l.toArray⟩
  rw [decide_eq_true h, ByteArray.toList_eq ⟨l.toArray⟩] at this
  simpa using this
theorem bne_lit {s : ByteArray} {l : List UInt8} (h : s ≠ ⟨l.toArray⟩) : (s.toList == l) = false := by
  have := str_eq s ⟨l.toArray⟩
  rw [decide_eq_false h, ByteArray.toList_eq ⟨l.toArray⟩] at this
  simpa using this
theorem key_c (s : ByteArray) (w : World) : Calls Tryz.prog 148 #[.string s] w fun e w' => e = .returned (.bool (keyB s)) ∧ w = w' := by
  have HE := Lib.hid (show keyB s = (decide (s = ⟨#[97, 110, 100]⟩) || decide (s = ⟨#[111, 114]⟩) || decide (s = ⟨#[110, 111, 116]⟩)) from rfl)
  by_cases h1 : s = ⟨#[97, 110, 100]⟩
  · have e1 := beq_lit (l := [97, 110, 100]) h1
    have HX := Lib.hid (show keyB s = true by rw [HE.out, decide_eq_true h1]; rfl)
    clear h1
    go_enter Tryz.func148, Tryz.ntmps148
    go_wp2
    go_ret
    exact ⟨ret_bool HX.out.symm, rfl⟩
  · have e1 := bne_lit (l := [97, 110, 100]) h1
    by_cases h2 : s = ⟨#[111, 114]⟩
    · have e2 := beq_lit (l := [111, 114]) h2
      have HX := Lib.hid (show keyB s = true by rw [HE.out, decide_eq_true h2]; simp)
      clear h1 h2
      go_enter Tryz.func148, Tryz.ntmps148
      go_wp2
      go_ret
      exact ⟨ret_bool HX.out.symm, rfl⟩
    · have e2 := bne_lit (l := [111, 114]) h2
      by_cases h3 : s = ⟨#[110, 111, 116]⟩
      · have e3 := beq_lit (l := [110, 111, 116]) h3
        have HX := Lib.hid (show keyB s = true by rw [HE.out, decide_eq_true h3]; simp)
        clear h1 h2 h3
        go_enter Tryz.func148, Tryz.ntmps148
        go_wp2
        go_ret
        exact ⟨ret_bool HX.out.symm, rfl⟩
      · have e3 := bne_lit (l := [110, 111, 116]) h3
        have HX := Lib.hid (show keyB s = false by rw [HE.out, decide_eq_false h1, decide_eq_false h2, decide_eq_false h3]; rfl)
        clear h1 h2 h3
        go_enter Tryz.func148, Tryz.ntmps148
        go_wp2
        go_ret
        exact ⟨ret_bool HX.out.symm, rfl⟩
theorem simple_c (s : ByteArray) (w : World) (hs : s.size ≤ 1000000) : Calls Tryz.prog 147 #[.string s] w fun e w' => e = .returned (.bool (simB s)) ∧ w = w' := by
  have H0 := Lib.hid (show s.data.toList.all plnB = (s.data.toList.drop 0).all plnB from rfl)
  have HD := Lib.hid (fun (k : Nat) (h : k < s.size) => all_at h plnB)
  have HP := Lib.hid (fun (k : Nat) (h : k < s.size) (W : World) => plnI_nat s[k] ▸ plain_c (s[k].toNat : Int) W)
  go_enter Tryz.func147, Tryz.ntmps147
  go_wp2
  go_loop [6] (fun i => ∃ k : Nat, k ≤ s.size ∧ i = .int .i64 k ∧ Hid (s.data.toList.all plnB = (s.data.toList.drop k).all plnB)) (fun i => s.size - (intOf i).toNat)
  case atStart => exact ⟨0, Nat.zero_le _, rfl, H0⟩
  case round =>
    clear H0
    obtain ⟨k, hk, rfl, hh⟩ := hrel
    by_cases hlt : k < s.size
    · have hki : (k : Int) < (s.size : Int) := by omega
      have HK := Lib.hid (HP.out k hlt)
      cases hp : plnB s[k]
      · have HE := Lib.hid (show simB s = false by
          unfold simB
          rw [hh.out, HD.out k hlt, hp]
          simp)
        rw [hp] at HK
        clear hh hp
        go_wp2_with fail
        refine (HK.out _).mono ?_
        rintro e w1 ⟨rfl, rfl⟩
        go_wp2
        go_ret
        exact ⟨ret_bool HE.out.symm, rfl⟩
      · have HN := Lib.hid (show s.data.toList.all plnB = (s.data.toList.drop (k + 1)).all plnB by rw [hh.out, HD.out k hlt, hp]; rfl)
        rw [hp] at HK
        clear hh hp
        go_wp2_with fail
        refine (HK.out _).mono ?_
        rintro e w1 ⟨rfl, rfl⟩
        go_wp2
        go_round
        case rel => exact ⟨k + 1, by omega, by go_num, HN⟩
        case measure => simp [intOf]; omega
    · have HE := Lib.hid (show simB s = (decide (1 ≤ s.size) && decide (s.size ≤ 64)) by
        unfold simB
        rw [hh.out, List.drop_of_length_le (by rw [Array.length_toList]; show s.size ≤ k; omega)]
        simp)
      clear hh
      go_wp2
      all_goals
        go_ret
        refine ⟨ret_bool ?_, rfl⟩
        rw [HE.out]
        clear HE
        rw [Bool.eq_iff_iff]
        simp only [Bool.and_eq_true, decide_eq_true_eq, Bool.false_eq_true, false_iff]
        omega
set_option maxRecDepth 100000 in
theorem ranged_c (a : Ask) (w : World) : Calls Tryz.prog 102 #[askV a] w fun e w' => e = .returned (.bool (rngB a)) ∧ Below w.heap.size w w' := by
  have HB := Lib.hid (show Below w.heap.size w (w.alloc (askC a)) from (Below.refl _ _).alloc (Nat.le_refl _) _)
  have HT := Lib.hid (textual_c a.op (w.alloc (askC a)))
  cases ht : txtB a.op
  · have HE := Lib.hid (show rngB a = if a.op = 4 then decide (a.field = 0) && decide (1 ≤ a.num) && decide (a.num ≤ 4) else if a.op = 5 then decide (a.field = 0) && decide (1 ≤ a.num) && decide (a.num ≤ 1073741824) else decide (a.field = 0) && decide (a.num = 0) by unfold rngB; rw [ht]; rfl)
    rw [ht] at HT
    clear ht
    go_enter Tryz.func102, Tryz.ntmps102
    go_wp2_with fail
    refine HT.out.mono ?_
    rintro e w1 ⟨rfl, rfl⟩
    go_wp2
    all_goals
      go_ret
      refine ⟨ret_bool ?_, HB.out⟩
      rw [HE.out]
      clear HE HT HB
      simp_all
      try (rw [Bool.eq_iff_iff]; simp)
      try omega
  · have HE := Lib.hid (show rngB a = (decide (-1 ≤ a.field) && decide (a.field ≤ 64) && decide (a.num = 0)) by unfold rngB; rw [ht]; rfl)
    rw [ht] at HT
    clear ht
    go_enter Tryz.func102, Tryz.ntmps102
    go_wp2_with fail
    refine HT.out.mono ?_
    rintro e w1 ⟨rfl, rfl⟩
    go_wp2
    all_goals
      go_ret
      refine ⟨ret_bool ?_, HB.out⟩
      rw [HE.out]
      clear HE HT HB
      simp_all
      try (rw [Bool.eq_iff_iff]; simp)
      try omega
end
section
open Go.RowKit

theorem named1_c (s : ByteArray) (w : World) (hs : s.size ≤ 1000000) : Calls Tryz.prog 150 #[.string s] w fun e w' => e = .returned (.bool (!simB s)) ∧ w = w' := by
  have HS := Lib.hid (simple_c s w hs)
  go_enter Tryz.func150, Tryz.ntmps150
  go_wp2_with fail
  refine HS.out.mono ?_
  rintro e w1 ⟨rfl, rfl⟩
  go_wp2
  go_ret
  exact ⟨rfl, rfl⟩
theorem splB_size {c : UInt8} {s x : ByteArray} (h : x ∈ splB c s) : x.size ≤ s.size := by
  have hm : x.data.toList ∈ splG c [] s.data.toList := by
    rw [← splB_is]
    exact List.mem_map.2 ⟨x, h, rfl⟩
  have key : ∀ (l cur : List UInt8) (y : List UInt8), y ∈ splG c cur l → y.length ≤ cur.length + l.length := by
    intro l
    induction l with
    | nil =>
      intro cur y hy
      simp only [splG, List.mem_singleton] at hy
      subst hy
      simp
    | cons a r ih =>
      intro cur y hy
      rw [splG_cons] at hy
      split at hy
      · rcases List.mem_cons.1 hy with rfl | hy
        · simp
        · have := ih [] y hy
          simp at this ⊢
          omega
      · have := ih _ y hy
        simp at this ⊢
        omega
  have := key _ _ _ hm
  simp only [List.length_nil, Nat.zero_add, Array.length_toList] at this
  exact this
set_option maxRecDepth 100000 in
set_option maxHeartbeats 2000000 in
theorem named_c (a : Ask) (w : World) (hs : a.text.size ≤ 1000000) (hV : VarOk w) : Calls Tryz.prog 103 #[askV a] w fun e w' => e = .returned (.bool (namB a)) ∧ Below w.heap.size w w' := by
  have b0 : Below w.heap.size w (w.alloc (askC a)) := (Below.refl _ _).alloc (Nat.le_refl _) _
  have KC := Lib.hid (fun (W : World) (hW : Below (w.heap.size + 1) (w.alloc (askC a)) W) => askW_at hW)
  have HUP := Lib.hid (fun (W : World) (hW : Below (w.heap.size + 1) (w.alloc (askC a)) W) => b0.trans (hW.mono (Nat.le_succ _)))
  have hs1 : w.heap.size + 1 ≤ (w.alloc (askC a)).heap.size := by simp
  have HS := Lib.hid (fun W : World => simple_c a.text W hs)
  have HK := Lib.hid (fun W : World => key_c a.text W)
  have bX : Below (w.heap.size + 1) (w.alloc (askC a)) (w.alloc (askC a)) := Below.refl _ _
  by_cases h1 : a.op = 1
  · have HE := Lib.hid (show namB a = (simB a.text && !keyB a.text) by unfold namB; rw [if_pos h1])
    have e1 : (a.op == 1) = true := by rw [h1]; rfl
    clear h1 hV
    cases hb : simB a.text
    all_goals
      rw [hb] at HS
      have HE := Lib.hid (HE.out.trans (by rw [hb]))
      clear hb
      go_enter Tryz.func103, Tryz.ntmps103
      go_wp2_with fail
      refine (HS.out _).mono ?_
      rintro e w1 ⟨rfl, rfl⟩
      first
        | (go_wp2_with fail
           refine (HK.out _).mono ?_
           rintro e w1 ⟨rfl, rfl⟩
           go_wp2
           go_ret
           exact ⟨ret_bool (by rw [HE.out]; rfl), b0⟩)
        | (go_wp2
           go_ret
           exact ⟨ret_bool (by rw [HE.out]; rfl), b0⟩)
  · have e1 : (a.op == 1) = false := by simp [h1]
    by_cases h2 : a.op = 2
    · have HE := Lib.hid (show namB a = simB a.text by unfold namB; rw [if_neg h1, if_pos h2])
      have e2 : (a.op == 2) = true := by rw [h2]; rfl
      clear h1 h2 hV
      go_enter Tryz.func103, Tryz.ntmps103
      go_wp2_with fail
      refine (HS.out _).mono ?_
      rintro e w1 ⟨rfl, rfl⟩
      go_wp2
      go_ret
      exact ⟨ret_bool HE.out.symm, b0⟩
    · have e2 : (a.op == 2) = false := by simp [h2]
      by_cases h3 : a.op = 3
      · have HE := Lib.hid (show namB a = (decide (a.text.size ≤ 64) && !(wntF a.text).any fun s => !simB s) by unfold namB; rw [if_neg h1, if_neg h2, if_pos h3])
        have e3 : (a.op == 3) = true := by rw [h3]; rfl
        have HSP := Lib.hid (split_c 32 a.text (w.alloc (askC a)) hs (hV.below b0))
        have HSZ := Lib.hid (fun (x : ByteArray) (hx : x ∈ wntF a.text) => Nat.le_trans (splB_size hx) hs)
        clear h1 h2 h3 hV
        rw [show splB 32 a.text = wntF a.text from rfl, show (w.alloc (askC a)).heap.size = w.heap.size + 1 by simp] at HSP
        have HWL := Lib.hid (show (wntF a.text).length ≤ 1000001 from Nat.le_trans (splB_lt 32 a.text) (by omega))
        generalize wntF a.text = ws at *
        go_enter Tryz.func103, Tryz.ntmps103
        go_wp2_with fail
        refine HSP.out.mono ?_
        rintro e w1 ⟨rfl, hsl, hb1, hn1⟩
        have bX := bX.trans hb1
        have hsl := hsl.monoF strS (F' := fun b => b < w1.heap.size) (fun b hb => by have e : b = _ := hb; have := hb1.size; have := hn1; omega)
        have HAN := Lib.hid (strAny_c 150 #[] (fun s => !simB s) ws _ w1 w1.heap.size (Nat.le_refl _) hsl (fun _ _ => by kernel_rfl) (fun x W' hx _ => (named1_c x W' (HSZ.out x hx)).mono fun e w' ⟨h1, h2⟩ => ⟨h1, h2 ▸ Below.refl _ _⟩))
        have hw1 : ws.length ≤ 1000001 := HWL.out
        obtain ⟨z0, z1, z2, z3, zl⟩ := KC.out _ bX
        clear hsl HSP hb1 hn1
        by_cases h64 : a.text.size ≤ 64
        · have HE := Lib.hid (show namB a = !ws.any fun s => !simB s by rw [HE.out, decide_eq_true h64]; rfl)
          have h64' : (a.text.size : Int) ≤ 64 := by omega
          clear h64
          go_wp2_with fail
          refine HAN.out.mono ?_
          rintro e w2 ⟨rfl, hb2⟩
          have bX := bnd_call bX hs1 hb2
          generalize ws.any _ = bb at *
          cases bb
          all_goals
            go_wp2
            go_ret
            exact ⟨ret_bool HE.out.symm, HUP.out _ bX⟩
        · have HE := Lib.hid (show namB a = false by rw [HE.out, decide_eq_false h64]; rfl)
          have h64' : ¬ (a.text.size : Int) ≤ 64 := by omega
          clear h64
          go_wp2
          go_ret
          exact ⟨ret_bool HE.out.symm, HUP.out _ bX⟩
      · have e3 : (a.op == 3) = false := by simp [h3]
        have HE := Lib.hid (show namB a = decide (a.text = ⟨#[]⟩) by unfold namB; rw [if_neg h1, if_neg h2, if_neg h3])
        have hz : a.text.toList.isEmpty = decide (a.text = ⟨#[]⟩) := by
          rw [str_empty]
          by_cases h : a.text = ⟨#[]⟩
          · rw [h]; rfl
          · rw [decide_eq_false h, decide_eq_false_iff_not]
            intro e
            exact h (ByteArray.ext (Array.eq_empty_of_size_eq_zero e))
        clear h1 h2 h3 hV
        generalize decide (a.text = ⟨#[]⟩) = bz at *
        cases bz
        all_goals
          go_enter Tryz.func103, Tryz.ntmps103
          go_wp2
          go_ret
          exact ⟨ret_bool HE.out.symm, b0⟩
set_option maxRecDepth 100000 in
theorem parts_c (n : Int) (w : World) : Calls Tryz.prog 114 #[.int .i64 n] w fun e w' => e = .returned (.int .i64 (prtN n : Nat)) ∧ w = w' := by
  have HE := Lib.hid (show prtN n = if n = 6 ∨ n = 7 then 2 else if n = 8 then 1 else 0 from rfl)
  go_enter Tryz.func114, Tryz.ntmps114
  go_wp2
  all_goals
    go_ret
    refine ⟨ret_int ?_, rfl⟩
    rw [HE.out]
    clear HE
    simp_all
set_option maxRecDepth 100000 in
set_option maxHeartbeats 2000000 in
theorem after_c (l : List Ask) (i : Nat) (v : Value) (w : World) (B : Nat) (hB : B ≤ w.heap.size) (h : Asks w B l v) (hl : l.length ≤ 1000000) (hi : i ≤ 1000000) :
    Calls Tryz.prog 73 #[v, .int .i64 i] w fun e w' => e = .returned (.int .i64 (aftF l i)) ∧ w = w' := by
  have H0 := Lib.hid (show aftF l i = aftG (l.drop i) 1 i from rfl)
  have HP := Lib.hid (fun (n : Int) (W : World) => parts_c n W)
  have HC := Lib.hid (fun (n : Int) => prtN_cases n)
  have HIT := Lib.hid (fun (k : Nat) (x : Ask) (hx : l[k]? = some x) => (by
    obtain ⟨A, c, rfl, -⟩ := id h
    obtain ⟨b, off, rfl, hbB, q0, -⟩ := Asks.at_ h hx
    exact ⟨b, off, c, rfl, Nat.lt_of_lt_of_le hbB hB, q0⟩ : ∃ b off c, v = .slice (some ⟨b, off, none⟩) l.length c ∧ b < w.heap.size ∧ w.cell? ⟨b, off + k * 4, none⟩ = some (.int .i64 x.op)))
  obtain ⟨A, c, rfl, -⟩ := id h
  clear h
  go_enter Tryz.func73, Tryz.ntmps73
  go_wp2
  go_loop [1, 5] (fun i' o => ∃ (k n : Nat), i' = .int .i64 k ∧ o = .int .i64 n ∧ k ≤ 2000001 ∧ n ≤ k + 1 ∧ Hid (aftF l i = aftG (l.drop k) n k)) (fun i' _ => l.length + 2 - (intOf i').toNat)
  case atStart => exact ⟨i, 1, rfl, rfl, by omega, by omega, H0⟩
  case round =>
    clear H0
    obtain ⟨k, n, rfl, rfl, hk, hn, HS⟩ := hrel
    rcases n with _ | n
    · have HE := Lib.hid (show aftF l i = (k : Int) by rw [HS.out]; cases l.drop k <;> rfl)
      clear HS
      go_wp2
      go_ret
      exact ⟨ret_int HE.out.symm, rfl⟩
    · by_cases hlt : k < l.length
      · obtain ⟨x, hx⟩ := get_at l hlt
        obtain ⟨b, off, c', e, hbw, q0⟩ := HIT.out k x hx
        injection e with e1 e2 e3
        subst e1 e3
        have HN := Lib.hid (show aftF l i = aftG (l.drop (k + 1)) (n + prtN x.op) (k + 1) by rw [HS.out, drop_at hx]; rfl)
        have HPX := Lib.hid (HP.out x.op)
        have hc := HC.out x.op
        have hki : (k : Int) < (l.length : Int) := by omega
        have hn0 : (0 : Int) < ((n + 1 : Nat) : Int) := by omega
        clear hx HS e2
        go_wp2_with fail
        refine (HPX.out _).mono ?_
        rintro e w1 ⟨rfl, rfl⟩
        generalize prtN x.op = pp at *
        have hw1 : IntKind.i64.wrap ((pp : Int) - 1) = (pp : Int) - 1 := IntWalk.i64_in _ (by omega)
        have hw2 : IntKind.i64.wrap (((n + 1 : Nat) : Int) + ((pp : Int) - 1)) = ((n + pp : Nat) : Int) := by rw [IntWalk.i64_in _ (by omega)]; omega
        have hw3 : IntKind.i64.wrap ((k : Int) + 1) = (k : Int) + 1 := IntWalk.i64_in _ (by omega)
        go_wp2
        go_round
        case rel => exact ⟨k + 1, n + pp, by go_num, by rw [show (n : Int) + 1 + ((pp : Int) - 1) = ((n + pp : Nat) : Int) by omega], by omega, by omega, HN⟩
        case measure => simp [intOf]; omega
      · have HE := Lib.hid (show aftF l i = -1 by rw [HS.out, List.drop_of_length_le (by omega)]; rfl)
        have hki : ¬ (k : Int) < (l.length : Int) := by omega
        have hn0 : (0 : Int) < ((n + 1 : Nat) : Int) := by omega
        clear HS
        go_wp2
        go_ret
        exact ⟨ret_int HE.out.symm, rfl⟩
set_option maxRecDepth 100000 in
set_option maxHeartbeats 4000000 in
theorem qcheck_c (l : List Ask) (v : Value) (w : World) (B : Nat) (hB : B ≤ w.heap.size) (h : Asks w B l v) (hs : ∀ a ∈ l, a.text.size ≤ 1000000) (hV : VarOk w) :
    Calls Tryz.prog 61 #[v] w fun e w' => e = .returned (.int .i64 (askE l)) ∧ Below w.heap.size w w' := by
  have HA := Lib.hid (fun (W : World) (hW : Below w.heap.size w W) (hl : l.length ≤ 32) => after_c l 0 v W B (Nat.le_trans hB hW.size) (h.below askS (hW.mono hB)) (by omega) (by omega))
  have HR := Lib.hid (fun (a : Ask) (W : World) => ranged_c a W)
  have HN := Lib.hid (fun (a : Ask) (ha : a ∈ l) (W : World) (hW : Below w.heap.size w W) => named_c a W (hs a ha) (hV.below hW))
  have HIT := Lib.hid (fun (k : Nat) (x : Ask) (hx : l[k]? = some x) (W : World) (hW : Below w.heap.size w W) => (by
    obtain ⟨A, c, rfl, -⟩ := id h
    obtain ⟨b, off, rfl, hbB, q0, q1, q2, q3⟩ := Asks.at_ (h.below askS (hW.mono hB)) hx
    exact ⟨b, off, c, rfl, Nat.lt_of_lt_of_le hbB (Nat.le_trans hB hW.size), q0, q1, q2, q3⟩ : ∃ b off c, v = .slice (some ⟨b, off, none⟩) l.length c ∧ b < W.heap.size ∧ W.cell? ⟨b, off + k * 4, none⟩ = some (.int .i64 x.op) ∧ W.cell? ⟨b, off + k * 4 + 1, none⟩ = some (.int .i64 x.field) ∧ W.cell? ⟨b, off + k * 4 + 2, none⟩ = some (.int .i64 x.num) ∧ W.cell? ⟨b, off + k * 4 + 3, none⟩ = some (.string x.text)))
  obtain ⟨A, c, rfl, -⟩ := id h
  clear h hV hs
  have HE := Lib.hid (show askE l = if l.length = 0 then 9 else if 32 < l.length then 8 else if askG l ≠ 0 then askG l else if aftF l 0 ≠ l.length then 10 else 0 from rfl)
  by_cases h0 : l.length = 0
  · have HX := Lib.hid (show askE l = 9 by rw [HE.out, if_pos h0])
    go_enter Tryz.func61, Tryz.ntmps61
    go_wp2
    go_ret
    exact ⟨ret_int HX.out.symm, Below.refl _ _⟩
  by_cases h32 : 32 < l.length
  · have HX := Lib.hid (show askE l = 8 by rw [HE.out, if_neg h0, if_pos h32])
    have h1 : (32 : Int) < (l.length : Int) := by omega
    go_enter Tryz.func61, Tryz.ntmps61
    go_wp2
    go_ret
    exact ⟨ret_int HX.out.symm, Below.refl _ _⟩
  have HX := Lib.hid (show askE l = if askG l ≠ 0 then askG l else if aftF l 0 ≠ l.length then 10 else 0 by rw [HE.out, if_neg h0, if_neg h32])
  have h1 : ¬ (32 : Int) < (l.length : Int) := by omega
  have h01 : ¬ (l.length : Int) = 0 := by omega
  have hl : l.length ≤ 32 := by omega
  have H0 := Lib.hid (show askG l = askG (l.drop 0) from rfl)
  clear HE h32
  go_enter Tryz.func61, Tryz.ntmps61
  go_wp2
  go_loopw [13] (fun i wr => ∃ k : Nat, k ≤ l.length ∧ i = .int .i64 k ∧ Hid (askG l = askG (l.drop k)) ∧ Below w.heap.size w wr) (fun i _ => l.length - (intOf i).toNat)
  case atStart => exact ⟨0, Nat.zero_le _, rfl, H0, Below.refl _ _⟩
  case round =>
    clear H0
    obtain ⟨k, hk, rfl, HS, bw⟩ := hrel
    by_cases hlt : k < l.length
    · obtain ⟨x, hx⟩ := get_at l hlt
      obtain ⟨b, off, c', e, hbw, q0, q1, q2, q3⟩ := HIT.out k x hx _ bw
      injection e with e1 e2 e3
      subst e1 e3
      have hki : (k : Int) < (l.length : Int) := by omega
      have hw3 : IntKind.i64.wrap ((k : Int) + 1) = (k : Int) + 1 := IntWalk.i64_in _ (by omega)
      have HF := Lib.hid (show askG l = if askF x = 0 then askG (l.drop (k + 1)) else askF x by rw [HS.out, drop_at hx]; rfl)
      have HNX := Lib.hid (HN.out x (List.mem_of_getElem? hx))
      have HRX := Lib.hid (HR.out x)
      have HFX := Lib.hid (show askF x = if x.op < 1 ∨ 8 < x.op then 1 else if rngB x = false then 2 else if namB x = false then 4 else 0 from rfl)
      have b1 := bw.alloc bw.size (askC x)
      have bX : Below (wr.heap.size + 1) (wr.alloc (askC x)) (wr.alloc (askC x)) := Below.refl _ _
      have hs1 : wr.heap.size + 1 ≤ (wr.alloc (askC x)).heap.size := by simp
      have KC := Lib.hid (fun (W : World) (hW : Below (wr.heap.size + 1) (wr.alloc (askC x)) W) => askW_at hW)
      have HUP := Lib.hid (fun (W : World) (hW : Below (wr.heap.size + 1) (wr.alloc (askC x)) W) => b1.trans (hW.mono (Nat.le_trans bw.size (Nat.le_succ _))))
      clear hx HS e2
      by_cases ho : x.op < 1 ∨ 8 < x.op
      · have HZ := Lib.hid (show askE l = 1 by
          have e : askF x = 1 := by rw [HFX.out, if_pos ho]
          rw [HX.out, HF.out, e]; rfl)
        rcases ho with ho | ho
        · go_wp2
          go_ret
          exact ⟨ret_int HZ.out.symm, b1⟩
        · have ho' : ¬ x.op < 1 := by omega
          go_wp2
          go_ret
          exact ⟨ret_int HZ.out.symm, b1⟩
      · have ho1 : ¬ x.op < 1 := by omega
        have ho2 : ¬ 8 < x.op := by omega
        have HFX := Lib.hid (show askF x = if rngB x = false then 2 else if namB x = false then 4 else 0 by rw [HFX.out, if_neg ho])
        clear ho
        go_wp2_with fail
        obtain ⟨y0, y1, y2, y3, yl⟩ := KC.out _ bX
        refine (HRX.out _).mono ?_
        rintro e w2 ⟨rfl, hb2⟩
        have bX := bnd_call bX hs1 hb2
        clear hb2 y0 y1 y2 y3 yl q0 q1 q2 q3
        cases hr : rngB x
        · have HZ := Lib.hid (show askE l = 2 by
            have e : askF x = 2 := by rw [HFX.out, hr]; rfl
            rw [HX.out, HF.out, e]; rfl)
          clear hr
          go_wp2
          go_ret
          exact ⟨ret_int HZ.out.symm, HUP.out _ bX⟩
        · have HFX := Lib.hid (show askF x = if namB x = false then 4 else 0 by rw [HFX.out, hr]; rfl)
          clear hr
          obtain ⟨y0, y1, y2, y3, yl⟩ := KC.out _ bX
          go_wp2_with fail
          refine (HNX.out _ (HUP.out _ bX)).mono ?_
          rintro e w3 ⟨rfl, hb3⟩
          have bX := bnd_call bX hs1 hb3
          clear hb3 y0 y1 y2 y3 yl
          cases hn : namB x
          · have HZ := Lib.hid (show askE l = 4 by
              have e : askF x = 4 := by rw [HFX.out, hn]; rfl
              rw [HX.out, HF.out, e]; rfl)
            clear hn
            go_wp2
            go_ret
            exact ⟨ret_int HZ.out.symm, HUP.out _ bX⟩
          · have HZ := Lib.hid (show askG l = askG (l.drop (k + 1)) by
              have e : askF x = 0 := by rw [HFX.out, hn]; rfl
              rw [HF.out, e]; rfl)
            clear hn
            go_wp2
            go_roundw
            case rel => exact ⟨k + 1, by omega, by go_num, HZ, HUP.out _ bX⟩
            case measure => simp [intOf]; omega
    · have hki : ¬ (k : Int) < (l.length : Int) := by omega
      have HZ := Lib.hid (show askE l = if aftF l 0 ≠ l.length then 10 else 0 by
        rw [HX.out, HS.out, List.drop_of_length_le (by omega)]; rfl)
      clear HS
      go_wp2_with fail
      refine (HA.out _ bw hl).mono ?_
      rintro e w1 ⟨rfl, rfl⟩
      by_cases ha : aftF l 0 = l.length
      · have HY := Lib.hid (show askE l = 0 by rw [HZ.out, if_neg (by simpa using ha)])
        have ha' : (aftF l 0 != (l.length : Int)) = false := by simp [ha]
        generalize aftF l 0 = z at *
        clear ha
        go_wp2
        go_ret
        exact ⟨ret_int HY.out.symm, bw⟩
      · have HY := Lib.hid (show askE l = 10 by rw [HZ.out, if_pos (by simpa using ha)])
        have ha' : (aftF l 0 != (l.length : Int)) = true := by simp [ha]
        generalize aftF l 0 = z at *
        clear ha
        go_wp2
        go_ret
        exact ⟨ret_int HY.out.symm, bw⟩
end
end Go.Proofs.YtngodakkdhdmjaaGreatDoor
