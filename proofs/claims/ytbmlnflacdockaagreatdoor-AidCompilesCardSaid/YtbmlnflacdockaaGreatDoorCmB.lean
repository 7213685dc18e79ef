/- The program: Compile. -/
import Derived.Test.YtbmlnflacdockaaGreatDoorPrX
import Derived.Deep.RegionLaw
import Derived.Test.YtbmlnflacdockaaGreatDoorNuA
namespace Go.Proofs.YtbmlnflacdockaaGreatDoor
open Go.RowKit

/-- the tag of a level -/
def tagF (l : Int) : ByteArray := if l = 1 then ⟨#[102, 111, 110, 100, 115]⟩ else if l = 2 then ⟨#[115, 101, 114, 105, 101, 115]⟩ else if l = 3 then ⟨#[102, 105, 108, 101]⟩ else ⟨#[105, 116, 101, 109]⟩
def markT : ByteArray := ⟨#[109, 97, 114, 107]⟩
abbrev parT : ByteArray := ⟨#[112]⟩
def pntN (n : ByteArray) : Int := (Lib.countByte n.data.toList 46 : Nat)
def headN (s : Sheet) (n : ByteArray) : Node := ⟨pntN n, tagF s.level, n ++ ⟨#[32]⟩ ++ s.title⟩
def markN (s : Sheet) (n : ByteArray) : List Node := if s.mark = ⟨#[]⟩ then [] else [⟨pntN n + 1, markT, s.mark⟩]
def textF (c : Cat) (ord : List ByteArray) (f : Fact) : ByteArray := nameF ord c.labels f.el.toNat ++ ⟨#[58, 32]⟩ ++ ⟨(expF (fun u => citeF c.sheets u) f.text).toArray⟩
def parN (c : Cat) (ord : List ByteArray) (n : ByteArray) (f : Fact) : Node := ⟨pntN n + 1, parT, textF c ord f⟩
/-- the section of a sheet -/
def secF (c : Cat) (ord : List ByteArray) (s : Sheet) (n : ByteArray) : Sect := ⟨s.unit, n, headN s n :: markN s n ++ (chooseF ord s.facts).map (parN c ord n)⟩
/-- what the call has laid: its copies, the section with the nodes so far -/
structure SecAt (w0 : World) (v1 v2 v3 vf : Value) (s : Sheet) (n : ByteArray) (go : Nat) (v : Value) (l : List Node) (W : World) : Prop where
  blk : W.heap[go]? = some (.cells #[.int .i64 s.unit, .string n, v] 70 (0, 0))
  row : OwnRep 3 (flat Node.enc) 61 (w0.heap.size + 3) W l v
  ne : v.ownBlock ≠ some go
  lo : w0.heap.size + 3 ≤ go
  cb : W.heap[w0.heap.size]? = some (.cells #[v1, v2, v3] 26 (0, 0))
  sb : W.heap[w0.heap.size + 1]? = some (.cells #[.int .i64 s.unit, .int .i64 s.parent, .int .i64 s.level, .string s.mark, .string s.title, vf] 65 (0, 0))
  rb : W.heap[w0.heap.size + 1 + 1]? = some (.cells #[.int .i64 0, .string ⟨#[]⟩, .slice none 0 0] 70 (0, 0))
  below : Below w0.heap.size w0 W
abbrev secZ : Obj := .cells #[.int .i64 0, .string ⟨#[]⟩, .slice none 0 0] 70
abbrev tagsC : Obj := .cells #[.string ⟨#[]⟩, .string ⟨#[102, 111, 110, 100, 115]⟩, .string ⟨#[115, 101, 114, 105, 101, 115]⟩, .string ⟨#[102, 105, 108, 101]⟩, .string ⟨#[105, 116, 101, 109]⟩] 93
/-- the world behind the first statements -/
structure SecW (w : World) (v1 v2 v3 vf : Value) (s : Sheet) (W : World) : Prop where
  cb : W.heap[w.heap.size]? = some (catC v1 v2 v3)
  sb : W.heap[w.heap.size + 1]? = some (shtC s vf)
  rb : W.heap[w.heap.size + 1 + 1]? = some secZ
  tb : W.heap[w.heap.size + 1 + 1 + 1]? = some tagsC
  size : W.heap.size = w.heap.size + 4
  below : Below w.heap.size w W
theorem SecW.make (w : World) (v1 v2 v3 vf : Value) (s : Sheet) : SecW w v1 v2 v3 vf s ((((w.alloc (catC v1 v2 v3)).alloc (shtC s vf)).alloc secZ).alloc tagsC) where
  cb := by
    rw [Below.heap_alloc _ _ _ (by simp; omega), Below.heap_alloc _ _ _ (by simp; omega), Below.heap_alloc _ _ _ (by simp)]
    exact heap_newL w _
  sb := by
    rw [Below.heap_alloc _ _ _ (by simp), Below.heap_alloc _ _ _ (by simp)]
    have := heap_newL (w.alloc (catC v1 v2 v3)) (shtC s vf)
    simpa only [World.size_alloc] using this
  rb := by
    rw [Below.heap_alloc _ _ _ (by simp)]
    have := heap_newL ((w.alloc (catC v1 v2 v3)).alloc (shtC s vf)) secZ
    simpa only [World.size_alloc] using this
  tb := by
    have := heap_newL (((w.alloc (catC v1 v2 v3)).alloc (shtC s vf)).alloc secZ) tagsC
    simpa only [World.size_alloc] using this
  size := by simp
  below := (((((Below.refl _ _).alloc (Nat.le_refl _) _).alloc (by simp) _).alloc (by simp; omega) _).alloc (by simp; omega) _)
theorem SecW.tag {w W : World} {v1 v2 v3 vf : Value} {s : Sheet} (h : SecW w v1 v2 v3 vf s W) (h1 : 1 ≤ s.level) (h4 : s.level ≤ 4) : W.cell? ⟨w.heap.size + 1 + 1 + 1, s.level.toNat, none⟩ = some (.string (tagF s.level)) := by
  rw [Lib.cell_of_heap h.tb]
  rcases (by omega : s.level = 1 ∨ s.level = 2 ∨ s.level = 3 ∨ s.level = 4) with e | e | e | e <;> rw [e] <;> rfl
theorem SecW.fld {w W : World} {v1 v2 v3 vf : Value} {s : Sheet} (h : SecW w v1 v2 v3 vf s W) : W.cell? ⟨w.heap.size + 1, 0, none⟩ = some (.int .i64 s.unit) ∧ W.cell? ⟨w.heap.size + 1, 2, none⟩ = some (.int .i64 s.level) ∧ W.cell? ⟨w.heap.size + 1, 4, none⟩ = some (.string s.title) := by
  rw [Lib.cell_of_heap h.sb, Lib.cell_of_heap h.sb, Lib.cell_of_heap h.sb]
  exact ⟨rfl, rfl, rfl⟩
theorem SecW.keep {w W W' : World} {v1 v2 v3 vf : Value} {s : Sheet} (h : SecW w v1 v2 v3 vf s W) (hl : 1 ≤ s.level ∧ s.level ≤ 4) (hb : Below W.heap.size W W') : W'.cell? ⟨w.heap.size + 1, 0, none⟩ = some (.int .i64 s.unit) ∧ W'.cell? ⟨w.heap.size + 1, 2, none⟩ = some (.int .i64 s.level) ∧ W'.cell? ⟨w.heap.size + 1, 4, none⟩ = some (.string s.title) ∧ W'.cell? ⟨w.heap.size + 1 + 1 + 1, s.level.toNat, none⟩ = some (.string (tagF s.level)) := by
  obtain ⟨h1, h2, h3⟩ := h.fld
  exact ⟨(hb.cell (p := ⟨w.heap.size + 1, 0, none⟩) (heap_lt h.sb)).trans h1, (hb.cell (p := ⟨w.heap.size + 1, 2, none⟩) (heap_lt h.sb)).trans h2, (hb.cell (p := ⟨w.heap.size + 1, 4, none⟩) (heap_lt h.sb)).trans h3, (hb.cell (p := ⟨w.heap.size + 1 + 1 + 1, s.level.toNat, none⟩) (heap_lt h.tb)).trans (h.tag hl.1 hl.2)⟩
theorem SecW.below_ {w W W' : World} {v1 v2 v3 vf : Value} {s : Sheet} (h : SecW w v1 v2 v3 vf s W) (hb : Below W.heap.size W W') : W'.heap[w.heap.size]? = some (catC v1 v2 v3) ∧ W'.heap[w.heap.size + 1]? = some (shtC s vf) ∧ W'.heap[w.heap.size + 1 + 1]? = some secZ ∧ Below w.heap.size w W' :=
  ⟨(hb.block _ (heap_lt h.cb)).trans h.cb, (hb.block _ (heap_lt h.sb)).trans h.sb, (hb.block _ (heap_lt h.rb)).trans h.rb, h.below.trans (hb.mono h.below.size)⟩
abbrev nodC (x : Node) : Obj := .cells #[.int .i64 x.depth, .string x.tag, .string x.text] 61
abbrev secC (s : Sheet) (n : ByteArray) (v : Value) : Obj := .cells #[.int .i64 s.unit, .string n, v] 70
theorem SecAt.start1 {w W : World} {v1 v2 v3 vf : Value} {s : Sheet} (n : ByteArray) (h : SecW w v1 v2 v3 vf s W) (x : Node) : SecAt w v1 v2 v3 vf s n W.heap.size (.slice (some ⟨W.heap.size + 1, 0, none⟩) 1 1) [x] ((W.alloc (secC s n (.slice (some ⟨W.heap.size + 1, 0, none⟩) 1 1))).alloc (nodC x)).drew := by
  have hb : Below W.heap.size W ((W.alloc (secC s n (.slice (some ⟨W.heap.size + 1, 0, none⟩) 1 1))).alloc (nodC x)).drew := (((Below.refl _ _).alloc (Nat.le_refl _) _).alloc (by simp) _).drew
  obtain ⟨h1, h2, h4, h3⟩ := h.below_ hb
  have hz := h.size
  refine ⟨?_, OwnRep.of_full nodS rfl (by decide) (by omega) ?_, by simp [Value.ownBlock], by omega, h1, h2, h4, h3⟩
  · show ((W.alloc _).alloc _).heap[W.heap.size]? = _
    rw [Below.heap_alloc _ _ _ (by simp)]
    exact heap_newL W _
  · have := heap_newL (W.alloc (secC s n (.slice (some ⟨W.heap.size + 1, 0, none⟩) 1 1))) (nodC x)
    rw [World.size_alloc] at this
    exact this
theorem SecAt.start2 {w W : World} {v1 v2 v3 vf : Value} {s : Sheet} (n : ByteArray) (h : SecW w v1 v2 v3 vf s W) (x : Node) : SecAt w v1 v2 v3 vf s n (W.heap.size + 1) (.slice (some ⟨W.heap.size, 0, none⟩) 1 1) [x] ((W.alloc (nodC x)).alloc (secC s n (.slice (some ⟨W.heap.size, 0, none⟩) 1 1))).drew := by
  have hb : Below W.heap.size W ((W.alloc (nodC x)).alloc (secC s n (.slice (some ⟨W.heap.size, 0, none⟩) 1 1))).drew := (((Below.refl _ _).alloc (Nat.le_refl _) _).alloc (by simp) _).drew
  obtain ⟨h1, h2, h4, h3⟩ := h.below_ hb
  have hz := h.size
  refine ⟨?_, OwnRep.of_full nodS rfl (by decide) (by omega) ?_, by simp [Value.ownBlock], by omega, h1, h2, h4, h3⟩
  · have := heap_newL (W.alloc (nodC x)) (secC s n (.slice (some ⟨W.heap.size, 0, none⟩) 1 1))
    rw [World.size_alloc] at this
    exact this
  · show ((W.alloc _).alloc _).heap[W.heap.size]? = _
    rw [Below.heap_alloc _ _ _ (by simp)]
    exact heap_newL W _
theorem SecAt.call {w W W' : World} {v1 v2 v3 vf v : Value} {s : Sheet} {n : ByteArray} {go : Nat} {l : List Node} (h : SecAt w v1 v2 v3 vf s n go v l W) (hb : Below W.heap.size W W') : SecAt w v1 v2 v3 vf s n go v l W' :=
  ⟨(hb.block _ (heap_lt h.blk)).trans h.blk, h.row.below nodS hb, h.ne, h.lo, (hb.block _ (heap_lt h.cb)).trans h.cb, (hb.block _ (heap_lt h.sb)).trans h.sb, (hb.block _ (heap_lt h.rb)).trans h.rb, h.below.trans (hb.mono h.below.size)⟩
theorem SecAt.app {w W w6 : World} {v1 v2 v3 vf v v' : Value} {s : Sheet} {n : ByteArray} {go : Nat} {l : List Node} (h : SecAt w v1 v2 v3 vf s n go v l W) {x : Node} (hown : OwnRep 3 (flat Node.enc) 61 (w.heap.size + 3) w6 (l ++ [x]) v')
    (hg : W.grownBy w6 v.ownBlock) (hat : v'.ownBlock = v.ownBlock ∨ v'.ownBlock = some W.heap.size) : SecAt w v1 v2 v3 vf s n go v' (l ++ [x]) (w6.setCell ⟨go, 2, none⟩ v') := by
  have hlt := h.row.own_lt
  have hgl := heap_lt h.blk
  have hlo := h.lo
  have h6 : w6.heap[go]? = some (.cells #[.int .i64 s.unit, .string n, v] 70 (0, 0)) := (hg.block go hgl (fun e => h.ne e.symm)).trans h.blk
  have hne : v'.ownBlock ≠ some go := by
    rcases hat with e | e
    · rw [e]; exact h.ne
    · rw [e]; intro e2; injection e2 with e2; omega
  refine ⟨by simp [World.setCell, Array.getElem?_modify, h6], hown.keep (fun b hb => Below.heap_setCell _ _ _ _ (by rintro rfl; exact hne hb)), hne, hlo, ?_, ?_, ?_, (h.below.grown hg h.below.size (fun k hk => by have := (hlt k hk).1; omega)).setCell (by show w.heap.size ≤ go; omega) _⟩
  · rw [Below.heap_setCell _ _ _ _ (by show w.heap.size ≠ go; omega)]
    exact (hg.block _ (heap_lt h.cb) (fun e => by have := (hlt _ e.symm).1; omega)).trans h.cb
  · rw [Below.heap_setCell _ _ _ _ (by show w.heap.size + 1 ≠ go; omega)]
    exact (hg.block _ (heap_lt h.sb) (fun e => by have := (hlt _ e.symm).1; omega)).trans h.sb
  · rw [Below.heap_setCell _ _ _ _ (by show w.heap.size + 1 + 1 ≠ go; omega)]
    exact (hg.block _ (heap_lt h.rb) (fun e => by have := (hlt _ e.symm).1; omega)).trans h.rb
theorem SecAt.cells {w W : World} {v1 v2 v3 vf v : Value} {s : Sheet} {n : ByteArray} {go : Nat} {l : List Node} (h : SecAt w v1 v2 v3 vf s n go v l W) : W.cell? ⟨go, 2, none⟩ = some v ∧ W.frozen? ⟨go, 2, none⟩ = false ∧ go < W.heap.size :=
  ⟨by rw [Lib.cell_of_heap h.blk]; rfl, Lib.frozen_of_heap h.blk 2, heap_lt h.blk⟩
abbrev pN (n nm tx : ByteArray) : Node := ⟨pntN n + 1, parT, nm ++ ⟨#[58, 32]⟩ ++ tx⟩
theorem one_lay (w : World) (y : Node) : SlRep 3 (flat Node.enc) (w.alloc (nodC y)) (fun b => False ∨ b = w.heap.size) [y] (.slice (some ⟨w.heap.size, 0, none⟩) 1 1) :=
  SlRep.one_new nodS (w := w) (F := fun _ => False) (x := y) (cs := Node.enc y) rfl rfl (fun _ hb => hb.elim)
theorem one_off {v : Value} {w2 w3 : World} {k : Nat} {o : Obj} (h : ∀ b, v.ownBlock = some b → k ≤ b ∧ b < w2.heap.size) (hb : Below w2.heap.size w2 w3) (c : Nat) (h1 : False ∨ c = w3.heap.size) : c < (w3.alloc o).heap.size ∧ v.ownBlock ≠ some c := by
  rcases h1 with h1 | rfl
  · exact h1.elim
  · exact ⟨by simp, fun e => by have := (h _ e).2; have := hb.size; omega⟩
theorem SecAt.base_ {w W : World} {v1 v2 v3 vf v : Value} {s : Sheet} {n : ByteArray} {go : Nat} {l : List Node} (h : SecAt w v1 v2 v3 vf s n go v l W) : w.heap.size + 3 ≤ W.heap.size := Nat.le_trans h.lo (Nat.le_of_lt (heap_lt h.blk))
theorem SecAt.frz {w W w6 : World} {v1 v2 v3 vf v : Value} {s : Sheet} {n : ByteArray} {go : Nat} {l : List Node} (h : SecAt w v1 v2 v3 vf s n go v l W) (hg : W.grownBy w6 v.ownBlock) : w6.frozen? ⟨go, 2, none⟩ = false :=
  Lib.frozen_of_heap ((hg.block go (heap_lt h.blk) (fun e => h.ne e.symm)).trans h.blk) 2
theorem qs_keep {w2 w3 w6 : World} {m k : Nat} {qs : List Fact} {v v' vq : Value} (h : SlRep 3 (flat Fact.enc) w2 (fun b => m ≤ b ∧ b < k) qs vq) (hb : Below w2.heap.size w2 w3) (hg : w3.grownBy w6 v.ownBlock) (hv : ∀ b, v.ownBlock = some b → b < m ∨ k ≤ b) (hat : v'.ownBlock = v.ownBlock ∨ v'.ownBlock = some w3.heap.size) (hk : k ≤ w2.heap.size) :
    SlRep 3 (flat Fact.enc) w6 (fun b => m ≤ b ∧ b < k) qs vq ∧ k ≤ w6.heap.size ∧ ∀ b, v'.ownBlock = some b → b < m ∨ k ≤ b := by
  have h1 := hb.size
  have h2 := hg.size
  refine ⟨h.frame fctS (fun b hb' => (hg.block b (by have := hb'.2; omega) (fun e => ?_)).trans (hb.block b (by have := hb'.2; omega))), by omega, fun b hb' => ?_⟩
  · have := hv b e.symm
    omega
  · rcases hat with e | e
    · exact hv b (by rw [← e]; exact hb')
    · rw [e] at hb'; injection hb' with hb'; omega
theorem pntN_le (n : ByteArray) : 0 ≤ pntN n ∧ pntN n ≤ n.size := by
  unfold pntN Lib.countByte
  have := List.count_le_length (a := (46 : UInt8)) (l := n.data.toList)
  rw [← Lib.size_eq] at this
  omega
theorem chooseG_mem (ord : List ByteArray) : ∀ (l out : List Fact) (f : Fact), f ∈ chooseG ord out l → f ∈ out ∨ f ∈ l
  | [], out, f, h => .inl h
  | x :: r, out, f, h => by
    rw [chooseG_cons] at h
    have key : ∀ o : List Fact, (∀ g ∈ o, g ∈ out ∨ g ∈ x :: r) → f ∈ chooseG ord o r → f ∈ out ∨ f ∈ x :: r := fun o ho hf => by
      rcases chooseG_mem ord r o f hf with h1 | h1
      · exact ho f h1
      · exact .inr (List.mem_cons_of_mem _ h1)
    have k1 : ∀ g ∈ out ++ [x], g ∈ out ∨ g ∈ x :: r := fun g hg => by
      rcases List.mem_append.1 hg with h1 | h1
      · exact .inl h1
      · simp at h1; exact .inr (by rw [h1]; exact List.mem_cons_self)
    have k2 : ∀ g ∈ out.dropLast ++ [x], g ∈ out ∨ g ∈ x :: r := fun g hg => by
      rcases List.mem_append.1 hg with h1 | h1
      · exact .inl (List.dropLast_subset _ h1)
      · simp at h1; exact .inr (by rw [h1]; exact List.mem_cons_self)
    cases hl : out.getLast? with
    | none => rw [hl] at h; exact key _ k1 h
    | some q =>
      rw [hl] at h
      simp only at h
      split at h
      · exact key _ k1 h
      · split at h
        · exact key _ k2 h
        · exact key _ (fun g hg => .inl hg) h
theorem chooseG_len (ord : List ByteArray) : ∀ (l out : List Fact), (chooseG ord out l).length ≤ out.length + l.length
  | [], out => Nat.le_refl _
  | x :: r, out => by
    rw [chooseG_cons, List.length_cons]
    cases hl : out.getLast? with
    | none => simp only; have := chooseG_len ord r (out ++ [x]); rw [List.length_append, List.length_singleton] at this; omega
    | some q =>
      have hne : 0 < out.length := by
        rcases out with _ | ⟨a, b⟩
        · cases hl
        · simp
      simp only
      split
      · have := chooseG_len ord r (out ++ [x]); rw [List.length_append, List.length_singleton] at this; omega
      · split
        · have := chooseG_len ord r (out.dropLast ++ [x]); rw [List.length_append, List.length_singleton, List.length_dropLast] at this; omega
        · have := chooseG_len ord r out; omega
theorem choose_mem {ord : List ByteArray} {l : List Fact} {f : Fact} (h : f ∈ chooseF ord l) : f ∈ l := by
  rcases chooseG_mem ord l [] f h with h1 | h1
  · cases h1
  · exact h1
theorem fctE_mem {ls : List ByteArray} {l : List Fact} (h : fctE ls l = 0) {f : Fact} (hf : f ∈ l) : 1 ≤ f.el ∧ f.el ≤ 64 ∧ f.text.size ≤ 4096 := by
  unfold fctE at h
  by_cases h3 : 32 < l.length
  · rw [if_pos h3] at h; cases h
  · rw [if_neg h3] at h
    have := (fctG_zero l none h).1 f hf
    exact ⟨this.2.1, this.2.2.1, this.2.2.2.2⟩
theorem expG_len {f : Nat → ByteArray} {t : ByteArray} (hf : ∀ u, (f u).size ≤ 200) : ∀ (g i : Nat), (expG f t g i).length ≤ 200 * (t.size - i)
  | 0, i => Nat.zero_le _
  | g + 1, i => by
    unfold expG
    by_cases hi : i < t.size
    · rw [if_pos hi]
      by_cases hc : t.data.toList.getD i 0 = 91 ∧ 0 < (unitF (t.extract i t.size)).2
      · rw [if_pos hc, List.length_append, ← Lib.size_eq]
        have h1 := hf (unitF (t.extract i t.size)).1
        have h2 := expG_len (t := t) hf g (i + (unitF (t.extract i t.size)).2)
        omega
      · rw [if_neg hc, List.length_cons]
        have h2 := expG_len (t := t) hf g (i + 1)
        omega
    · rw [if_neg hi]; exact Nat.zero_le _
theorem labG_zero {ls : List ByteArray} : ∀ (r : List Label) (p : Option Label), labG ls p r = 0 → ∀ x ∈ r, x.text.size ≤ 64
  | [], _, _ => by simp
  | y :: r, p, h => by
    rw [labG_cons] at h
    by_cases h0 : labF ls p y = 0
    · rw [if_pos h0] at h
      intro x hx
      rcases List.mem_cons.1 hx with rfl | hx
      · unfold labF at h0
        split at h0
        · cases h0
        · split at h0
          · cases h0
          · split at h0
            · cases h0
            · omega
      · exact labG_zero r _ h x hx
    · rw [if_neg h0] at h
      exact absurd h h0
theorem nameP_size (ord : List ByteArray) (e : Int) : ∀ (l : List Label) (t : ByteArray) (b : Int), t.size ≤ 64 → (∀ x ∈ l, x.text.size ≤ 64) → (nameP ord e t b l).size ≤ 64
  | [], t, b, ht, _ => ht
  | x :: r, t, b, ht, hl => by
    rw [nameP_cons]
    split
    · exact nameP_size ord e r _ _ (hl x List.mem_cons_self) (fun y hy => hl y (List.mem_cons_of_mem _ hy))
    · exact nameP_size ord e r _ _ ht (fun y hy => hl y (List.mem_cons_of_mem _ hy))
theorem nameF_size {c : Cat} (h : catE c = 0) (ord : List ByteArray) {e : Nat} (he : e < 100) : (nameF ord c.labels e).size ≤ 64 := by
  have h2 := (catE_zero h).2.1
  unfold labE at h2
  split at h2
  · cases h2
  · refine nameP_size ord e _ _ _ ?_ (labG_zero _ _ h2)
    unfold elemS
    have := digits_le he
    rw [ByteArray.size_append]
    show 8 + _ ≤ 64
    omega
set_option maxRecDepth 100000 in
set_option maxHeartbeats 8000000 in
theorem section_c (c : Cat) (s : Sheet) (n : ByteArray) (ord : List ByteArray) (v1 v2 v3 vf vo : Value) (w : World) (B : Nat) (hB : B ≤ w.heap.size) (h : CatRep w B c v1 v2 v3) (hf : Facts w B s.facts vf) (ho : Strs w B ord vo) (h0 : catE c = 0) (hs : s ∈ c.sheets) (hn : n.size ≤ 60) (hS : SynOk w) :
    Calls Tryz.prog 36 #[.agg #[v1, v2, v3], .agg #[.int .i64 s.unit, .int .i64 s.parent, .int .i64 s.level, .string s.mark, .string s.title, vf], .string n, vo] w fun e w' => ∃ vN, e = .returned (.agg #[.int .i64 s.unit, .string n, vN]) ∧ OwnRep 3 (flat Node.enc) 61 w.heap.size w' (secF c ord s n).nodes vN ∧ Below w.heap.size w w' := by
  obtain ⟨Af, cf, rfl, -⟩ := id hf
  obtain ⟨Ao, co, rfl, -⟩ := id ho
  obtain ⟨⟨-, -, hl1, hl4⟩, ⟨hk64, -, ht64⟩, hfe⟩ := (catE_zero h0).2.2.2 s hs
  have HCN := Lib.hid (fun (W : World) => show Calls Tryz.prog 68 #[.string n, .string ⟨#[46]⟩] W fun e w' => e = .returned (.int .i64 (pntN n)) ∧ w' = W from Tryz.strings_Count_one n 46 W)
  have HL := Lib.hid (And.intro hl1 hl4)
  have hlv0 : 0 ≤ s.level := by omega
  have hlv5 : s.level < 5 := by omega
  have hq1 : ¬ 9223372036854775807 < n.size + 1 := by omega
  have hq2 : ¬ 9223372036854775807 < n.size + 1 + s.title.size := by omega
  have hq3 : (n ++ ⟨#[32]⟩).size = n.size + 1 := by rw [ByteArray.size_append]; rfl
  clear hl1 hl4
  go_enter Tryz.func36, Tryz.ntmps36
  go_wp2_with fail
  refine (HCN.out _).mono ?_
  rintro e w1 ⟨rfl, rfl⟩
  go_wp2
  have HS := SecW.make w v1 v2 v3 (.slice Af s.facts.length cf) s
  generalize ((((w.alloc (catC v1 v2 v3)).alloc (shtC s (.slice Af s.facts.length cf))).alloc secZ).alloc tagsC) = W4 at *
  obtain ⟨y0, y2, y4, yt⟩ := HS.keep HL.out (Below.refl _ _)
  have KEEP := Lib.hid (fun (W : World) (hW : Below W4.heap.size W4 W) => HS.keep HL.out hW)
  have kb0 : Below W4.heap.size W4 W4.drew := (Below.refl _ _).drew
  have kb1 : ∀ o, Below W4.heap.size W4 (W4.alloc o).drew := fun o => ((Below.refl _ _).alloc (Nat.le_refl _) o).drew
  have kb2 : ∀ o o', Below W4.heap.size W4 ((W4.alloc o).alloc o').drew := fun o o' => (((Below.refl _ _).alloc (Nat.le_refl _) o).alloc (by simp) o').drew
  have HSW := Lib.hid HS
  clear HS
  go_cut [11] (fun s11 W => ∃ go v, s11 = .pointer (some ⟨go, 0, none⟩) ∧ SecAt w v1 v2 v3 (.slice Af s.facts.length cf) s n go v [headN s n] W)
  case first =>
    go_region_held3 (fun W => W.cell? ⟨w.heap.size + 1, 0, none⟩ = some (.int .i64 s.unit) ∧ W.cell? ⟨w.heap.size + 1, 2, none⟩ = some (.int .i64 s.level) ∧ W.cell? ⟨w.heap.size + 1, 4, none⟩ = some (.string s.title) ∧ W.cell? ⟨w.heap.size + 1 + 1 + 1, s.level.toNat, none⟩ = some (.string (tagF s.level))) (first | with_reducible exact KEEP.out _ kb0 | with_reducible exact KEEP.out _ (kb1 _) | with_reducible exact KEEP.out _ (kb2 _ _)) (fail)
    all_goals (go_wp2_with fail; go_meet)
    all_goals first | exact ⟨_, _, rfl, SecAt.start1 n HSW.out (headN s n)⟩ | exact ⟨_, _, rfl, SecAt.start2 n HSW.out (headN s n)⟩
  case rest =>
    obtain ⟨go, v, rfl, hsec⟩ := hcut
    clear y0 y2 y4 yt KEEP kb0 kb1 kb2 HSW hq1 hq2 hq3 hlv0 hlv5
    have y3 : wc.cell? ⟨w.heap.size + 1, 3, none⟩ = some (.string s.mark) := by rw [Lib.cell_of_heap hsec.sb]; rfl
    have HSEC := Lib.hid hsec
    clear hsec
    go_upto_if 36 with fail
    go_cut [] (fun W => ∃ v, SecAt w v1 v2 v3 (.slice Af s.facts.length cf) s n go v (headN s n :: markN s n) W)
    case first =>
      by_cases hm : s.mark = ⟨#[]⟩
      · have hm1 : s.mark.toList.isEmpty = true := by rw [str_empty, hm]; rfl
        have HE := Lib.hid (show [headN s n] = headN s n :: markN s n by unfold markN; rw [if_pos hm])
        clear hm
        rw [hm1]
        go_wp2_with fail
        go_meet
        exact ⟨_, by rw [← HE.out]; exact HSEC.out⟩
      · have hm1 : s.mark.toList.isEmpty = false := by
          rw [str_empty, decide_eq_false_iff_not]
          intro e
          exact hm (ByteArray.ext (Array.eq_empty_of_size_eq_zero e))
        have HE := Lib.hid (show [headN s n] ++ [⟨pntN n + 1, markT, s.mark⟩] = headN s n :: markN s n by unfold markN; rw [if_neg hm]; rfl)
        clear hm
        rw [hm1]
        have hsec := HSEC.out
        obtain ⟨g, cap, rfl, hgb, hgl, hcp1, hcp2⟩ := own_ptr hsec.row (n := 1) rfl (by omega)
        obtain ⟨c2, f2, gl⟩ := hsec.cells
        have sl := heap_lt hsec.sb
        obtain ⟨hp0, hp1⟩ := pntN_le n
        have hw1 : IntKind.i64.wrap (pntN n + 1) = pntN n + 1 := IntWalk.i64_in _ (by omega)
        have bx := (Below.refl wc.heap.size wc).alloc (Nat.le_refl _) (nodC ⟨pntN n + 1, markT, s.mark⟩)
        have hsx := hsec.call bx
        have hlo := hsec.row.own_lt
        clear hsec
        go_wp2_with (at_builtin; refine stop_intro ?_)
        refine stop_elim ?_
        have sF : ∀ b, (False ∨ b = wc.heap.size) → b < (wc.alloc (.cells (Node.enc ⟨pntN n + 1, markT, s.mark⟩).toArray 61)).heap.size ∧ (.slice (some ⟨g, 0, none⟩) 1 cap : Value).ownBlock ≠ some b := fun b hb => by
          rcases hb with hb | rfl
          · exact hb.elim
          · exact ⟨by simp, fun e => by have := (hlo _ e).2; omega⟩
        refine wpList_append_rep (xs := [headN s n]) rfl nodS nodE_ (w.heap.size + 3) (.tmp 38) (.tmp 44) rfl rfl hsx.row rfl (ys := [⟨pntN n + 1, markT, s.mark⟩]) (SlRep.one_new nodS (w := wc) (F := fun _ => False) (x := ⟨pntN n + 1, markT, s.mark⟩) (cs := Node.enc ⟨pntN n + 1, markT, s.mark⟩) rfl rfl (fun b hb => hb.elim)) sF (by simp) (by decide) (by simp; omega) ?_
        intro v6 w6 hown6 hg6' hat6'
        have hg6 : (wc.alloc (nodC ⟨pntN n + 1, markT, s.mark⟩)).grownBy w6 (.slice (some ⟨g, 0, none⟩) 1 cap : Value).ownBlock := hg6'
        have hat6 : v6.ownBlock = (.slice (some ⟨g, 0, none⟩) 1 cap : Value).ownBlock ∨ v6.ownBlock = some (wc.alloc (nodC ⟨pntN n + 1, markT, s.mark⟩)).heap.size := hat6'
        clear hg6' hat6'
        have hsec6 := hsx.app hown6 hg6 hat6
        have hgc := hg6.size
        obtain ⟨A6, c6, rfl, -⟩ := id (hown6.toSl nodS)
        have d2 : w6.cell? ⟨go, 2, none⟩ = some (.slice (some ⟨g, 0, none⟩) 1 cap) := (cell_grown hg6 (by simp; omega) (fun e => hsx.ne e.symm)).trans hsx.cells.1
        have d3 : w6.frozen? ⟨go, 2, none⟩ = false := Lib.frozen_of_heap ((hg6.block go (by simp; omega) (fun e => hsx.ne e.symm)).trans hsx.blk) 2
        clear c2 f2 hsx bx y3 sF hlo
        go_wp2_with fail
        go_meet
        exact ⟨_, by rw [← HE.out]; exact hsec6⟩
    case rest =>
      obtain ⟨v5, hsec5⟩ := hcut
      clear HSEC y3
      have hb5 := hsec5.below
      have y5 : wc.cell? ⟨w.heap.size + 1, 5, none⟩ = some (.slice Af s.facts.length cf) := by rw [Lib.cell_of_heap hsec5.sb]; rfl
      have HCH := Lib.hid (choose_c s.facts ord (.slice Af s.facts.length cf) (.slice Ao ord.length co) wc B (Nat.le_trans hB hb5.size) (hf.below fctS (hb5.mono hB)) ((ho.below strS (hb5.mono hB)).mono strS (Nat.le_trans hB hb5.size)) (fctE_len hfe))
      have HSEC := Lib.hid hsec5
      clear hsec5
      go_wp2_with fail
      refine HCH.out.mono ?_
      rintro e w1 ⟨vq, rfl, hown1, hb1⟩
      have hsec := HSEC.out.call hb1
      have HSG := Lib.hid (heap_lt HSEC.out.blk)
      have HSO := Lib.hid (fun b hb => (HSEC.out.row.own_lt b hb).2)
      have hcs := hown1.toSl fctS
      clear HCH HSEC y5
      obtain ⟨Aq, cq, rfl, hq1, hq2, -⟩ := id hcs
      have HQF := Lib.hid (fun (f : Fact) (hf : f ∈ chooseF ord s.facts) => fctE_mem hfe (choose_mem hf))
      obtain ⟨qs, hqs⟩ : ∃ qs, chooseF ord s.facts = qs := ⟨_, rfl⟩
      have hq32 : (chooseF ord s.facts).length ≤ 32 := Nat.le_trans (by have := chooseG_len ord s.facts []; rw [List.length_nil, Nat.zero_add] at this; exact this) (fctE_len hfe)
      rw [hqs] at hown1 hcs hq1 HQF hq32
      rw [hqs]
      have HQS := Lib.hid (show (secF c ord s n).nodes = headN s n :: markN s n ++ qs.map (parN c ord n) by unfold secF; rw [hqs])
      clear hqs
      have HR := Lib.hid (show headN s n :: markN s n = headN s n :: markN s n ++ (qs.take 0).map (parN c ord n) by simp)
      have HQ0 := Lib.hid ((hown1.toFlat fctS).monoF fctS (fun b hb => hown1.own_lt b hb))
      have hgo : go < wc.heap.size := by have := HSG.out; exact this
      go_wp2
      go_loopw [52] (fun v52 wr => ∃ (k : Nat) (v' : Value), k ≤ qs.length ∧ v52 = .int .i64 k ∧ SecAt w v1 v2 v3 (.slice Af s.facts.length cf) s n go v' (headN s n :: markN s n ++ (qs.take k).map (parN c ord n)) wr ∧ SlRep 3 (flat Fact.enc) wr (fun b => wc.heap.size ≤ b ∧ b < w1.heap.size) qs (.slice Aq qs.length cq) ∧ w1.heap.size ≤ wr.heap.size ∧ (∀ b, v'.ownBlock = some b → b < wc.heap.size ∨ w1.heap.size ≤ b)) (fun v52 _ => qs.length - (intOf v52).toNat)
      case atStart => exact ⟨0, v5, Nat.zero_le _, rfl, by rw [← HR.out]; exact hsec, HQ0.out, Nat.le_refl _, fun b hb => .inl (HSO.out b hb)⟩
      case round =>
        clear HR HQ0 hsec hown1 hcs
        obtain ⟨k, v', hk, rfl, hsec, hqr, hsz, hvo⟩ := hrel
        by_cases hlt : k < qs.length
        · obtain ⟨x, hx⟩ := get_at qs hlt
          have HX := Lib.hid (show (qs.take (k + 1)).map (parN c ord n) = (qs.take k).map (parN c ord n) ++ [parN c ord n x] by rw [take_at hx, List.map_append]; rfl)
          obtain ⟨hx1, hx2, hx3⟩ := HQF.out x (List.mem_of_getElem? hx)
          obtain ⟨el, hel⟩ := Int.eq_ofNat_of_zero_le (show 0 ≤ x.el by omega)
          obtain ⟨b, off, rfl, hbB, g0, g1, g2⟩ := Facts.at_ hqr hx
          have hbw : b < wr.heap.size := by have := hbB.2; omega
          have bx := (Below.refl wr.heap.size wr).alloc (Nat.le_refl _) (fctC x)
          have hvl : ∀ b, v'.ownBlock = some b → b < wr.heap.size := fun b hb => (hsec.row.own_lt b hb).2
          have hsx := hsec.call bx
          have hbx := hsx.below
          have HFD := Lib.hid (show fctC x = fctC x from rfl)
          have HSX := Lib.hid hsx
          have HSY := Lib.hid (hS.below hS.1 hsx.below)
          have HCZ := Lib.hid (fun u => citeF_size h0 u)
          have HEX := Lib.hid (expand_c (fun u => citeF c.sheets u) (.pointer (some ⟨w.heap.size, 0, none⟩)) x.text (wr.alloc (fctC x)) hx3 HSY.out (fun u => HCZ.out u) (fun u W hW => by
            have hc := HSX.out.call hW
            have hbW := hc.below
            exact cites_c c u w.heap.size v1 v2 v3 W B (Nat.le_trans hB hbW.size) (h.sheets.below shtS (hbW.mono hB)) h0 (by rw [Lib.cell_of_heap hc.cb]; rfl) (by rw [Lib.cell_of_heap hc.cb]; rfl) (by rw [Lib.cell_of_heap hc.cb]; rfl)))
          have HNA := Lib.hid (fun (W : World) (hW : Below (wr.alloc (fctC x)).heap.size (wr.alloc (fctC x)) W) => name_c c el ord v1 v2 v3 (.slice Ao ord.length co) W B (Nat.le_trans hB (hbx.trans (hW.mono hbx.size)).size) (h.labels.below labS ((hbx.trans (hW.mono hbx.size)).mono hB)) ((ho.below strS ((hbx.trans (hW.mono hbx.size)).mono hB)).mono strS (Nat.le_trans hB (hbx.trans (hW.mono hbx.size)).size)) (by omega))
          rw [← hel] at HNA
          have hnz := nameF_size h0 ord (e := el) (by omega)
          have htz : (⟨(expF (fun u => citeF c.sheets u) x.text).toArray⟩ : ByteArray).size ≤ 819200 := by
            show (expF (fun u => citeF c.sheets u) x.text).toArray.size ≤ 819200
            rw [List.size_toArray]
            have := expG_len (f := fun u => citeF c.sheets u) (t := x.text) (fun u => HCZ.out u) x.text.size 0
            unfold expF
            omega
          have HXT := Lib.hid (show parN c ord n x = ⟨pntN n + 1, parT, nameF ord c.labels el ++ ⟨#[58, 32]⟩ ++ ⟨(expF (fun u => citeF c.sheets u) x.text).toArray⟩⟩ by unfold parN textF; rw [hel]; rfl)
          generalize nameF ord c.labels el = nm at *
          generalize (⟨(expF (fun u => citeF c.sheets u) x.text).toArray⟩ : ByteArray) = tx at *
          have hq1 : ¬ 9223372036854775807 < nm.size + 2 := by omega
          have hq2 : ¬ 9223372036854775807 < nm.size + 2 + tx.size := by omega
          have hq3 : (nm ++ ⟨#[58, 32]⟩).size = nm.size + 2 := by rw [ByteArray.size_append]; rfl
          obtain ⟨hp0, hp1⟩ := pntN_le n
          have hw1 : IntKind.i64.wrap (pntN n + 1) = pntN n + 1 := IntWalk.i64_in _ (by omega)
          clear hsx hx hx3 hsec hel
          go_wp2_with fail
          refine HEX.out.mono ?_
          rintro e w2 ⟨rfl, hb2⟩
          have hsec2 := HSX.out.call hb2
          have hs2 := hb2.size
          simp only [World.size_alloc] at hs2
          have hbX : Below w2.heap.size w2 w2.drew := (Below.refl _ _).drew
          have HS2 := Lib.hid hsec2
          have HVL := Lib.hid (fun b hb => (hsec2.row.own_lt b hb))
          have HX0 := Lib.hid (show w2.cell? ⟨wr.heap.size, 0, none⟩ = some (.int .i64 x.el) from (hb2.cell (p := ⟨wr.heap.size, 0, none⟩) (by simp)).trans (by simp))
          have KEEP := Lib.hid (fun (W : World) (hW : Below w2.heap.size w2 W) => (by
            have hc := HS2.out.call hW
            exact ⟨hc.cells.1, by rw [Lib.cell_of_heap hc.cb]; rfl, by rw [Lib.cell_of_heap hc.cb]; rfl, by rw [Lib.cell_of_heap hc.cb]; rfl, (hW.cell (p := ⟨wr.heap.size, 0, none⟩) (by show wr.heap.size < _; omega)).trans HX0.out⟩ : W.cell? ⟨go, 2, none⟩ = some v' ∧ W.cell? ⟨w.heap.size, 0, none⟩ = some v1 ∧ W.cell? ⟨w.heap.size, 1, none⟩ = some v2 ∧ W.cell? ⟨w.heap.size, 2, none⟩ = some v3 ∧ W.cell? ⟨wr.heap.size, 0, none⟩ = some (.int .i64 x.el)))
          have HVR := Lib.hid hvl
          have KEEPG := Lib.hid (fun (W0 W : World) (hW : Below w2.heap.size w2 W0) (hg : W0.grownBy W v'.ownBlock) => (by
            obtain ⟨k0, k1, k2, k3, k4⟩ := KEEP.out W0 hW
            have hc := HS2.out.call hW
            have hlo := hc.row.own_lt
            exact ⟨(cell_grown hg hc.cells.2.2 (fun e => hc.ne e.symm)).trans k0, (cell_grown hg (heap_lt hc.cb) (fun e => by have := (hlo _ e.symm).1; have : w.heap.size + 3 ≤ w.heap.size := this; omega)).trans k1, (cell_grown hg (heap_lt hc.cb) (fun e => by have : w.heap.size + 3 ≤ w.heap.size := (hlo _ e.symm).1; omega)).trans k2, (cell_grown hg (heap_lt hc.cb) (fun e => by have : w.heap.size + 3 ≤ w.heap.size := (hlo _ e.symm).1; omega)).trans k3, (cell_grown hg (by show wr.heap.size < _; have := hW.size; omega) (fun e => by have : wr.heap.size < wr.heap.size := HVR.out _ e.symm; omega)).trans k4⟩ : W.cell? ⟨go, 2, none⟩ = some v' ∧ W.cell? ⟨w.heap.size, 0, none⟩ = some v1 ∧ W.cell? ⟨w.heap.size, 1, none⟩ = some v2 ∧ W.cell? ⟨w.heap.size, 2, none⟩ = some v3 ∧ W.cell? ⟨wr.heap.size, 0, none⟩ = some (.int .i64 x.el)))
          have kN : (headN s n :: markN s n ++ (qs.take k).map (parN c ord n)).length + [(pN n nm tx : Node)].length ≤ 4294967296 := by
            have : (markN s n).length ≤ 1 := by unfold markN; split <;> simp
            simp
            omega
          obtain ⟨p0, p1, p2, p3, p4⟩ := KEEP.out _ hbX
          have HKR := Lib.hid (show SlRep 3 (flat Fact.enc) w2 (fun b => wc.heap.size ≤ b ∧ b < w1.heap.size) qs (.slice (some ⟨b, off, none⟩) qs.length cq) from hqr.frame fctS (fun b' hb' => ((hb2.block b' (by have := hb'.2; simp; omega)).trans (Below.heap_alloc _ _ _ (by have := hb'.2; omega)))))
          have HVO := Lib.hid hvo
          have kQ : w1.heap.size ≤ w2.heap.size := by omega
          obtain ⟨LL, hLL⟩ : ∃ LL, headN s n :: markN s n ++ (qs.take k).map (parN c ord n) ++ [pN n nm tx] = LL := ⟨_, rfl⟩
          have HLL := Lib.hid hLL
          clear hLL
          go_wp2
          go_region_law (first
            | (refine step_append_rep rfl nodS nodE_ _ (.tmp 61) (.tmp 73) rfl rfl hA.row rfl (ys := [pN n nm tx]) kS kF kN (by decide) kB ?_; intro v6 w6 hown6 hg6 hat6; have hk6 := (KEEPG.out _ w6 hbA hg6).1; have hA6 := hA.app hown6 hg6 hat6; have hz6 := hA.frz hg6; have hq6 := qs_keep HKR.out hbA hg6 HVO.out hat6 kQ; rw [HLL.out] at hown6 hA6; obtain ⟨A6, c6, rfl, -⟩ := id (hown6.toSl nodS))
            | (go_simp; go_at_call 56; (with_reducible refine (HNA.out _ (hb2.trans (hbX.mono hb2.size))).mono ?_); rintro e w3 ⟨rfl, hb3⟩; have hbX := hbX.trans (hb3.mono hbX.size); have hbA := hbX.alloc hbX.size (nodC (pN n nm tx)); have hA := HS2.out.call hbA; have kB := hA.base_; have kS := one_lay w3 (pN n nm tx); have kF := fun b hb => one_off (o := nodC (pN n nm tx)) HVL.out hbX b hb; have r0 := (KEEP.out _ hbX).1; have r1 := (KEEP.out _ hbA).1))
          all_goals (go_wp2; go_roundw)
          all_goals first
            | exact ⟨k + 1, _, by omega, by go_num, by rw [HX.out, ← List.append_assoc, HXT.out]; rw [show ([⟨pntN n + 1, parT, nm ++ ⟨#[58, 32]⟩ ++ tx⟩] : List Node) = [pN n nm tx] from rfl, HLL.out]; exact hA6, hq6.1.frame fctS (fun b' hb' => Below.heap_setCell _ _ _ _ (by have := hb'.1; show b' ≠ go; omega)), by simpa [World.setCell] using hq6.2.1, hq6.2.2⟩
            | (simp [intOf]; omega)
        · have HE := Lib.hid (show (qs.take k).map (parN c ord n) = qs.map (parN c ord n) by rw [List.take_of_length_le (by omega)])
          rw [HE.out, ← HQS.out] at hsec
          obtain ⟨c2, -, gl⟩ := hsec.cells
          have c0 : wr.cell? ⟨go, 0, none⟩ = some (.int .i64 s.unit) := by rw [Lib.cell_of_heap hsec.blk]; rfl
          have c1 : wr.cell? ⟨go, 1, none⟩ = some (.string n) := by rw [Lib.cell_of_heap hsec.blk]; rfl
          have hrow := hsec.row
          have hbl := hsec.below
          have e0 : wr.cell? ⟨w.heap.size + 1 + 1, 0, none⟩ = some (.int .i64 0) := by rw [Lib.cell_of_heap hsec.rb]; rfl
          have e1 : wr.cell? ⟨w.heap.size + 1 + 1, 1, none⟩ = some (.string ⟨#[]⟩) := by rw [Lib.cell_of_heap hsec.rb]; rfl
          have e2 : wr.cell? ⟨w.heap.size + 1 + 1, 2, none⟩ = some (.slice none 0 0) := by rw [Lib.cell_of_heap hsec.rb]; rfl
          have f0 : wr.frozen? ⟨w.heap.size + 1 + 1, 0, none⟩ = false := Lib.frozen_of_heap hsec.rb 0
          have f1 : wr.frozen? ⟨w.heap.size + 1 + 1, 1, none⟩ = false := Lib.frozen_of_heap hsec.rb 1
          have f2 : wr.frozen? ⟨w.heap.size + 1 + 1, 2, none⟩ = false := Lib.frozen_of_heap hsec.rb 2
          have hl0 := heap_lt hsec.rb
          obtain ⟨AN, cN, rfl, -⟩ := id (hrow.toSl nodS)
          have HRW := Lib.hid (fun (a b c : Value) => (hrow.keep (w' := ((wr.setCell ⟨w.heap.size + 1 + 1, 0, none⟩ a).setCell ⟨w.heap.size + 1 + 1, 1, none⟩ b).setCell ⟨w.heap.size + 1 + 1, 2, none⟩ c) (fun b' hb' => by
            have hne : b' ≠ w.heap.size + 1 + 1 := by have := (hrow.own_lt b' hb').1; omega
            rw [Below.heap_setCell _ _ _ _ hne, Below.heap_setCell _ _ _ _ hne, Below.heap_setCell _ _ _ _ hne])).base_le (Nat.le_add_right _ 3))
          clear hsec hrow
          go_wp2
          refine bodyPost_ret (v := .agg #[.int .i64 s.unit, .string n, .slice AN (secF c ord s n).nodes.length cN]) (by simp [results, Tryz.results36, go_sem, e0, e1, e2]) rfl ⟨_, rfl, HRW.out _ _ _, ((hbl.setCell (by show w.heap.size ≤ w.heap.size + 1 + 1; omega) _).setCell (by show w.heap.size ≤ w.heap.size + 1 + 1; omega) _).setCell (by show w.heap.size ≤ w.heap.size + 1 + 1; omega) _⟩
open Go.RowKit

/-- a section whose nodes lie from block m on -/
def lowR (m : Nat) : CRep Sect := fun w F x cs => secR w (fun b => F b ∧ m ≤ b) x cs
theorem lowS (m : Nat) : Shape 3 (lowR m) :=
  ⟨fun hf h => secS.frame (fun b hb => hf b hb.1) h, fun hm h => secS.mono (fun b hb => ⟨hm b hb.1, hb.2⟩) h, fun h => secS.len h, fun h => secS.one h⟩
theorem OwnRep.low {m base : Nat} {e : TypeId} {W W' : World} {l : List Sect} {v : Value} (h : OwnRep 3 (lowR m) e base W l v) (hs : W.heap.size ≤ W'.heap.size) (hf : ∀ b, b < W.heap.size → m ≤ b → W'.heap[b]? = W.heap[b]?) (hm : m ≤ base) : OwnRep 3 (lowR m) e base W' l v := by
  obtain ⟨css, hl, hr, hown⟩ := h
  refine ⟨css, hl, fun i x cs hx hcs => ?_, ownsRow_frame hown (fun b hv => hf b (hown.lt b hv).2 (Nat.le_trans hm (hown.lt b hv).1))⟩
  exact secS.mono (fun b hb => ⟨⟨Nat.lt_of_lt_of_le hb.1.1 hs, hb.1.2⟩, hb.2⟩) (secS.frame (fun b hb => hf b hb.1.1 hb.2) (hr i x cs hx hcs))
/-- what the closure of Compile works on -/
structure CmpAt (ga gc go m : Nat) (u : Int) (lang : ByteArray) (ord : List ByteArray) (v1 v2 v3 vo : Value) (l : List Sect) (v : Value) (W : World) : Prop where
  ab : W.heap[ga]? = some (.cells #[.int .i64 u, .string lang, v] 31 (0, 0))
  cb : W.heap[gc]? = some (catC v1 v2 v3)
  ob : W.heap[go]? = some (.cells #[vo] 22 (0, 0))
  os : SlRep 1 (flat strEnc) W (fun b => b < m ∧ b ≠ ga) ord vo
  row : OwnRep 3 (lowR (m + 3)) 70 (m + 3) W l v
  la : ga < m
  lc : gc < m ∧ gc ≠ ga
  lo : go < m ∧ go ≠ ga
  sz : m ≤ W.heap.size
theorem CmpAt.aside {ga gc go m : Nat} {u : Int} {lang : ByteArray} {ord : List ByteArray} {v1 v2 v3 vo : Value} {l : List Sect} {v : Value} {W W' : World} (h : CmpAt ga gc go m u lang ord v1 v2 v3 vo l v W) (ha : Aside m W W') : CmpAt ga gc go m u lang ord v1 v2 v3 vo l v W' :=
  ⟨(ha.same ga (heap_lt h.ab) (.inl h.la)).trans h.ab, (ha.same gc (heap_lt h.cb) (.inl h.lc.1)).trans h.cb, (ha.same go (heap_lt h.ob) (.inl h.lo.1)).trans h.ob, h.os.frame strS (fun b hb => ha.same b (by have := hb.1; have := h.sz; omega) (.inl hb.1)), h.row.low ha.size (fun b hb hm => ha.same b hb (.inr hm)) (Nat.le_refl _), h.la, h.lc, h.lo, Nat.le_trans h.sz ha.size⟩
theorem CmpAt.call {ga gc go m : Nat} {u : Int} {lang : ByteArray} {ord : List ByteArray} {v1 v2 v3 vo : Value} {l : List Sect} {v : Value} {W W' : World} (h : CmpAt ga gc go m u lang ord v1 v2 v3 vo l v W) (hb : Below W.heap.size W W') : CmpAt ga gc go m u lang ord v1 v2 v3 vo l v W' := h.aside (Aside.below hb)
theorem CmpAt.cells {ga gc go m : Nat} {u : Int} {lang : ByteArray} {ord : List ByteArray} {v1 v2 v3 vo : Value} {l : List Sect} {v : Value} {W : World} (h : CmpAt ga gc go m u lang ord v1 v2 v3 vo l v W) :
    W.cell? ⟨ga, 2, none⟩ = some v ∧ W.cell? ⟨gc, 0, none⟩ = some v1 ∧ W.cell? ⟨gc, 1, none⟩ = some v2 ∧ W.cell? ⟨gc, 2, none⟩ = some v3 ∧ W.cell? ⟨go, 0, none⟩ = some vo :=
  ⟨by rw [Lib.cell_of_heap h.ab]; rfl, by rw [Lib.cell_of_heap h.cb]; rfl, by rw [Lib.cell_of_heap h.cb]; rfl, by rw [Lib.cell_of_heap h.cb]; rfl, by rw [Lib.cell_of_heap h.ob]; rfl⟩
theorem CmpAt.app {ga gc go m : Nat} {u : Int} {lang : ByteArray} {ord : List ByteArray} {v1 v2 v3 vo : Value} {l : List Sect} {x : Sect} {v v' : Value} {W w6 : World} (h : CmpAt ga gc go m u lang ord v1 v2 v3 vo l v W) (hown : OwnRep 3 (lowR (m + 3)) 70 (m + 3) w6 (l ++ [x]) v') (hg : W.grownBy w6 v.ownBlock) (hsz : m + 3 ≤ W.heap.size) :
    CmpAt ga gc go m u lang ord v1 v2 v3 vo (l ++ [x]) v' (w6.setCell ⟨ga, 2, none⟩ v') ∧ (∀ b, b ≠ ga → b < m + 3 → (w6.setCell ⟨ga, 2, none⟩ v').heap[b]? = W.heap[b]?) ∧ w6.frozen? ⟨ga, 2, none⟩ = false ∧ w6.cell? ⟨ga, 2, none⟩ = some v := by
  have hlt := h.row.own_lt
  have hs6 := hg.size
  have keep : ∀ b, b < m + 3 → w6.heap[b]? = W.heap[b]? := fun b hb => hg.block b (by omega) (fun e => by have := (hlt b e.symm).1; omega)
  have keep2 : ∀ b, b ≠ ga → b < m + 3 → (w6.setCell ⟨ga, 2, none⟩ v').heap[b]? = W.heap[b]? := fun b hne hb => by rw [Below.heap_setCell _ _ _ _ hne]; exact keep b hb
  have h6 : w6.heap[ga]? = some (.cells #[.int .i64 u, .string lang, v] 31 (0, 0)) := (keep ga (by have := h.la; omega)).trans h.ab
  have hlc := h.lc
  have hlo := h.lo
  have hla := h.la
  exact ⟨⟨by simp [World.setCell, Array.getElem?_modify, h6], (keep2 gc hlc.2 (by omega)).trans h.cb, (keep2 go hlo.2 (by omega)).trans h.ob, h.os.frame strS (fun b hb => keep2 b hb.2 (by have := hb.1; omega)), hown.low (by simp [World.setCell]) (fun b _ hm => Below.heap_setCell _ _ _ _ (by show b ≠ ga; omega)) (Nat.le_refl _), hla, hlc, hlo, by simp [World.setCell]; omega⟩, keep2, Lib.frozen_of_heap h6 2, by rw [Lib.cell_of_heap h6]; rfl⟩
/-- one section laid in a new block, for the append -/
theorem sec_lay {m : Nat} {v : Value} {w2 w3 : World} {x : Sect} {vN : Value} (hown : OwnRep 3 (flat Node.enc) 61 w2.heap.size w3 x.nodes vN) (hv : ∀ b, v.ownBlock = some b → b < w2.heap.size) (hm : m ≤ w2.heap.size) :
    SlRep 3 (lowR m) (w3.alloc (.cells #[.int .i64 x.unit, .string x.number, vN] 70)) (fun b => (b < w3.heap.size ∧ v.ownBlock ≠ some b) ∨ b = w3.heap.size) [x] (.slice (some ⟨w3.heap.size, 0, none⟩) 1 1) := by
  refine SlRep.one_new (lowS m) (w := w3) (x := x) (cs := [.int .i64 x.unit, .string x.number, vN]) rfl ⟨vN, rfl, ?_⟩ (fun b hb => hb.1)
  refine (hown.toFlat nodS).monoF nodS (fun b hb => ?_)
  obtain ⟨h1, h2⟩ := hown.own_lt b hb
  exact ⟨⟨h2, fun e => by have := hv b e; omega⟩, by omega⟩
theorem sec_off {v : Value} {w2 w3 : World} {o : Obj} (hv : ∀ b, v.ownBlock = some b → b < w2.heap.size) (hb : w2.heap.size ≤ w3.heap.size) (c : Nat) (h : (c < w3.heap.size ∧ v.ownBlock ≠ some c) ∨ c = w3.heap.size) : c < (w3.alloc o).heap.size ∧ v.ownBlock ≠ some c := by
  rcases h with h | rfl
  · exact ⟨by simp; omega, h.2⟩
  · exact ⟨by simp, fun e => by have := hv _ e; omega⟩
theorem own_drew {v : Value} {w : World} {s : Sheet} {vf : Value} (h : ∀ b, v.ownBlock = some b → b < w.heap.size) : ∀ b, v.ownBlock = some b → b < (w.alloc (shtC s vf)).drew.heap.size := fun b hb => by have := h b hb; simp; omega
abbrev wx (w : World) (s : Sheet) (vf : Value) : World := w.alloc (shtC s vf)
set_option maxRecDepth 100000 in
set_option maxHeartbeats 8000000 in
theorem comp1_c (c : Cat) (s : Sheet) (n lang : ByteArray) (u : Int) (ord : List ByteArray) (v1 v2 v3 vf vo v : Value) (l : List Sect) (ga gc go m B : Nat) (w w0 : World) (hw0 : B ≤ w0.heap.size) (hB : B ≤ ga) (h : CmpAt ga gc go m u lang ord v1 v2 v3 vo l v w) (hb0 : Below B w0 w)
    (hc : CatRep w0 B c v1 v2 v3) (hf : Facts w B s.facts vf) (h0 : catE c = 0) (hs : s ∈ c.sheets) (hn : n.size ≤ 60) (hS : SynOk w0) (h2 : 2 < B) (hl : l.length ≤ 100) (hsz : m + 3 ≤ w.heap.size) :
    Calls Tryz.prog 35 #[.agg #[.int .i64 s.unit, .int .i64 s.parent, .int .i64 s.level, .string s.mark, .string s.title, vf], .string n, .pointer (some ⟨ga, 0, none⟩), .pointer (some ⟨gc, 0, none⟩), .pointer (some ⟨go, 0, none⟩)] w fun e w' => e = .returned (.tuple #[]) ∧ (∃ v', CmpAt ga gc go m u lang ord v1 v2 v3 vo (l ++ [secF c ord s n]) v' w') ∧ Below B w0 w' ∧ w.heap.size ≤ w'.heap.size ∧ ∀ b, m ≤ b → b < m + 3 → w'.heap[b]? = w.heap[b]? := by
  obtain ⟨Af, cf, rfl, -⟩ := id hf
  obtain ⟨Ao, co, rfl, -⟩ := id h.os
  have bx := (Below.refl w.heap.size w).alloc (Nat.le_refl _) (shtC s (.slice Af s.facts.length cf))
  have hx := h.call bx
  have hvl : ∀ b, v.ownBlock = some b → b < w.heap.size := fun b hb => (h.row.own_lt b hb).2
  have hla := h.la
  have Bw := hb0.size
  have HX := Lib.hid hx
  have HSE := Lib.hid (fun (W : World) (hW : Below (wx w s (.slice Af s.facts.length cf)).heap.size (wx w s (.slice Af s.facts.length cf)) W) => (by
    have hc1 := HX.out.call hW
    have b1 : Below B w0 W := hb0.trans ((bx.mono (by omega)).trans (hW.mono (by simp; omega)))
    have hBW : B ≤ W.heap.size := Nat.le_trans hw0 b1.size
    exact section_c c s n ord v1 v2 v3 (.slice Af s.facts.length cf) (.slice Ao ord.length co) W W.heap.size (Nat.le_refl _) ((hc.below b1).mono hBW) ((hf.below fctS (below_turn hb0 b1 (by have := hW.size; simp at this; omega))).mono fctS hBW) (hc1.os.monoF strS (fun b hb => by have := hb.1; have := hc1.sz; omega)) h0 hs hn (hS.below h2 b1) : Calls Tryz.prog 36 _ W _))
  have HVL := Lib.hid (show ∀ b, v.ownBlock = some b → b < (wx w s (.slice Af s.facts.length cf)).drew.heap.size from own_drew hvl)
  have hbX : Below (wx w s (.slice Af s.facts.length cf)).heap.size (wx w s (.slice Af s.facts.length cf)) (wx w s (.slice Af s.facts.length cf)).drew := (Below.refl _ _).drew
  obtain ⟨p0, p1, p2, p3, p4⟩ := (hx.call hbX).cells
  have q0 : (wx w s (.slice Af s.facts.length cf)).drew.cell? ⟨w.heap.size, 0, none⟩ = some (.int .i64 s.unit) := by simp
  have q1 : (wx w s (.slice Af s.facts.length cf)).drew.cell? ⟨w.heap.size, 1, none⟩ = some (.int .i64 s.parent) := by simp
  have q2 : (wx w s (.slice Af s.facts.length cf)).drew.cell? ⟨w.heap.size, 2, none⟩ = some (.int .i64 s.level) := by simp
  have q3 : (wx w s (.slice Af s.facts.length cf)).drew.cell? ⟨w.heap.size, 3, none⟩ = some (.string s.mark) := by simp
  have q4 : (wx w s (.slice Af s.facts.length cf)).drew.cell? ⟨w.heap.size, 4, none⟩ = some (.string s.title) := by simp
  have q5 : (wx w s (.slice Af s.facts.length cf)).drew.cell? ⟨w.heap.size, 5, none⟩ = some (.slice Af s.facts.length cf) := by simp
  have kN : l.length + [secF c ord s n].length ≤ 4294967296 := by simp; omega
  obtain ⟨LL, hLL⟩ : ∃ LL, l ++ [secF c ord s n] = LL := ⟨_, rfl⟩
  have HLL := Lib.hid hLL
  have HZ := Lib.hid (show m + 3 ≤ (wx w s (.slice Af s.facts.length cf)).drew.heap.size by simp; omega)
  rw [hLL]
  have HFIN := Lib.hid (fun (W w6 : World) (v6 : Value) (hW : Below (wx w s (.slice Af s.facts.length cf)).heap.size (wx w s (.slice Af s.facts.length cf)) W) (hg : W.grownBy w6 v.ownBlock) (hown : OwnRep 3 (lowR (m + 3)) 70 (m + 3) w6 (l ++ [secF c ord s n]) v6) => (by
    have hA := (HX.out.call hW).app hown hg (by have := hW.size; simp at this; omega)
    have hlo := (HX.out.call hW).row.own_lt
    have hWs := hW.size
    simp at hWs
    have hg6 := hg.size
    rw [hLL] at hA
    refine ⟨hA.1, hA.2.2.1, hA.2.2.2, ((hb0.trans ((bx.mono (by omega)).trans (hW.mono (by simp; omega)))).grown hg (by omega) (fun k hk => by have := (hlo k hk).1; omega)).setCell hB _, by simp [World.setCell]; omega, fun b h1 h2 => ?_⟩
    rw [hA.2.1 b (by omega) h2, hW.block b (by simp; omega), Below.heap_alloc _ _ _ (by omega)] : CmpAt ga gc go m u lang ord v1 v2 v3 (.slice Ao ord.length co) LL v6 (w6.setCell ⟨ga, 2, none⟩ v6) ∧ w6.frozen? ⟨ga, 2, none⟩ = false ∧ w6.cell? ⟨ga, 2, none⟩ = some v ∧ Below B w0 (w6.setCell ⟨ga, 2, none⟩ v6) ∧ w.heap.size ≤ (w6.setCell ⟨ga, 2, none⟩ v6).heap.size ∧ ∀ b, m ≤ b → b < m + 3 → (w6.setCell ⟨ga, 2, none⟩ v6).heap[b]? = w.heap[b]?))
  clear hLL hx
  go_enter Tryz.func35, Tryz.ntmps35
  go_wp2
  go_region_law (first
    | (refine step_append_rep rfl (lowS (m + 3)) secE_ _ (.tmp 8) (.tmp 14) rfl rfl kO rfl (ys := [secF c ord s n]) kS kF kN (by decide) kB ?_; intro v6 w6 hown6 hg6 hat6; have hA6 := HFIN.out _ w6 v6 hbA hg6 hown6; have hz6 := hA6.2.1; have hc6 := hA6.2.2.1; rw [HLL.out] at hown6; obtain ⟨A6, c6, rfl, -⟩ := id (hown6.toSl (lowS (m + 3))))
    | (go_simp; go_at_call 36; (with_reducible refine (HSE.out _ hbX).mono ?_); rintro e w3 ⟨vN, rfl, hownN, hb3⟩; have hbX' := hbX.trans (hb3.mono hbX.size); obtain ⟨AN, cN, rfl, -⟩ := id (hownN.toSl nodS); have hbA := hbX'.alloc hbX'.size (secC s n (.slice AN (secF c ord s n).nodes.length cN)); have kO := (HX.out.call hbA).row; have kB := Nat.le_trans HZ.out hbA.size; have kS := sec_lay (m := m + 3) hownN HVL.out HZ.out; have kF := sec_off (o := secC s n (.slice AN (secF c ord s n).nodes.length cN)) HVL.out hb3.size; have r0 := (HX.out.call hbX').cells.1; have r1 := (HX.out.call hbA).cells.1))
  all_goals (go_wp2; go_end0)
  all_goals exact ⟨rfl, ⟨_, hA6.1⟩, hA6.2.2.2.1, hA6.2.2.2.2.1, hA6.2.2.2.2.2⟩
open Go.RowKit

theorem enter_compile (args : Array Value) (W : World) : (callFunc 35 args).run Tryz.prog W = .ok (.enter 35 args) W := by kernel_rfl
def secL (c : Cat) (ord : List ByteArray) (out : List (Sheet × ByteArray)) : List Sect := out.map fun p => secF c ord p.1 p.2
theorem secL_snoc (c : Cat) (ord : List ByteArray) (out : List (Sheet × ByteArray)) (x : Sheet) (n : ByteArray) : secL c ord (out ++ [(x, n)]) = secL c ord out ++ [secF c ord x n] := by simp [secL]
/-- the sections of a finding aid -/
def aidL (c : Cat) (u : Int) (s : ByteArray) : List Sect := secL c (prefP c.langs s) (secnF c.sheets u)
def cmpE (c : Cat) (u : Int) (s : ByteArray) : Int := if catE c ≠ 0 then 1 else if hasS c.langs s = false then 10 else if shtIx c.sheets u < 0 then 7 else 0
def aidU (c : Cat) (u : Int) (s : ByteArray) : Int := if cmpE c u s = 0 then u else 0
def aidS (c : Cat) (u : Int) (s : ByteArray) : ByteArray := if cmpE c u s = 0 then s else ⟨#[]⟩
def aidF (c : Cat) (u : Int) (s : ByteArray) : List Sect := if cmpE c u s = 0 then aidL c u s else []
abbrev aidZ : Obj := .cells #[.int .i64 0, .string ⟨#[]⟩, .slice none 0 0] 31
abbrev zAid : Value := .agg #[.int .i64 0, .string ⟨#[]⟩, .slice none 0 0]
theorem aid_err {c : Cat} {u : Int} {s : ByteArray} {k : Int} (h : cmpE c u s = k) (hk : k ≠ 0) : Value.tuple #[zAid, .int .i64 k] = Value.tuple #[.agg #[.int .i64 (aidU c u s), .string (aidS c u s), .slice none 0 0], .int .i64 (cmpE c u s)] ∧ aidF c u s = [] := by
  have h' : cmpE c u s ≠ 0 := by rw [h]; exact hk
  unfold aidU aidS aidF
  rw [if_neg h', if_neg h', if_neg h', h]
  exact ⟨rfl, rfl⟩
theorem SlRep.nil_' {W : World} {F : Nat → Prop} : SlRep 3 secR W F [] (.slice none 0 0) := SlRep.nil_
/-- the world behind the entry -/
structure EntW (w : World) (v1 v2 v3 : Value) (W : World) : Prop where
  cb : W.heap[w.heap.size]? = some (catC v1 v2 v3)
  rb : W.heap[w.heap.size + 1]? = some aidZ
  below : Below w.heap.size w W
  size : w.heap.size + 2 ≤ W.heap.size
theorem EntW.make (w : World) (v1 v2 v3 : Value) : EntW w v1 v2 v3 ((w.alloc (catC v1 v2 v3)).alloc aidZ) where
  cb := by
    rw [Below.heap_alloc _ _ _ (by simp)]
    exact heap_newL w _
  rb := by
    have := heap_newL (w.alloc (catC v1 v2 v3)) aidZ
    simpa only [World.size_alloc] using this
  below := ((Below.refl _ _).alloc (Nat.le_refl _) _).alloc (by simp) _
  size := by simp
theorem EntW.call {w W W' : World} {v1 v2 v3 : Value} (h : EntW w v1 v2 v3 W) (hb : Below W.heap.size W W') : EntW w v1 v2 v3 W' :=
  ⟨(hb.block _ (heap_lt h.cb)).trans h.cb, (hb.block _ (heap_lt h.rb)).trans h.rb, h.below.trans (hb.mono h.below.size), Nat.le_trans h.size hb.size⟩
theorem EntW.cells {w W : World} {v1 v2 v3 : Value} (h : EntW w v1 v2 v3 W) : W.cell? ⟨w.heap.size, 0, none⟩ = some v1 ∧ W.cell? ⟨w.heap.size, 1, none⟩ = some v2 ∧ W.cell? ⟨w.heap.size, 2, none⟩ = some v3 ∧ w.heap.size < W.heap.size :=
  ⟨by rw [Lib.cell_of_heap h.cb]; rfl, by rw [Lib.cell_of_heap h.cb]; rfl, by rw [Lib.cell_of_heap h.cb]; rfl, heap_lt h.cb⟩
theorem EntW.res {w W : World} {v1 v2 v3 : Value} (h : EntW w v1 v2 v3 W) : (W.cell? ⟨w.heap.size + 1, 0, none⟩ = some (.int .i64 0) ∧ W.cell? ⟨w.heap.size + 1, 1, none⟩ = some (.string ⟨#[]⟩) ∧ W.cell? ⟨w.heap.size + 1, 2, none⟩ = some (.slice none 0 0)) ∧ (W.frozen? ⟨w.heap.size + 1, 0, none⟩ = false ∧ W.frozen? ⟨w.heap.size + 1, 1, none⟩ = false ∧ W.frozen? ⟨w.heap.size + 1, 2, none⟩ = false) ∧ w.heap.size + 1 < W.heap.size :=
  ⟨⟨by rw [Lib.cell_of_heap h.rb]; rfl, by rw [Lib.cell_of_heap h.rb]; rfl, by rw [Lib.cell_of_heap h.rb]; rfl⟩, ⟨Lib.frozen_of_heap h.rb 0, Lib.frozen_of_heap h.rb 1, Lib.frozen_of_heap h.rb 2⟩, heap_lt h.rb⟩
theorem row_sec {m base : Nat} {e : TypeId} {W : World} {l : List Sect} {v : Value} (h : OwnRep 3 (lowR m) e base W l v) (hb : m ≤ base) : SlRep 3 secR W (fun b => m ≤ b ∧ b < W.heap.size) l v := by
  have hlt := h.own_lt
  obtain ⟨A, c, e1, h1, h2, h3⟩ := h.toSl (lowS m)
  refine ⟨A, c, e1, h1, h2, fun i x hx => ?_⟩
  obtain ⟨b, off, cs, hA, hF, hr, hc⟩ := h3 i x hx
  have hbo := hlt b (by rw [e1, hA]; rfl)
  exact ⟨b, off, cs, hA, ⟨Nat.le_trans hb hbo.1, hbo.2⟩, secS.mono (fun b hb => ⟨hb.2, hb.1⟩) hr, hc⟩
abbrev aidO (u : Int) (s : ByteArray) (v : Value) : Obj := .cells #[.int .i64 u, .string s, v] 31
abbrev ordO (v : Value) : Obj := .cells #[v] 22
theorem cmp_start {w w3 w4 : World} {v1 v2 v3 vo : Value} {u : Int} {s : ByteArray} {ord : List ByteArray} (h : EntW w v1 v2 v3 w4) (hown : OwnRep 1 (flat strEnc) 9 w3.heap.size w4 ord vo) :
    CmpAt w4.heap.size w.heap.size (w4.heap.size + 1) (w4.heap.size + 2) u s ord v1 v2 v3 vo [] (.slice none 0 0) ((w4.alloc (aidO u s (.slice none 0 0))).alloc (ordO vo)) := by
  have hz := heap_lt h.cb
  have hb : Below w4.heap.size w4 ((w4.alloc (aidO u s (.slice none 0 0))).alloc (ordO vo)) := ((Below.refl _ _).alloc (Nat.le_refl _) _).alloc (by simp) _
  refine ⟨?_, (hb.block _ hz).trans h.cb, ?_, ((hown.toFlat strS).frame strS (fun b hb' => hb.block b (hown.own_lt b hb').2)).monoF strS (fun b hb' => ?_), OwnRep.nil_, by omega, by omega, by omega, by simp⟩
  · rw [Below.heap_alloc _ _ _ (by simp)]
    exact heap_newL w4 _
  · have := heap_newL (w4.alloc (aidO u s (.slice none 0 0))) (ordO vo)
    simpa only [World.size_alloc] using this
  · have := (hown.own_lt b hb').2
    omega
set_option maxRecDepth 100000 in
set_option maxHeartbeats 8000000 in
theorem Compile_lo (c : Cat) (u : Int) (s : ByteArray) (v1 v2 v3 : Value) (w : World) (B : Nat) (hB : B ≤ w.heap.size) (h : CatRep w B c v1 v2 v3) (h14 : catE c = 0 → c.sheets.length ≤ 14) (hS : SynOk w) :
    Calls Tryz.prog 8 #[.agg #[v1, v2, v3], .int .i64 u, .string s] w fun e w' => ∃ vs, e = .returned (.tuple #[.agg #[.int .i64 (aidU c u s), .string (aidS c u s), vs], .int .i64 (cmpE c u s)]) ∧ SlRep 3 secR w' (fun b => w.heap.size ≤ b ∧ b < w'.heap.size) (aidF c u s) vs ∧ Below w.heap.size w w' := by
  have HC := Lib.hid (fun (W : World) (hW : Below w.heap.size w W) => Check_c c v1 v2 v3 W B (Nat.le_trans hB hW.size) (h.below (hW.mono hB)))
  by_cases h1 : catE c = 0
  · have h0 := Lib.hid h1
    rw [h1] at HC
    have HHA := Lib.hid (fun (W : World) (hW : Below w.heap.size w W) => scontains_c s c.langs v1 W (fun b => b < B) (fun b hb => by have : b < B := hb; have := hW.size; omega) (h.langs.below strS (hW.mono hB)))
    have HFI := Lib.hid (fun (W : World) (hW : Below w.heap.size w W) => find_c c.sheets u v3 W B (Nat.le_trans hB hW.size) (h.sheets.below shtS (hW.mono hB)))
    cases hs : c.langs.any (fun x => decide (x = s))
    · have HE := Lib.hid (aid_err (show cmpE c u s = 10 by unfold cmpE; rw [if_neg (by simp [h1]), if_pos (show hasS c.langs s = false from hs)]) (by decide))
      rw [hs] at HHA
      clear h1 hs
      go_enter Tryz.func8, Tryz.ntmps8
      go_wp2_with fail
      have hE0 := EntW.make w v1 v2 v3
      refine (HC.out _ hE0.below).mono ?_
      rintro e w1 ⟨rfl, hb1⟩
      have hE1 := hE0.call hb1
      obtain ⟨z0, z1, z2, zl⟩ := hE1.cells
      clear hE0
      go_wp2_with fail
      refine (HHA.out _ hE1.below).mono ?_
      rintro e w2 ⟨rfl, rfl⟩
      clear z0 z1 z2 zl
      obtain ⟨⟨e0, e1, e2⟩, ⟨f0, f1, f2⟩, hl0⟩ := hE1.res
      have HBL := Lib.hid hE1.below
      clear hE1
      go_wp2
      refine bodyPost_ret (v := .tuple #[zAid, .int .i64 10]) (by simp [results, Tryz.results8, go_sem, zAid, e0, e1, e2]) rfl ⟨.slice none 0 0, by rw [HE.out.1], by rw [HE.out.2]; exact SlRep.nil_', ((HBL.out.setCell (by show w.heap.size ≤ w.heap.size + 1; omega) _).setCell (by show w.heap.size ≤ w.heap.size + 1; omega) _).setCell (by show w.heap.size ≤ w.heap.size + 1; omega) _⟩
    · rw [hs] at HHA
      have hsl : s ∈ c.langs := hasS_iff.1 (show hasS c.langs s = true from hs)
      rcases idxF_cases (fun x : Sheet => decide (x.unit = u)) c.sheets with ⟨hi, -⟩ | ⟨k, x, hi, -, -, -⟩
      · have hi' : shtIx c.sheets u = -1 := hi
        have HE := Lib.hid (aid_err (show cmpE c u s = 7 by unfold cmpE; rw [if_neg (by simp [h1]), if_neg (show ¬ hasS c.langs s = false by unfold hasS; simp [hs]), if_pos (by omega)]) (by decide))
        rw [hi'] at HFI
        clear h1 hs hi hi'
        go_enter Tryz.func8, Tryz.ntmps8
        go_wp2_with fail
        have hE0 := EntW.make w v1 v2 v3
        refine (HC.out _ hE0.below).mono ?_
        rintro e w1 ⟨rfl, hb1⟩
        have hE1 := hE0.call hb1
        obtain ⟨z0, z1, z2, zl⟩ := hE1.cells
        clear hE0
        go_wp2_with fail
        refine (HHA.out _ hE1.below).mono ?_
        rintro e w2 ⟨rfl, rfl⟩
        go_wp2_with fail
        refine (HFI.out _ hE1.below).mono ?_
        rintro e w3 ⟨rfl, hb3⟩
        have hE3 := hE1.call hb3
        clear z0 z1 z2 zl hE1
        obtain ⟨⟨e0, e1, e2⟩, ⟨f0, f1, f2⟩, hl0⟩ := hE3.res
        have HBL := Lib.hid hE3.below
        clear hE3
        go_wp2
        refine bodyPost_ret (v := .tuple #[zAid, .int .i64 7]) (by simp [results, Tryz.results8, go_sem, zAid, e0, e1, e2]) rfl ⟨.slice none 0 0, by rw [HE.out.1], by rw [HE.out.2]; exact SlRep.nil_', ((HBL.out.setCell (by show w.heap.size ≤ w.heap.size + 1; omega) _).setCell (by show w.heap.size ≤ w.heap.size + 1; omega) _).setCell (by show w.heap.size ≤ w.heap.size + 1; omega) _⟩
      · have hi' : shtIx c.sheets u = (k : Int) := hi
        have hcm : cmpE c u s = 0 := by unfold cmpE; rw [if_neg (by simp [h1]), if_neg (show ¬ hasS c.langs s = false by unfold hasS; simp [hs]), if_neg (by omega)]
        have HE := Lib.hid (show aidU c u s = u ∧ aidS c u s = s ∧ aidF c u s = aidL c u s ∧ cmpE c u s = 0 by unfold aidU aidS aidF; rw [if_pos hcm, if_pos hcm, if_pos hcm]; exact ⟨rfl, rfl, rfl, hcm⟩)
        have hki : decide ((k : Int) < 0) = false := by simp
        rw [hi'] at HFI
        have hl14 := h14 h1
        obtain ⟨hz1, -, -, -⟩ := catE_zero h1
        obtain ⟨-, l2, -, -⟩ := langE_zero hz1
        have HPR := Lib.hid (fun (W : World) (hW : Below w.heap.size w W) => prefer_c c s v1 v2 v3 W B (Nat.le_trans hB hW.size) (h.langs.below strS (hW.mono hB)) hsl l2)
        clear h1 hs hi hi' hcm hz1
        go_enter Tryz.func8, Tryz.ntmps8
        go_wp2_with fail
        have hE0 := EntW.make w v1 v2 v3
        refine (HC.out _ hE0.below).mono ?_
        rintro e w1 ⟨rfl, hb1⟩
        have hE1 := hE0.call hb1
        obtain ⟨z0, z1, z2, zl⟩ := hE1.cells
        clear hE0
        go_wp2_with fail
        refine (HHA.out _ hE1.below).mono ?_
        rintro e w2 ⟨rfl, rfl⟩
        go_wp2_with fail
        refine (HFI.out _ hE1.below).mono ?_
        rintro e w3 ⟨rfl, hb3⟩
        have hE3 := hE1.call hb3
        clear z0 z1 z2 zl hE1
        obtain ⟨z0, z1, z2, zl⟩ := hE3.cells
        go_wp2_with fail
        refine (HPR.out _ hE3.below).mono ?_
        rintro e w4 ⟨vp, rfl, hown4, hb4⟩
        have hE4 := hE3.call hb4
        clear z0 z1 z2 zl
        obtain ⟨z0, z1, z2, zl⟩ := hE4.cells
        obtain ⟨Ap, cp, rfl, -⟩ := id (hown4.toSl strS)
        have HL0 := Lib.hid (show Below w.heap.size w ((w4.alloc (aidO u s (.slice none 0 0))).alloc (ordO (.slice Ap (prefP c.langs s).length cp))) from (hE4.below.alloc hE4.below.size _).alloc (by simp; have := hE4.below.size; omega) _)
        have HN0 := Lib.hid (show CmpAt w4.heap.size w.heap.size (w4.heap.size + 1) (w4.heap.size + 2) u s (prefP c.langs s) v1 v2 v3 (.slice Ap (prefP c.langs s).length cp) [] (.slice none 0 0) ((w4.alloc (aidO u s (.slice none 0 0))).alloc (ordO (.slice Ap (prefP c.langs s).length cp))) from cmp_start hE4 hown4)
        have hL4 : Below w4.heap.size w4 ((w4.alloc (aidO u s (.slice none 0 0))).alloc (ordO (.slice Ap (prefP c.langs s).length cp))) := ((Below.refl _ _).alloc (Nat.le_refl _) _).alloc (by simp) _
        have HNU := Lib.hid (numbered3_c 35 (.pointer (some ⟨w4.heap.size, 0, none⟩)) (.pointer (some ⟨w.heap.size, 0, none⟩)) (.pointer (some ⟨w4.heap.size + 1, 0, none⟩)) c.sheets u v1 v2 v3 ((w4.alloc (aidO u s (.slice none 0 0))).alloc (ordO (.slice Ap (prefP c.langs s).length cp))) w4.heap.size hL4.size (((h.sheets.mono shtS hB).below shtS HL0.out).mono shtS hE4.below.size) hl14 enter_compile
          (fun out W => ∃ v, CmpAt w4.heap.size w.heap.size (w4.heap.size + 1) (w4.heap.size + 2) u s (prefP c.langs s) v1 v2 v3 (.slice Ap (prefP c.langs s).length cp) (secL c (prefP c.langs s) out) v W)
          (fun W hW => ⟨_, HN0.out.call hW⟩)
          (fun out W W' hj ha => ⟨_, hj.choose_spec.aside (by simpa using ha)⟩)
          (fun out x n vf W hj hb hsz hmem hvf hn hol => (comp1_c c x n s u (prefP c.langs s) v1 v2 v3 vf (.slice Ap (prefP c.langs s).length cp) hj.choose (secL c (prefP c.langs s) out) w4.heap.size w.heap.size (w4.heap.size + 1) (w4.heap.size + 2) w4.heap.size W _ hL4.size (Nat.le_refl _) hj.choose_spec hb (((h.mono hB).below HL0.out).mono hE4.below.size) hvf h0.out hmem hn (hS.below hS.1 HL0.out) (Nat.lt_of_lt_of_le hS.1 hE4.below.size) (by unfold secL; rw [List.length_map]; omega) (by simp at hsz; omega)).mono fun e w' ⟨g1, g2, g3, g4, g5⟩ => ⟨g1, by rw [secL_snoc]; exact g2, g3, g4, fun b hb1 hb2 => g5 b (by simp at hb1; omega) (by simp at hb2; omega)⟩))
        go_wp2_with fail
        refine HNU.out.mono ?_
        rintro e w5 ⟨rfl, ⟨v5, hc5⟩, hb5, hs5⟩
        have hE5 := hE4.call (hL4.trans hb5)
        have a0 : w5.cell? ⟨w4.heap.size, 0, none⟩ = some (.int .i64 u) := by rw [Lib.cell_of_heap hc5.ab]; rfl
        have a1 : w5.cell? ⟨w4.heap.size, 1, none⟩ = some (.string s) := by rw [Lib.cell_of_heap hc5.ab]; rfl
        have a2 : w5.cell? ⟨w4.heap.size, 2, none⟩ = some v5 := by rw [Lib.cell_of_heap hc5.ab]; rfl
        have hrow := row_sec hc5.row (Nat.le_refl _)
        have al := heap_lt hc5.ab
        obtain ⟨A5, c5, rfl, -⟩ := id hrow
        obtain ⟨⟨e0, e1, e2⟩, ⟨f0, f1, f2⟩, hl0⟩ := hE5.res
        have HBL := Lib.hid hE5.below
        have hE4s := hE4.size
        have HRW := Lib.hid (fun (a b d : Value) => (hrow.frame (w' := ((w5.setCell ⟨w.heap.size + 1, 0, none⟩ a).setCell ⟨w.heap.size + 1, 1, none⟩ b).setCell ⟨w.heap.size + 1, 2, none⟩ d) secS (fun b' hb' => by
            have hne : b' ≠ w.heap.size + 1 := by have := hb'.1; omega
            rw [Below.heap_setCell _ _ _ _ hne, Below.heap_setCell _ _ _ _ hne, Below.heap_setCell _ _ _ _ hne])).monoF secS (F' := fun b' => w.heap.size ≤ b' ∧ b' < (((w5.setCell ⟨w.heap.size + 1, 0, none⟩ a).setCell ⟨w.heap.size + 1, 1, none⟩ b).setCell ⟨w.heap.size + 1, 2, none⟩ d).heap.size) (fun b' hb' => ⟨by have := hb'.1; omega, by simpa [World.setCell] using hb'.2⟩))
        obtain ⟨HE1, HE2, HE3, HE4⟩ := HE.out
        have HV := Lib.hid (show Value.tuple #[.agg #[.int .i64 u, .string s, .slice A5 (secL c (prefP c.langs s) (secnF c.sheets u)).length c5], .int .i64 0] = Value.tuple #[.agg #[.int .i64 (aidU c u s), .string (aidS c u s), .slice A5 (secL c (prefP c.langs s) (secnF c.sheets u)).length c5], .int .i64 (cmpE c u s)] by rw [HE1, HE2, HE4])
        have HF := Lib.hid (show aidF c u s = secL c (prefP c.langs s) (secnF c.sheets u) from HE3)
        clear HE1 HE2 HE3 HE4 hrow hc5 hE5 hE4 z0 z1 z2 zl HNU HN0 HL0 hb5 hL4
        go_wp2
        refine bodyPost_ret (v := .tuple #[.agg #[.int .i64 u, .string s, .slice A5 (secL c (prefP c.langs s) (secnF c.sheets u)).length c5], .int .i64 0]) (by simp [results, Tryz.results8, go_sem, e0, e1, e2]) rfl ⟨_, by rw [HV.out], by rw [HF.out]; exact HRW.out _ _ _, ((HBL.out.setCell (by show w.heap.size ≤ w.heap.size + 1; omega) _).setCell (by show w.heap.size ≤ w.heap.size + 1; omega) _).setCell (by show w.heap.size ≤ w.heap.size + 1; omega) _⟩
  · have HE := Lib.hid (aid_err (show cmpE c u s = 1 by unfold cmpE; rw [if_pos h1]) (by decide))
    obtain ⟨n1, n2⟩ := ne_bool h1
    clear h1
    go_enter Tryz.func8, Tryz.ntmps8
    go_wp2_with fail
    have hE0 := EntW.make w v1 v2 v3
    refine (HC.out _ hE0.below).mono ?_
    rintro e w1 ⟨rfl, hb1⟩
    have hE1 := hE0.call hb1
    clear hE0
    obtain ⟨⟨e0, e1, e2⟩, ⟨f0, f1, f2⟩, hl0⟩ := hE1.res
    have HBL := Lib.hid hE1.below
    clear hE1
    go_wp2
    refine bodyPost_ret (v := .tuple #[zAid, .int .i64 1]) (by simp [results, Tryz.results8, go_sem, zAid, e0, e1, e2]) rfl ⟨.slice none 0 0, by rw [HE.out.1], by rw [HE.out.2]; exact SlRep.nil_', ((HBL.out.setCell (by show w.heap.size ≤ w.heap.size + 1; omega) _).setCell (by show w.heap.size ≤ w.heap.size + 1; omega) _).setCell (by show w.heap.size ≤ w.heap.size + 1; omega) _⟩
theorem Compile_c (c : Cat) (u : Int) (s : ByteArray) (v1 v2 v3 : Value) (w : World) (B : Nat) (hB : B ≤ w.heap.size) (h : CatRep w B c v1 v2 v3) (h14 : catE c = 0 → c.sheets.length ≤ 14) (hS : SynOk w) :
    Calls Tryz.prog 8 #[.agg #[v1, v2, v3], .int .i64 u, .string s] w fun e w' => ∃ vs, e = .returned (.tuple #[.agg #[.int .i64 (aidU c u s), .string (aidS c u s), vs], .int .i64 (cmpE c u s)]) ∧ SlRep 3 secR w' (fun b => b < w'.heap.size) (aidF c u s) vs ∧ Below w.heap.size w w' :=
  (Compile_lo c u s v1 v2 v3 w B hB h h14 hS).mono fun _ _ ⟨vs, h1, h2, h3⟩ => ⟨vs, h1, h2.monoF secS (fun _ hb => hb.2), h3⟩
end Go.Proofs.YtbmlnflacdockaaGreatDoor
