/- The program: section. -/
import Derived.Test.YtbmlnflacdockaaDoorPrX
import Derived.Deep.RegionLaw
namespace Go.Proofs.YtbmlnflacdockaaDoor
open Go.RowKit

/-- the tag of a level -/
def tagF (l : Int) : ByteArray := if l = 1 then ⟨#[102, 111, 110, 100, 115]⟩ else if l = 2 then ⟨#[115, 101, 114, 105, 101, 115]⟩ else if l = 3 then ⟨#[102, 105, 108, 101]⟩ else ⟨#[105, 116, 101, 109]⟩
def markT : ByteArray := ⟨#[109, 97, 114, 107]⟩
abbrev parT : ByteArray := ⟨#[112]⟩
def pntN (n : ByteArray) : Int := (Lib.countByte n.data.toList 46 : Nat)
def headN (s : Sheet) (n : ByteArray) : Node := ⟨pntN n, tagF s.level, n ++ ⟨#[32]⟩ ++ s.title⟩
def markN (s : Sheet) (n : ByteArray) : List Node := if s.mark = ⟨#[]⟩ then [] else [⟨pntN n + 1, markT, s.mark⟩]
def textF (c : Cat) (ord : List ByteArray) (f : Fact) : ByteArray := nameF ord c.labels f.el.toNat ++ ⟨#[58, 32]⟩ ++ ⟨(expF (fun u => citeF c.sheets u) f.text).toArray⟩
def parN (c : Cat) (ord : List ByteArray) (n : ByteArray) (f : Fact) : Node := ⟨pntN n + 1, parT, textF c ord f⟩
/-- the section of a sheet -/
def secF (c : Cat) (ord : List ByteArray) (s : Sheet) (n : ByteArray) : Sect := ⟨s.unit, n, headN s n :: markN s n ++ (chooseF ord s.facts).map (parN c ord n)⟩
/-- what the call has laid: its copies, the section with the nodes so far -/
structure SecAt (w0 : World) (v1 v2 v3 vf : Value) (s : Sheet) (n : ByteArray) (go : Nat) (v : Value) (l : List Node) (W : World) : Prop where
  blk : W.heap[go]? = some (.cells #[.int .i64 s.unit, .string n, v] 28 (0, 0))
  row : OwnRep 3 (flat Node.enc) 30 (w0.heap.size + 3) W l v
  ne : v.ownBlock ≠ some go
  lo : w0.heap.size + 3 ≤ go
  cb : W.heap[w0.heap.size]? = some (.cells #[v1, v2, v3] 40 (0, 0))
  sb : W.heap[w0.heap.size + 1]? = some (.cells #[.int .i64 s.unit, .int .i64 s.parent, .int .i64 s.level, .string s.mark, .string s.title, vf] 49 (0, 0))
  rb : W.heap[w0.heap.size + 1 + 1]? = some (.cells #[.int .i64 0, .string ⟨#[]⟩, .slice none 0 0] 28 (0, 0))
  below : Below w0.heap.size w0 W
abbrev secZ : Obj := .cells #[.int .i64 0, .string ⟨#[]⟩, .slice none 0 0] 28
abbrev tagsC : Obj := .cells #[.string ⟨#[]⟩, .string ⟨#[102, 111, 110, 100, 115]⟩, .string ⟨#[115, 101, 114, 105, 101, 115]⟩, .string ⟨#[102, 105, 108, 101]⟩, .string ⟨#[105, 116, 101, 109]⟩] 96
/-- the world behind the first statements -/
structure SecW (w : World) (v1 v2 v3 vf : Value) (s : Sheet) (W : World) : Prop where
  cb : W.heap[w.heap.size]? = some (catC v1 v2 v3)
  sb : W.heap[w.heap.size + 1]? = some (shtC s vf)
  rb : W.heap[w.heap.size + 1 + 1]? = some secZ
  tb : W.heap[w.heap.size + 1 + 1 + 1]? = some tagsC
  size : W.heap.size = w.heap.size + 4
  below : Below w.heap.size w W
theorem SecW.make (w : World) (v1 v2 v3 vf : Value) (s : Sheet) : SecW w v1 v2 v3 vf s ((((w.alloc (catC v1 v2 v3)).alloc (shtC s vf)).alloc secZ).alloc tagsC) where
  cb := by
    rw [Below.heap_alloc _ _ _ (by simp; omega), Below.heap_alloc _ _ _ (by simp; omega), Below.heap_alloc _ _ _ (by simp)]
    exact heap_newL w _
  sb := by
    rw [Below.heap_alloc _ _ _ (by simp), Below.heap_alloc _ _ _ (by simp)]
    have := heap_newL (w.alloc (catC v1 v2 v3)) (shtC s vf)
    simpa only [World.size_alloc] using this
  rb := by
    rw [Below.heap_alloc _ _ _ (by simp)]
    have := heap_newL ((w.alloc (catC v1 v2 v3)).alloc (shtC s vf)) secZ
    simpa only [World.size_alloc] using this
  tb := by
    have := heap_newL (((w.alloc (catC v1 v2 v3)).alloc (shtC s vf)).alloc secZ) tagsC
    simpa only [World.size_alloc] using this
  size := by simp
  below := (((((Below.refl _ _).alloc (Nat.le_refl _) _).alloc (by simp) _).alloc (by simp; omega) _).alloc (by simp; omega) _)
theorem SecW.tag {w W : World} {v1 v2 v3 vf : Value} {s : Sheet} (h : SecW w v1 v2 v3 vf s W) (h1 : 1 ≤ s.level) (h4 : s.level ≤ 4) : W.cell? ⟨w.heap.size + 1 + 1 + 1, s.level.toNat, none⟩ = some (.string (tagF s.level)) := by
  rw [Lib.cell_of_heap h.tb]
  rcases (by omega : s.level = 1 ∨ s.level = 2 ∨ s.level = 3 ∨ s.level = 4) with e | e | e | e <;> rw [e] <;> rfl
theorem SecW.fld {w W : World} {v1 v2 v3 vf : Value} {s : Sheet} (h : SecW w v1 v2 v3 vf s W) : W.cell? ⟨w.heap.size + 1, 0, none⟩ = some (.int .i64 s.unit) ∧ W.cell? ⟨w.heap.size + 1, 2, none⟩ = some (.int .i64 s.level) ∧ W.cell? ⟨w.heap.size + 1, 4, none⟩ = some (.string s.title) := by
  rw [Lib.cell_of_heap h.sb, Lib.cell_of_heap h.sb, Lib.cell_of_heap h.sb]
  exact ⟨rfl, rfl, rfl⟩
theorem SecW.keep {w W W' : World} {v1 v2 v3 vf : Value} {s : Sheet} (h : SecW w v1 v2 v3 vf s W) (hl : 1 ≤ s.level ∧ s.level ≤ 4) (hb : Below W.heap.size W W') : W'.cell? ⟨w.heap.size + 1, 0, none⟩ = some (.int .i64 s.unit) ∧ W'.cell? ⟨w.heap.size + 1, 2, none⟩ = some (.int .i64 s.level) ∧ W'.cell? ⟨w.heap.size + 1, 4, none⟩ = some (.string s.title) ∧ W'.cell? ⟨w.heap.size + 1 + 1 + 1, s.level.toNat, none⟩ = some (.string (tagF s.level)) := by
  obtain ⟨h1, h2, h3⟩ := h.fld
  exact ⟨(hb.cell (p := ⟨w.heap.size + 1, 0, none⟩) (heap_lt h.sb)).trans h1, (hb.cell (p := ⟨w.heap.size + 1, 2, none⟩) (heap_lt h.sb)).trans h2, (hb.cell (p := ⟨w.heap.size + 1, 4, none⟩) (heap_lt h.sb)).trans h3, (hb.cell (p := ⟨w.heap.size + 1 + 1 + 1, s.level.toNat, none⟩) (heap_lt h.tb)).trans (h.tag hl.1 hl.2)⟩
theorem SecW.below_ {w W W' : World} {v1 v2 v3 vf : Value} {s : Sheet} (h : SecW w v1 v2 v3 vf s W) (hb : Below W.heap.size W W') : W'.heap[w.heap.size]? = some (catC v1 v2 v3) ∧ W'.heap[w.heap.size + 1]? = some (shtC s vf) ∧ W'.heap[w.heap.size + 1 + 1]? = some secZ ∧ Below w.heap.size w W' :=
  ⟨(hb.block _ (heap_lt h.cb)).trans h.cb, (hb.block _ (heap_lt h.sb)).trans h.sb, (hb.block _ (heap_lt h.rb)).trans h.rb, h.below.trans (hb.mono h.below.size)⟩
abbrev nodC (x : Node) : Obj := .cells #[.int .i64 x.depth, .string x.tag, .string x.text] 30
abbrev secC (s : Sheet) (n : ByteArray) (v : Value) : Obj := .cells #[.int .i64 s.unit, .string n, v] 28
theorem SecAt.start1 {w W : World} {v1 v2 v3 vf : Value} {s : Sheet} (n : ByteArray) (h : SecW w v1 v2 v3 vf s W) (x : Node) : SecAt w v1 v2 v3 vf s n W.heap.size (.slice (some ⟨W.heap.size + 1, 0, none⟩) 1 1) [x] ((W.alloc (secC s n (.slice (some ⟨W.heap.size + 1, 0, none⟩) 1 1))).alloc (nodC x)).drew := by
  have hb : Below W.heap.size W ((W.alloc (secC s n (.slice (some ⟨W.heap.size + 1, 0, none⟩) 1 1))).alloc (nodC x)).drew := (((Below.refl _ _).alloc (Nat.le_refl _) _).alloc (by simp) _).drew
  obtain ⟨h1, h2, h4, h3⟩ := h.below_ hb
  have hz := h.size
  refine ⟨?_, OwnRep.of_full nodS rfl (by decide) (by omega) ?_, by simp [Value.ownBlock], by omega, h1, h2, h4, h3⟩
  · show ((W.alloc _).alloc _).heap[W.heap.size]? = _
    rw [Below.heap_alloc _ _ _ (by simp)]
    exact heap_newL W _
  · have := heap_newL (W.alloc (secC s n (.slice (some ⟨W.heap.size + 1, 0, none⟩) 1 1))) (nodC x)
    rw [World.size_alloc] at this
    exact this
theorem SecAt.start2 {w W : World} {v1 v2 v3 vf : Value} {s : Sheet} (n : ByteArray) (h : SecW w v1 v2 v3 vf s W) (x : Node) : SecAt w v1 v2 v3 vf s n (W.heap.size + 1) (.slice (some ⟨W.heap.size, 0, none⟩) 1 1) [x] ((W.alloc (nodC x)).alloc (secC s n (.slice (some ⟨W.heap.size, 0, none⟩) 1 1))).drew := by
  have hb : Below W.heap.size W ((W.alloc (nodC x)).alloc (secC s n (.slice (some ⟨W.heap.size, 0, none⟩) 1 1))).drew := (((Below.refl _ _).alloc (Nat.le_refl _) _).alloc (by simp) _).drew
  obtain ⟨h1, h2, h4, h3⟩ := h.below_ hb
  have hz := h.size
  refine ⟨?_, OwnRep.of_full nodS rfl (by decide) (by omega) ?_, by simp [Value.ownBlock], by omega, h1, h2, h4, h3⟩
  · have := heap_newL (W.alloc (nodC x)) (secC s n (.slice (some ⟨W.heap.size, 0, none⟩) 1 1))
    rw [World.size_alloc] at this
    exact this
  · show ((W.alloc _).alloc _).heap[W.heap.size]? = _
    rw [Below.heap_alloc _ _ _ (by simp)]
    exact heap_newL W _
theorem SecAt.call {w W W' : World} {v1 v2 v3 vf v : Value} {s : Sheet} {n : ByteArray} {go : Nat} {l : List Node} (h : SecAt w v1 v2 v3 vf s n go v l W) (hb : Below W.heap.size W W') : SecAt w v1 v2 v3 vf s n go v l W' :=
  ⟨(hb.block _ (heap_lt h.blk)).trans h.blk, h.row.below nodS hb, h.ne, h.lo, (hb.block _ (heap_lt h.cb)).trans h.cb, (hb.block _ (heap_lt h.sb)).trans h.sb, (hb.block _ (heap_lt h.rb)).trans h.rb, h.below.trans (hb.mono h.below.size)⟩
theorem SecAt.app {w W w6 : World} {v1 v2 v3 vf v v' : Value} {s : Sheet} {n : ByteArray} {go : Nat} {l : List Node} (h : SecAt w v1 v2 v3 vf s n go v l W) {x : Node} (hown : OwnRep 3 (flat Node.enc) 30 (w.heap.size + 3) w6 (l ++ [x]) v')
    (hg : W.grownBy w6 v.ownBlock) (hat : v'.ownBlock = v.ownBlock ∨ v'.ownBlock = some W.heap.size) : SecAt w v1 v2 v3 vf s n go v' (l ++ [x]) (w6.setCell ⟨go, 2, none⟩ v') := by
  have hlt := h.row.own_lt
  have hgl := heap_lt h.blk
  have hlo := h.lo
  have h6 : w6.heap[go]? = some (.cells #[.int .i64 s.unit, .string n, v] 28 (0, 0)) := (hg.block go hgl (fun e => h.ne e.symm)).trans h.blk
  have hne : v'.ownBlock ≠ some go := by
    rcases hat with e | e
    · rw [e]; exact h.ne
    · rw [e]; intro e2; injection e2 with e2; omega
  refine ⟨by simp [World.setCell, Array.getElem?_modify, h6], hown.keep (fun b hb => Below.heap_setCell _ _ _ _ (by rintro rfl; exact hne hb)), hne, hlo, ?_, ?_, ?_, (h.below.grown hg h.below.size (fun k hk => by have := (hlt k hk).1; omega)).setCell (by show w.heap.size ≤ go; omega) _⟩
  · rw [Below.heap_setCell _ _ _ _ (by show w.heap.size ≠ go; omega)]
    exact (hg.block _ (heap_lt h.cb) (fun e => by have := (hlt _ e.symm).1; omega)).trans h.cb
  · rw [Below.heap_setCell _ _ _ _ (by show w.heap.size + 1 ≠ go; omega)]
    exact (hg.block _ (heap_lt h.sb) (fun e => by have := (hlt _ e.symm).1; omega)).trans h.sb
  · rw [Below.heap_setCell _ _ _ _ (by show w.heap.size + 1 + 1 ≠ go; omega)]
    exact (hg.block _ (heap_lt h.rb) (fun e => by have := (hlt _ e.symm).1; omega)).trans h.rb
theorem SecAt.cells {w W : World} {v1 v2 v3 vf v : Value} {s : Sheet} {n : ByteArray} {go : Nat} {l : List Node} (h : SecAt w v1 v2 v3 vf s n go v l W) : W.cell? ⟨go, 2, none⟩ = some v ∧ W.frozen? ⟨go, 2, none⟩ = false ∧ go < W.heap.size :=
  ⟨by rw [Lib.cell_of_heap h.blk]; rfl, Lib.frozen_of_heap h.blk 2, heap_lt h.blk⟩
abbrev pN (n nm tx : ByteArray) : Node := ⟨pntN n + 1, parT, nm ++ ⟨#[58, 32]⟩ ++ tx⟩
theorem one_lay (w : World) (y : Node) : SlRep 3 (flat Node.enc) (w.alloc (nodC y)) (fun b => False ∨ b = w.heap.size) [y] (.slice (some ⟨w.heap.size, 0, none⟩) 1 1) :=
  SlRep.one_new nodS (w := w) (F := fun _ => False) (x := y) (cs := Node.enc y) rfl rfl (fun _ hb => hb.elim)
theorem one_off {v : Value} {w2 w3 : World} {k : Nat} {o : Obj} (h : ∀ b, v.ownBlock = some b → k ≤ b ∧ b < w2.heap.size) (hb : Below w2.heap.size w2 w3) (c : Nat) (h1 : False ∨ c = w3.heap.size) : c < (w3.alloc o).heap.size ∧ v.ownBlock ≠ some c := by
  rcases h1 with h1 | rfl
  · exact h1.elim
  · exact ⟨by simp, fun e => by have := (h _ e).2; have := hb.size; omega⟩
theorem SecAt.base_ {w W : World} {v1 v2 v3 vf v : Value} {s : Sheet} {n : ByteArray} {go : Nat} {l : List Node} (h : SecAt w v1 v2 v3 vf s n go v l W) : w.heap.size + 3 ≤ W.heap.size := Nat.le_trans h.lo (Nat.le_of_lt (heap_lt h.blk))
theorem SecAt.frz {w W w6 : World} {v1 v2 v3 vf v : Value} {s : Sheet} {n : ByteArray} {go : Nat} {l : List Node} (h : SecAt w v1 v2 v3 vf s n go v l W) (hg : W.grownBy w6 v.ownBlock) : w6.frozen? ⟨go, 2, none⟩ = false :=
  Lib.frozen_of_heap ((hg.block go (heap_lt h.blk) (fun e => h.ne e.symm)).trans h.blk) 2
theorem qs_keep {w2 w3 w6 : World} {m k : Nat} {qs : List Fact} {v v' vq : Value} (h : SlRep 3 (flat Fact.enc) w2 (fun b => m ≤ b ∧ b < k) qs vq) (hb : Below w2.heap.size w2 w3) (hg : w3.grownBy w6 v.ownBlock) (hv : ∀ b, v.ownBlock = some b → b < m ∨ k ≤ b) (hat : v'.ownBlock = v.ownBlock ∨ v'.ownBlock = some w3.heap.size) (hk : k ≤ w2.heap.size) :
    SlRep 3 (flat Fact.enc) w6 (fun b => m ≤ b ∧ b < k) qs vq ∧ k ≤ w6.heap.size ∧ ∀ b, v'.ownBlock = some b → b < m ∨ k ≤ b := by
  have h1 := hb.size
  have h2 := hg.size
  refine ⟨h.frame fctS (fun b hb' => (hg.block b (by have := hb'.2; omega) (fun e => ?_)).trans (hb.block b (by have := hb'.2; omega))), by omega, fun b hb' => ?_⟩
  · have := hv b e.symm
    omega
  · rcases hat with e | e
    · exact hv b (by rw [← e]; exact hb')
    · rw [e] at hb'; injection hb' with hb'; omega
theorem pntN_le (n : ByteArray) : 0 ≤ pntN n ∧ pntN n ≤ n.size := by
  unfold pntN Lib.countByte
  have := List.count_le_length (a := (46 : UInt8)) (l := n.data.toList)
  rw [← Lib.size_eq] at this
  omega
theorem chooseG_mem (ord : List ByteArray) : ∀ (l out : List Fact) (f : Fact), f ∈ chooseG ord out l → f ∈ out ∨ f ∈ l
  | [], out, f, h => .inl h
  | x :: r, out, f, h => by
    rw [chooseG_cons] at h
    have key : ∀ o : List Fact, (∀ g ∈ o, g ∈ out ∨ g ∈ x :: r) → f ∈ chooseG ord o r → f ∈ out ∨ f ∈ x :: r := fun o ho hf => by
      rcases chooseG_mem ord r o f hf with h1 | h1
      · exact ho f h1
      · exact .inr (List.mem_cons_of_mem _ h1)
    have k1 : ∀ g ∈ out ++ [x], g ∈ out ∨ g ∈ x :: r := fun g hg => by
      rcases List.mem_append.1 hg with h1 | h1
      · exact .inl h1
      · simp at h1; exact .inr (by rw [h1]; exact List.mem_cons_self)
    have k2 : ∀ g ∈ out.dropLast ++ [x], g ∈ out ∨ g ∈ x :: r := fun g hg => by
      rcases List.mem_append.1 hg with h1 | h1
      · exact .inl (List.dropLast_subset _ h1)
      · simp at h1; exact .inr (by rw [h1]; exact List.mem_cons_self)
    cases hl : out.getLast? with
    | none => rw [hl] at h; exact key _ k1 h
    | some q =>
      rw [hl] at h
      simp only at h
      split at h
      · exact key _ k1 h
      · split at h
        · exact key _ k2 h
        · exact key _ (fun g hg => .inl hg) h
theorem chooseG_len (ord : List ByteArray) : ∀ (l out : List Fact), (chooseG ord out l).length ≤ out.length + l.length
  | [], out => Nat.le_refl _
  | x :: r, out => by
    rw [chooseG_cons, List.length_cons]
    cases hl : out.getLast? with
    | none => simp only; have := chooseG_len ord r (out ++ [x]); rw [List.length_append, List.length_singleton] at this; omega
    | some q =>
      have hne : 0 < out.length := by
        rcases out with _ | ⟨a, b⟩
        · cases hl
        · simp
      simp only
      split
      · have := chooseG_len ord r (out ++ [x]); rw [List.length_append, List.length_singleton] at this; omega
      · split
        · have := chooseG_len ord r (out.dropLast ++ [x]); rw [List.length_append, List.length_singleton, List.length_dropLast] at this; omega
        · have := chooseG_len ord r out; omega
theorem choose_mem {ord : List ByteArray} {l : List Fact} {f : Fact} (h : f ∈ chooseF ord l) : f ∈ l := by
  rcases chooseG_mem ord l [] f h with h1 | h1
  · cases h1
  · exact h1
theorem fctE_mem {ls : List ByteArray} {l : List Fact} (h : fctE ls l = 0) {f : Fact} (hf : f ∈ l) : 1 ≤ f.el ∧ f.el ≤ 64 ∧ f.text.size ≤ 4096 := by
  unfold fctE at h
  by_cases h3 : 32 < l.length
  · rw [if_pos h3] at h; cases h
  · rw [if_neg h3] at h
    have := (fctG_zero l none h).1 f hf
    exact ⟨this.2.1, this.2.2.1, this.2.2.2.2⟩
theorem expG_len {f : Nat → ByteArray} {t : ByteArray} (hf : ∀ u, (f u).size ≤ 200) : ∀ (g i : Nat), (expG f t g i).length ≤ 200 * (t.size - i)
  | 0, i => Nat.zero_le _
  | g + 1, i => by
    unfold expG
    by_cases hi : i < t.size
    · rw [if_pos hi]
      by_cases hc : t.data.toList.getD i 0 = 91 ∧ 0 < (unitF (t.extract i t.size)).2
      · rw [if_pos hc, List.length_append, ← Lib.size_eq]
        have h1 := hf (unitF (t.extract i t.size)).1
        have h2 := expG_len (t := t) hf g (i + (unitF (t.extract i t.size)).2)
        omega
      · rw [if_neg hc, List.length_cons]
        have h2 := expG_len (t := t) hf g (i + 1)
        omega
    · rw [if_neg hi]; exact Nat.zero_le _
theorem labG_zero {ls : List ByteArray} : ∀ (r : List Label) (p : Option Label), labG ls p r = 0 → ∀ x ∈ r, x.text.size ≤ 64
  | [], _, _ => by simp
  | y :: r, p, h => by
    rw [labG_cons] at h
    by_cases h0 : labF ls p y = 0
    · rw [if_pos h0] at h
      intro x hx
      rcases List.mem_cons.1 hx with rfl | hx
      · unfold labF at h0
        split at h0
        · cases h0
        · split at h0
          · cases h0
          · split at h0
            · cases h0
            · omega
      · exact labG_zero r _ h x hx
    · rw [if_neg h0] at h
      exact absurd h h0
theorem nameP_size (ord : List ByteArray) (e : Int) : ∀ (l : List Label) (t : ByteArray) (b : Int), t.size ≤ 64 → (∀ x ∈ l, x.text.size ≤ 64) → (nameP ord e t b l).size ≤ 64
  | [], t, b, ht, _ => ht
  | x :: r, t, b, ht, hl => by
    rw [nameP_cons]
    split
    · exact nameP_size ord e r _ _ (hl x List.mem_cons_self) (fun y hy => hl y (List.mem_cons_of_mem _ hy))
    · exact nameP_size ord e r _ _ ht (fun y hy => hl y (List.mem_cons_of_mem _ hy))
theorem nameF_size {c : Cat} (h : catE c = 0) (ord : List ByteArray) {e : Nat} (he : e < 100) : (nameF ord c.labels e).size ≤ 64 := by
  have h2 := (catE_zero h).2.1
  unfold labE at h2
  split at h2
  · cases h2
  · refine nameP_size ord e _ _ _ ?_ (labG_zero _ _ h2)
    unfold elemS
    have := digits_le he
    rw [ByteArray.size_append]
    show 8 + _ ≤ 64
    omega
set_option maxRecDepth 100000 in
set_option maxHeartbeats 8000000 in
theorem section_c (c : Cat) (s : Sheet) (n : ByteArray) (ord : List ByteArray) (v1 v2 v3 vf vo : Value) (w : World) (B : Nat) (hB : B ≤ w.heap.size) (h : CatRep w B c v1 v2 v3) (hf : Facts w B s.facts vf) (ho : Strs w B ord vo) (h0 : catE c = 0) (hs : s ∈ c.sheets) (hn : n.size ≤ 60) (hS : SynOk w) :
    Calls Tryd.prog 40 #[.agg #[v1, v2, v3], .agg #[.int .i64 s.unit, .int .i64 s.parent, .int .i64 s.level, .string s.mark, .string s.title, vf], .string n, vo] w fun e w' => ∃ vN, e = .returned (.agg #[.int .i64 s.unit, .string n, vN]) ∧ OwnRep 3 (flat Node.enc) 30 w.heap.size w' (secF c ord s n).nodes vN ∧ Below w.heap.size w w' := by
  obtain ⟨Af, cf, rfl, -⟩ := id hf
  obtain ⟨Ao, co, rfl, -⟩ := id ho
  obtain ⟨⟨-, -, hl1, hl4⟩, ⟨hk64, -, ht64⟩, hfe⟩ := (catE_zero h0).2.2.2 s hs
  have HCN := Lib.hid (fun (W : World) => show Calls Tryd.prog 16 #[.string n, .string ⟨#[46]⟩] W fun e w' => e = .returned (.int .i64 (pntN n)) ∧ w' = W from Tryd.strings_Count_one n 46 W)
  have HL := Lib.hid (And.intro hl1 hl4)
  have hlv0 : 0 ≤ s.level := by omega
  have hlv5 : s.level < 5 := by omega
  have hq1 : ¬ 9223372036854775807 < n.size + 1 := by omega
  have hq2 : ¬ 9223372036854775807 < n.size + 1 + s.title.size := by omega
  have hq3 : (n ++ ⟨#[32]⟩).size = n.size + 1 := by rw [ByteArray.size_append]; rfl
  clear hl1 hl4
  go_enter Tryd.func40, Tryd.ntmps40
  go_wp2_with fail
  refine (HCN.out _).mono ?_
  rintro e w1 ⟨rfl, rfl⟩
  go_wp2
  have HS := SecW.make w v1 v2 v3 (.slice Af s.facts.length cf) s
  generalize ((((w.alloc (catC v1 v2 v3)).alloc (shtC s (.slice Af s.facts.length cf))).alloc secZ).alloc tagsC) = W4 at *
  obtain ⟨y0, y2, y4, yt⟩ := HS.keep HL.out (Below.refl _ _)
  have KEEP := Lib.hid (fun (W : World) (hW : Below W4.heap.size W4 W) => HS.keep HL.out hW)
  have kb0 : Below W4.heap.size W4 W4.drew := (Below.refl _ _).drew
  have kb1 : ∀ o, Below W4.heap.size W4 (W4.alloc o).drew := fun o => ((Below.refl _ _).alloc (Nat.le_refl _) o).drew
  have kb2 : ∀ o o', Below W4.heap.size W4 ((W4.alloc o).alloc o').drew := fun o o' => (((Below.refl _ _).alloc (Nat.le_refl _) o).alloc (by simp) o').drew
  have HSW := Lib.hid HS
  clear HS
  go_cut [11] (fun s11 W => ∃ go v, s11 = .pointer (some ⟨go, 0, none⟩) ∧ SecAt w v1 v2 v3 (.slice Af s.facts.length cf) s n go v [headN s n] W)
  case first =>
    go_region_held3 (fun W => W.cell? ⟨w.heap.size + 1, 0, none⟩ = some (.int .i64 s.unit) ∧ W.cell? ⟨w.heap.size + 1, 2, none⟩ = some (.int .i64 s.level) ∧ W.cell? ⟨w.heap.size + 1, 4, none⟩ = some (.string s.title) ∧ W.cell? ⟨w.heap.size + 1 + 1 + 1, s.level.toNat, none⟩ = some (.string (tagF s.level))) (first | with_reducible exact KEEP.out _ kb0 | with_reducible exact KEEP.out _ (kb1 _) | with_reducible exact KEEP.out _ (kb2 _ _)) (fail)
    all_goals (go_wp2_with fail; go_meet)
    all_goals first | exact ⟨_, _, rfl, SecAt.start1 n HSW.out (headN s n)⟩ | exact ⟨_, _, rfl, SecAt.start2 n HSW.out (headN s n)⟩
  case rest =>
    obtain ⟨go, v, rfl, hsec⟩ := hcut
    clear y0 y2 y4 yt KEEP kb0 kb1 kb2 HSW hq1 hq2 hq3 hlv0 hlv5
    have y3 : wc.cell? ⟨w.heap.size + 1, 3, none⟩ = some (.string s.mark) := by rw [Lib.cell_of_heap hsec.sb]; rfl
    have HSEC := Lib.hid hsec
    clear hsec
    go_upto_if 36 with fail
    go_cut [] (fun W => ∃ v, SecAt w v1 v2 v3 (.slice Af s.facts.length cf) s n go v (headN s n :: markN s n) W)
    case first =>
      by_cases hm : s.mark = ⟨#[]⟩
      · have hm1 : s.mark.toList.isEmpty = true := by rw [str_empty, hm]; rfl
        have HE := Lib.hid (show [headN s n] = headN s n :: markN s n by unfold markN; rw [if_pos hm])
        clear hm
        rw [hm1]
        go_wp2_with fail
        go_meet
        exact ⟨_, by rw [← HE.out]; exact HSEC.out⟩
      · have hm1 : s.mark.toList.isEmpty = false := by
          rw [str_empty, decide_eq_false_iff_not]
          intro e
          exact hm (ByteArray.ext (Array.eq_empty_of_size_eq_zero e))
        have HE := Lib.hid (show [headN s n] ++ [⟨pntN n + 1, markT, s.mark⟩] = headN s n :: markN s n by unfold markN; rw [if_neg hm]; rfl)
        clear hm
        rw [hm1]
        have hsec := HSEC.out
        obtain ⟨g, cap, rfl, hgb, hgl, hcp1, hcp2⟩ := own_ptr hsec.row (n := 1) rfl (by omega)
        obtain ⟨c2, f2, gl⟩ := hsec.cells
        have sl := heap_lt hsec.sb
        obtain ⟨hp0, hp1⟩ := pntN_le n
        have hw1 : IntKind.i64.wrap (pntN n + 1) = pntN n + 1 := IntWalk.i64_in _ (by omega)
        have bx := (Below.refl wc.heap.size wc).alloc (Nat.le_refl _) (nodC ⟨pntN n + 1, markT, s.mark⟩)
        have hsx := hsec.call bx
        have hlo := hsec.row.own_lt
        clear hsec
        go_wp2_with (at_builtin; refine stop_intro ?_)
        refine stop_elim ?_
        have sF : ∀ b, (False ∨ b = wc.heap.size) → b < (wc.alloc (.cells (Node.enc ⟨pntN n + 1, markT, s.mark⟩).toArray 30)).heap.size ∧ (.slice (some ⟨g, 0, none⟩) 1 cap : Value).ownBlock ≠ some b := fun b hb => by
          rcases hb with hb | rfl
          · exact hb.elim
          · exact ⟨by simp, fun e => by have := (hlo _ e).2; omega⟩
        refine wpList_append_rep (xs := [headN s n]) rfl nodS nodE_ (w.heap.size + 3) (.tmp 38) (.tmp 44) rfl rfl hsx.row rfl (ys := [⟨pntN n + 1, markT, s.mark⟩]) (SlRep.one_new nodS (w := wc) (F := fun _ => False) (x := ⟨pntN n + 1, markT, s.mark⟩) (cs := Node.enc ⟨pntN n + 1, markT, s.mark⟩) rfl rfl (fun b hb => hb.elim)) sF (by simp) (by decide) (by simp; omega) ?_
        intro v6 w6 hown6 hg6' hat6'
        have hg6 : (wc.alloc (nodC ⟨pntN n + 1, markT, s.mark⟩)).grownBy w6 (.slice (some ⟨g, 0, none⟩) 1 cap : Value).ownBlock := hg6'
        have hat6 : v6.ownBlock = (.slice (some ⟨g, 0, none⟩) 1 cap : Value).ownBlock ∨ v6.ownBlock = some (wc.alloc (nodC ⟨pntN n + 1, markT, s.mark⟩)).heap.size := hat6'
        clear hg6' hat6'
        have hsec6 := hsx.app hown6 hg6 hat6
        have hgc := hg6.size
        obtain ⟨A6, c6, rfl, -⟩ := id (hown6.toSl nodS)
        have d2 : w6.cell? ⟨go, 2, none⟩ = some (.slice (some ⟨g, 0, none⟩) 1 cap) := (cell_grown hg6 (by simp; omega) (fun e => hsx.ne e.symm)).trans hsx.cells.1
        have d3 : w6.frozen? ⟨go, 2, none⟩ = false := Lib.frozen_of_heap ((hg6.block go (by simp; omega) (fun e => hsx.ne e.symm)).trans hsx.blk) 2
        clear c2 f2 hsx bx y3 sF hlo
        go_wp2_with fail
        go_meet
        exact ⟨_, by rw [← HE.out]; exact hsec6⟩
    case rest =>
      obtain ⟨v5, hsec5⟩ := hcut
      clear HSEC y3
      have hb5 := hsec5.below
      have y5 : wc.cell? ⟨w.heap.size + 1, 5, none⟩ = some (.slice Af s.facts.length cf) := by rw [Lib.cell_of_heap hsec5.sb]; rfl
      have HCH := Lib.hid (choose_c s.facts ord (.slice Af s.facts.length cf) (.slice Ao ord.length co) wc B (Nat.le_trans hB hb5.size) (hf.below fctS (hb5.mono hB)) ((ho.below strS (hb5.mono hB)).mono strS (Nat.le_trans hB hb5.size)) (fctE_len hfe))
      have HSEC := Lib.hid hsec5
      clear hsec5
      go_wp2_with fail
      refine HCH.out.mono ?_
      rintro e w1 ⟨vq, rfl, hown1, hb1⟩
      have hsec := HSEC.out.call hb1
      have HSG := Lib.hid (heap_lt HSEC.out.blk)
      have HSO := Lib.hid (fun b hb => (HSEC.out.row.own_lt b hb).2)
      have hcs := hown1.toSl fctS
      clear HCH HSEC y5
      obtain ⟨Aq, cq, rfl, hq1, hq2, -⟩ := id hcs
      have HQF := Lib.hid (fun (f : Fact) (hf : f ∈ chooseF ord s.facts) => fctE_mem hfe (choose_mem hf))
      obtain ⟨qs, hqs⟩ : ∃ qs, chooseF ord s.facts = qs := ⟨_, rfl⟩
      have hq32 : (chooseF ord s.facts).length ≤ 32 := Nat.le_trans (by have := chooseG_len ord s.facts []; rw [List.length_nil, Nat.zero_add] at this; exact this) (fctE_len hfe)
      rw [hqs] at hown1 hcs hq1 HQF hq32
      rw [hqs]
      have HQS := Lib.hid (show (secF c ord s n).nodes = headN s n :: markN s n ++ qs.map (parN c ord n) by unfold secF; rw [hqs])
      clear hqs
      have HR := Lib.hid (show headN s n :: markN s n = headN s n :: markN s n ++ (qs.take 0).map (parN c ord n) by simp)
      have HQ0 := Lib.hid ((hown1.toFlat fctS).monoF fctS (fun b hb => hown1.own_lt b hb))
      have hgo : go < wc.heap.size := by have := HSG.out; exact this
      go_wp2
      go_loopw [52] (fun v52 wr => ∃ (k : Nat) (v' : Value), k ≤ qs.length ∧ v52 = .int .i64 k ∧ SecAt w v1 v2 v3 (.slice Af s.facts.length cf) s n go v' (headN s n :: markN s n ++ (qs.take k).map (parN c ord n)) wr ∧ SlRep 3 (flat Fact.enc) wr (fun b => wc.heap.size ≤ b ∧ b < w1.heap.size) qs (.slice Aq qs.length cq) ∧ w1.heap.size ≤ wr.heap.size ∧ (∀ b, v'.ownBlock = some b → b < wc.heap.size ∨ w1.heap.size ≤ b)) (fun v52 _ => qs.length - (intOf v52).toNat)
      case atStart => exact ⟨0, v5, Nat.zero_le _, rfl, by rw [← HR.out]; exact hsec, HQ0.out, Nat.le_refl _, fun b hb => .inl (HSO.out b hb)⟩
      case round =>
        clear HR HQ0 hsec hown1 hcs
        obtain ⟨k, v', hk, rfl, hsec, hqr, hsz, hvo⟩ := hrel
        by_cases hlt : k < qs.length
        · obtain ⟨x, hx⟩ := get_at qs hlt
          have HX := Lib.hid (show (qs.take (k + 1)).map (parN c ord n) = (qs.take k).map (parN c ord n) ++ [parN c ord n x] by rw [take_at hx, List.map_append]; rfl)
          obtain ⟨hx1, hx2, hx3⟩ := HQF.out x (List.mem_of_getElem? hx)
          obtain ⟨el, hel⟩ := Int.eq_ofNat_of_zero_le (show 0 ≤ x.el by omega)
          obtain ⟨b, off, rfl, hbB, g0, g1, g2⟩ := Facts.at_ hqr hx
          have hbw : b < wr.heap.size := by have := hbB.2; omega
          have bx := (Below.refl wr.heap.size wr).alloc (Nat.le_refl _) (fctC x)
          have hvl : ∀ b, v'.ownBlock = some b → b < wr.heap.size := fun b hb => (hsec.row.own_lt b hb).2
          have hsx := hsec.call bx
          have hbx := hsx.below
          have HFD := Lib.hid (show fctC x = fctC x from rfl)
          have HSX := Lib.hid hsx
          have HSY := Lib.hid (hS.below hS.1 hsx.below)
          have HCZ := Lib.hid (fun u => citeF_size h0 u)
          have HEX := Lib.hid (expand_c (fun u => citeF c.sheets u) (.pointer (some ⟨w.heap.size, 0, none⟩)) x.text (wr.alloc (fctC x)) hx3 HSY.out (fun u => HCZ.out u) (fun u W hW => by
            have hc := HSX.out.call hW
            have hbW := hc.below
            exact cites_c c u w.heap.size v1 v2 v3 W B (Nat.le_trans hB hbW.size) (h.sheets.below shtS (hbW.mono hB)) h0 (by rw [Lib.cell_of_heap hc.cb]; rfl) (by rw [Lib.cell_of_heap hc.cb]; rfl) (by rw [Lib.cell_of_heap hc.cb]; rfl)))
          have HNA := Lib.hid (fun (W : World) (hW : Below (wr.alloc (fctC x)).heap.size (wr.alloc (fctC x)) W) => name_c c el ord v1 v2 v3 (.slice Ao ord.length co) W B (Nat.le_trans hB (hbx.trans (hW.mono hbx.size)).size) (h.labels.below labS ((hbx.trans (hW.mono hbx.size)).mono hB)) ((ho.below strS ((hbx.trans (hW.mono hbx.size)).mono hB)).mono strS (Nat.le_trans hB (hbx.trans (hW.mono hbx.size)).size)) (by omega))
          rw [← hel] at HNA
          have hnz := nameF_size h0 ord (e := el) (by omega)
          have htz : (⟨(expF (fun u => citeF c.sheets u) x.text).toArray⟩ : ByteArray).size ≤ 819200 := by
            show (expF (fun u => citeF c.sheets u) x.text).toArray.size ≤ 819200
            rw [List.size_toArray]
            have := expG_len (f := fun u => citeF c.sheets u) (t := x.text) (fun u => HCZ.out u) x.text.size 0
            unfold expF
            omega
          have HXT := Lib.hid (show parN c ord n x = ⟨pntN n + 1, parT, nameF ord c.labels el ++ ⟨#[58, 32]⟩ ++ ⟨(expF (fun u => citeF c.sheets u) x.text).toArray⟩⟩ by unfold parN textF; rw [hel]; rfl)
          generalize nameF ord c.labels el = nm at *
          generalize (⟨(expF (fun u => citeF c.sheets u) x.text).toArray⟩ : ByteArray) = tx at *
          have hq1 : ¬ 9223372036854775807 < nm.size + 2 := by omega
          have hq2 : ¬ 9223372036854775807 < nm.size + 2 + tx.size := by omega
          have hq3 : (nm ++ ⟨#[58, 32]⟩).size = nm.size + 2 := by rw [ByteArray.size_append]; rfl
          obtain ⟨hp0, hp1⟩ := pntN_le n
          have hw1 : IntKind.i64.wrap (pntN n + 1) = pntN n + 1 := IntWalk.i64_in _ (by omega)
          clear hsx hx hx3 hsec hel
          go_wp2_with fail
          refine HEX.out.mono ?_
          rintro e w2 ⟨rfl, hb2⟩
          have hsec2 := HSX.out.call hb2
          have hs2 := hb2.size
          simp only [World.size_alloc] at hs2
          have hbX : Below w2.heap.size w2 w2.drew := (Below.refl _ _).drew
          have HS2 := Lib.hid hsec2
          have HVL := Lib.hid (fun b hb => (hsec2.row.own_lt b hb))
          have HX0 := Lib.hid (show w2.cell? ⟨wr.heap.size, 0, none⟩ = some (.int .i64 x.el) from (hb2.cell (p := ⟨wr.heap.size, 0, none⟩) (by simp)).trans (by simp))
          have KEEP := Lib.hid (fun (W : World) (hW : Below w2.heap.size w2 W) => (by
            have hc := HS2.out.call hW
            exact ⟨hc.cells.1, by rw [Lib.cell_of_heap hc.cb]; rfl, by rw [Lib.cell_of_heap hc.cb]; rfl, by rw [Lib.cell_of_heap hc.cb]; rfl, (hW.cell (p := ⟨wr.heap.size, 0, none⟩) (by show wr.heap.size < _; omega)).trans HX0.out⟩ : W.cell? ⟨go, 2, none⟩ = some v' ∧ W.cell? ⟨w.heap.size, 0, none⟩ = some v1 ∧ W.cell? ⟨w.heap.size, 1, none⟩ = some v2 ∧ W.cell? ⟨w.heap.size, 2, none⟩ = some v3 ∧ W.cell? ⟨wr.heap.size, 0, none⟩ = some (.int .i64 x.el)))
          have HVR := Lib.hid hvl
          have KEEPG := Lib.hid (fun (W0 W : World) (hW : Below w2.heap.size w2 W0) (hg : W0.grownBy W v'.ownBlock) => (by
            obtain ⟨k0, k1, k2, k3, k4⟩ := KEEP.out W0 hW
            have hc := HS2.out.call hW
            have hlo := hc.row.own_lt
            exact ⟨(cell_grown hg hc.cells.2.2 (fun e => hc.ne e.symm)).trans k0, (cell_grown hg (heap_lt hc.cb) (fun e => by have := (hlo _ e.symm).1; have : w.heap.size + 3 ≤ w.heap.size := this; omega)).trans k1, (cell_grown hg (heap_lt hc.cb) (fun e => by have : w.heap.size + 3 ≤ w.heap.size := (hlo _ e.symm).1; omega)).trans k2, (cell_grown hg (heap_lt hc.cb) (fun e => by have : w.heap.size + 3 ≤ w.heap.size := (hlo _ e.symm).1; omega)).trans k3, (cell_grown hg (by show wr.heap.size < _; have := hW.size; omega) (fun e => by have : wr.heap.size < wr.heap.size := HVR.out _ e.symm; omega)).trans k4⟩ : W.cell? ⟨go, 2, none⟩ = some v' ∧ W.cell? ⟨w.heap.size, 0, none⟩ = some v1 ∧ W.cell? ⟨w.heap.size, 1, none⟩ = some v2 ∧ W.cell? ⟨w.heap.size, 2, none⟩ = some v3 ∧ W.cell? ⟨wr.heap.size, 0, none⟩ = some (.int .i64 x.el)))
          have kN : (headN s n :: markN s n ++ (qs.take k).map (parN c ord n)).length + [(pN n nm tx : Node)].length ≤ 4294967296 := by
            have : (markN s n).length ≤ 1 := by unfold markN; split <;> simp
            simp
            omega
          obtain ⟨p0, p1, p2, p3, p4⟩ := KEEP.out _ hbX
          have HKR := Lib.hid (show SlRep 3 (flat Fact.enc) w2 (fun b => wc.heap.size ≤ b ∧ b < w1.heap.size) qs (.slice (some ⟨b, off, none⟩) qs.length cq) from hqr.frame fctS (fun b' hb' => ((hb2.block b' (by have := hb'.2; simp; omega)).trans (Below.heap_alloc _ _ _ (by have := hb'.2; omega)))))
          have HVO := Lib.hid hvo
          have kQ : w1.heap.size ≤ w2.heap.size := by omega
          obtain ⟨LL, hLL⟩ : ∃ LL, headN s n :: markN s n ++ (qs.take k).map (parN c ord n) ++ [pN n nm tx] = LL := ⟨_, rfl⟩
          have HLL := Lib.hid hLL
          clear hLL
          go_wp2
          go_region_law (first
            | (refine step_append_rep rfl nodS nodE_ _ (.tmp 61) (.tmp 73) rfl rfl hA.row rfl (ys := [pN n nm tx]) kS kF kN (by decide) kB ?_; intro v6 w6 hown6 hg6 hat6; have hk6 := (KEEPG.out _ w6 hbA hg6).1; have hA6 := hA.app hown6 hg6 hat6; have hz6 := hA.frz hg6; have hq6 := qs_keep HKR.out hbA hg6 HVO.out hat6 kQ; rw [HLL.out] at hown6 hA6; obtain ⟨A6, c6, rfl, -⟩ := id (hown6.toSl nodS))
            | (go_simp; go_at_call 54; (with_reducible refine (HNA.out _ (hb2.trans (hbX.mono hb2.size))).mono ?_); rintro e w3 ⟨rfl, hb3⟩; have hbX := hbX.trans (hb3.mono hbX.size); have hbA := hbX.alloc hbX.size (nodC (pN n nm tx)); have hA := HS2.out.call hbA; have kB := hA.base_; have kS := one_lay w3 (pN n nm tx); have kF := fun b hb => one_off (o := nodC (pN n nm tx)) HVL.out hbX b hb; have r0 := (KEEP.out _ hbX).1; have r1 := (KEEP.out _ hbA).1))
          all_goals (go_wp2; go_roundw)
          all_goals first
            | exact ⟨k + 1, _, by omega, by go_num, by rw [HX.out, ← List.append_assoc, HXT.out]; rw [show ([⟨pntN n + 1, parT, nm ++ ⟨#[58, 32]⟩ ++ tx⟩] : List Node) = [pN n nm tx] from rfl, HLL.out]; exact hA6, hq6.1.frame fctS (fun b' hb' => Below.heap_setCell _ _ _ _ (by have := hb'.1; show b' ≠ go; omega)), by simpa [World.setCell] using hq6.2.1, hq6.2.2⟩
            | (simp [intOf]; omega)
        · have HE := Lib.hid (show (qs.take k).map (parN c ord n) = qs.map (parN c ord n) by rw [List.take_of_length_le (by omega)])
          rw [HE.out, ← HQS.out] at hsec
          obtain ⟨c2, -, gl⟩ := hsec.cells
          have c0 : wr.cell? ⟨go, 0, none⟩ = some (.int .i64 s.unit) := by rw [Lib.cell_of_heap hsec.blk]; rfl
          have c1 : wr.cell? ⟨go, 1, none⟩ = some (.string n) := by rw [Lib.cell_of_heap hsec.blk]; rfl
          have hrow := hsec.row
          have hbl := hsec.below
          have e0 : wr.cell? ⟨w.heap.size + 1 + 1, 0, none⟩ = some (.int .i64 0) := by rw [Lib.cell_of_heap hsec.rb]; rfl
          have e1 : wr.cell? ⟨w.heap.size + 1 + 1, 1, none⟩ = some (.string ⟨#[]⟩) := by rw [Lib.cell_of_heap hsec.rb]; rfl
          have e2 : wr.cell? ⟨w.heap.size + 1 + 1, 2, none⟩ = some (.slice none 0 0) := by rw [Lib.cell_of_heap hsec.rb]; rfl
          have f0 : wr.frozen? ⟨w.heap.size + 1 + 1, 0, none⟩ = false := Lib.frozen_of_heap hsec.rb 0
          have f1 : wr.frozen? ⟨w.heap.size + 1 + 1, 1, none⟩ = false := Lib.frozen_of_heap hsec.rb 1
          have f2 : wr.frozen? ⟨w.heap.size + 1 + 1, 2, none⟩ = false := Lib.frozen_of_heap hsec.rb 2
          have hl0 := heap_lt hsec.rb
          obtain ⟨AN, cN, rfl, -⟩ := id (hrow.toSl nodS)
          have HRW := Lib.hid (fun (a b c : Value) => (hrow.keep (w' := ((wr.setCell ⟨w.heap.size + 1 + 1, 0, none⟩ a).setCell ⟨w.heap.size + 1 + 1, 1, none⟩ b).setCell ⟨w.heap.size + 1 + 1, 2, none⟩ c) (fun b' hb' => by
            have hne : b' ≠ w.heap.size + 1 + 1 := by have := (hrow.own_lt b' hb').1; omega
            rw [Below.heap_setCell _ _ _ _ hne, Below.heap_setCell _ _ _ _ hne, Below.heap_setCell _ _ _ _ hne])).base_le (Nat.le_add_right _ 3))
          clear hsec hrow
          go_wp2
          refine bodyPost_ret (v := .agg #[.int .i64 s.unit, .string n, .slice AN (secF c ord s n).nodes.length cN]) (by simp [results, Tryd.results40, go_sem, e0, e1, e2]) rfl ⟨_, rfl, HRW.out _ _ _, ((hbl.setCell (by show w.heap.size ≤ w.heap.size + 1 + 1; omega) _).setCell (by show w.heap.size ≤ w.heap.size + 1 + 1; omega) _).setCell (by show w.heap.size ≤ w.heap.size + 1 + 1; omega) _⟩
end Go.Proofs.YtbmlnflacdockaaDoor
