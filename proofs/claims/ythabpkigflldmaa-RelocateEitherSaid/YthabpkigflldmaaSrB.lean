/- What a round of search holds. -/
import Derived.Test.YthabpkigflldmaaSrA
namespace Go.Proofs.Ythabpkigflldmaa
open Go.RowKit

def fuelN : Nat := 4097
def reachF (ls : List Shelf) (bs : List Box) (s : List Int) : Rows := bfs (nbrF ls bs) fuelN 0 [(s, [])]
/-- what is known of the search when k states have been worked on -/
structure KGood (ls : List Shelf) (bs : List Box) (s0 : List Int) (gk k : Nat) (out : Rows) : Prop where
  inv : KInv ltC (nbrF ls bs) s0 k out
  good : ∀ e ∈ out, Good ls bs e.1
  eq : reachF ls bs s0 = bfs (nbrF ls bs) gk k out
  num : gk + k = fuelN
structure BGood (ls : List Shelf) (bs : List Box) (s0 : List Int) (gk k j : Nat) (s : List Int) (p : List Carry) (out : Rows) : Prop where
  inv : BInv ltC (nbrF ls bs) s0 k s p ((nbrF ls bs s).take j) out
  good : ∀ e ∈ out, Good ls bs e.1
  eq : reachF ls bs s0 = bfs (nbrF ls bs) gk (k + 1) (expand p ((nbrF ls bs s).drop j) out)
  num : gk + (k + 1) = fuelN
section
variable {ls : List Shelf} {bs : List Box} {s0 : List Int} {gk k j : Nat} {s : List Int} {p : List Carry} {out : Rows}
theorem KGood.start (hg : Good ls bs s0) : KGood ls bs s0 fuelN 0 [(s0, [])] :=
  ⟨KInv.start _ _, fun e he => by simp at he; subst he; exact hg, rfl, by simp⟩
theorem KGood.few (hst : startE ls bs = 0) (h : KGood ls bs s0 gk k out) : out.length ≤ 4096 := by
  have := right_few hst (out.map Prod.fst) h.inv.nodup (fun x hx => by
    obtain ⟨e, he, rfl⟩ := List.mem_map.1 hx
    exact (h.good e he).1)
  simpa using this
theorem BGood.few (hst : startE ls bs = 0) (h : BGood ls bs s0 gk k j s p out) : out.length ≤ 4096 := by
  have := right_few hst (out.map Prod.fst) h.inv.nodup (fun x hx => by
    obtain ⟨e, he, rfl⟩ := List.mem_map.1 hx
    exact (h.good e he).1)
  simpa using this
theorem KGood.open_ (hst : startE ls bs = 0) (h : KGood ls bs s0 gk k out) (hk : out[k]? = some (s, p)) : ∃ g', gk = g' + 1 ∧ BGood ls bs s0 g' k 0 s p out := by
  have hf := h.few hst
  have hkl := lt_of_at hk
  have hn := h.num
  obtain ⟨g', rfl⟩ : ∃ g', gk = g' + 1 := ⟨gk - 1, by unfold fuelN at hn; omega⟩
  refine ⟨g', rfl, ⟨h.inv.in_ hk, h.good, ?_, by omega⟩⟩
  rw [h.eq, bfs, hk]
  rfl
theorem KGood.done (h : KGood ls bs s0 gk k out) (hk : out.length ≤ k) : reachF ls bs s0 = out ∧ Found ltC (nbrF ls bs) s0 out := by
  refine ⟨?_, h.inv.done ltC_trans hk⟩
  rw [h.eq]
  cases gk with
  | zero => rfl
  | succ g => simp only [bfs]; rw [List.getElem?_eq_none hk]
theorem BGood.close (h : BGood ls bs s0 gk k j s p out) (hj : (nbrF ls bs s).length ≤ j) : KGood ls bs s0 gk (k + 1) out := by
  have h1 := h.inv
  rw [List.take_of_length_le hj] at h1
  refine ⟨h1.out_, h.good, ?_, h.num⟩
  rw [h.eq, List.drop_of_length_le hj]
  rfl
theorem BGood.old (hst : startE ls bs = 0) (h : BGood ls bs s0 gk k j s p out) {c : Carry} {x : List Int} (hj : (nbrF ls bs s)[j]? = some (c, x)) (hx : x ∈ out.map Prod.fst) : BGood ls bs s0 gk k (j + 1) s p out := by
  have hd := drop_at hj
  have he : expand p ((nbrF ls bs s).drop j) out = expand p ((nbrF ls bs s).drop (j + 1)) out := by rw [hd, expand, if_pos hx]
  refine ⟨?_, h.good, by rw [h.eq, he], h.num⟩
  have := expand_one (nbrF ls bs) s0 k s p (nbr_asc hst s) h.inv (List.take_append_drop j _).symm hd
  rw [if_pos hx, ← take_at hj] at this
  exact this
theorem BGood.new (hst : startE ls bs = 0) (h : BGood ls bs s0 gk k j s p out) {c : Carry} {x : List Int} (hj : (nbrF ls bs s)[j]? = some (c, x)) (hx : x ∉ out.map Prod.fst) : BGood ls bs s0 gk k (j + 1) s p (out ++ [(x, p ++ [c])]) := by
  have hd := drop_at hj
  have he : expand p ((nbrF ls bs s).drop j) out = expand p ((nbrF ls bs s).drop (j + 1)) (out ++ [(x, p ++ [c])]) := by rw [hd, expand, if_neg hx]
  have hs : Good ls bs s := h.good (s, p) (List.mem_of_getElem? h.inv.cur)
  refine ⟨?_, ?_, by rw [h.eq, he], h.num⟩
  · have := expand_one (nbrF ls bs) s0 k s p (nbr_asc hst s) h.inv (List.take_append_drop j _).symm hd
    rw [if_neg hx, ← take_at hj] at this
    exact this
  · intro e he
    rw [List.mem_append] at he
    rcases he with he | he
    · exact h.good e he
    · simp at he
      subst he
      exact nbr_good hst hs (List.mem_of_getElem? hj)
theorem BGood.len (hst : startE ls bs = 0) (h : BGood ls bs s0 gk k j s p out) : p.length ≤ 4096 := by
  have h1 := h.inv.short k s p h.inv.cur
  have h2 := h.few hst
  have h3 := lt_of_at h.inv.cur
  omega
end
/-- what a round holds of its own data -/
structure RInv (bm : Nat) (q : Value) (gx : Nat) (pa pp v37 : Value) (s : List Int) (p st : List Carry) (wi : World) : Prop where
  fr : Fr wi bm q gx
  c0 : wi.cell? ⟨gx, 0, none⟩ = some pa
  c1 : wi.cell? ⟨gx, 1, none⟩ = some pp
  rs : SlRep 1 (flat intEnc) wi (Fr wi bm q) s pa
  rp : SlRep 3 (flat Carry.enc) wi (Fr wi bm q) p pp
  rt : SlRep 3 (flat Carry.enc) wi (Fr wi bm q) st v37
theorem RInv.moves {bm : Nat} {q q' : Value} {gx : Nat} {pa pp v37 : Value} {s : List Int} {p st : List Carry} {wi wi' : World} (hm : Moves bm q wi q' wi') (h : RInv bm q gx pa pp v37 s p st wi) : RInv bm q' gx pa pp v37 s p st wi' :=
  ⟨hm.fr _ h.fr, (World.cell?_of_block (a := ⟨gx, 0, none⟩) (hm.same _ h.fr)).trans h.c0, (World.cell?_of_block (a := ⟨gx, 1, none⟩) (hm.same _ h.fr)).trans h.c1, h.rs.moves inS hm, h.rp.moves caS hm, h.rt.moves caS hm⟩
theorem apart_le {F : Nat → Prop} {n m : Nat} {v : Value} (h : ∀ b, F b → b < n ∧ v.ownBlock ≠ some b) (hm : n ≤ m) : ∀ b, F b → b < m ∧ v.ownBlock ≠ some b := fun b hb => ⟨Nat.lt_of_lt_of_le (h b hb).1 hm, (h b hb).2⟩
theorem one_apart {base : Nat} {W : World} {xs : List Carry} {v : Value} {o : Obj} (h : OwnRep 3 (flat Carry.enc) 57 base W xs v) : ∀ b, (False ∨ b = W.heap.size) → b < (W.alloc o).heap.size ∧ v.ownBlock ≠ some b := by
  rintro b (hb | rfl)
  · exact hb.elim
  · exact ⟨by simp, fun e => by have := (h.own_lt _ e).2; omega⟩
theorem clone_apart {F : Nat → Prop} {n m base : Nat} {W : World} {xs : List Carry} {v : Value} (h : OwnRep 3 (flat Carry.enc) 57 base W xs v) (hF : ∀ b, F b → b < n) (h1 : n ≤ base) (h2 : n ≤ m) : ∀ b, F b → b < m ∧ v.ownBlock ≠ some b := by
  intro b hb
  have := hF b hb
  exact ⟨by omega, fun e => by have := (h.own_lt _ e).1; omega⟩
theorem one_lt {W : World} {o : Obj} : ∀ b, (False ∨ b = W.heap.size) → b < (W.alloc o).heap.size := by
  rintro b (hb | rfl)
  · exact hb.elim
  · simp
theorem grown_of {B bm : Nat} {wZ W wM : World} (hb : Below B wZ W) (hB : B = wZ.heap.size) (hg : W.grownBy wM (some bm)) : wZ.grownBy wM (some bm) := by
  subst hB
  exact ⟨hg.os.trans hb.os, hg.tape.trans hb.tape, hg.output.trans hb.output, Nat.le_trans hb.size hg.size, fun k hk hne => (hg.block k (Nat.lt_of_lt_of_le hk hb.size) hne).trans (hb.block k hk)⟩
end Go.Proofs.Ythabpkigflldmaa
