/- What a round of search holds. -/
import Derived.Test.YthabpkigflldmaaKey
import Derived.Test.YthabpkigflldmaaQue
import Derived.Test.YthabpkigflldmaaMaps
namespace Go.Proofs.Ythabpkigflldmaa
open Go.RowKit

/-- blocks that are neither the map nor the queue -/
def Fr (wr : World) (bm : Nat) (q : Value) (b : Nat) : Prop := b < wr.heap.size ∧ b ≠ bm ∧ q.ownBlock ≠ some b
structure Moves (bm : Nat) (q : Value) (wr : World) (q' : Value) (wr' : World) : Prop where
  fr : ∀ b, Fr wr bm q b → Fr wr' bm q' b
  same : ∀ b, Fr wr bm q b → wr'.heap[b]? = wr.heap[b]?
section
variable {bm : Nat} {q q' : Value} {wr wr' : World}
theorem SlRep.moves {α : Type} {k : Nat} {R : CRep α} (hR : Shape k R) {xs : List α} {v : Value} (hm : Moves bm q wr q' wr') (h : SlRep k R wr (Fr wr bm q) xs v) : SlRep k R wr' (Fr wr' bm q') xs v := (h.frame hR hm.same).monoF hR hm.fr
theorem Moves.below (hb : Below wr.heap.size wr wr') : Moves bm q wr q wr' := ⟨fun _ h => ⟨Nat.lt_of_lt_of_le h.1 hb.size, h.2⟩, fun b h => hb.block b h.1⟩
theorem Moves.map (hg : wr.grownBy wr' (some bm)) : Moves bm q wr q wr' := ⟨fun _ h => ⟨Nat.lt_of_lt_of_le h.1 hg.size, h.2⟩, fun b h => hg.block b h.1 (fun e => h.2.1 (by injection e))⟩
theorem Moves.que (hg : wr.grownBy wr' q.ownBlock) (hat : q'.ownBlock = q.ownBlock ∨ q'.ownBlock = some wr.heap.size) : Moves bm q wr q' wr' := by
  refine ⟨fun b h => ⟨Nat.lt_of_lt_of_le h.1 hg.size, h.2.1, ?_⟩, fun b h => hg.block b h.1 (fun e => h.2.2 e.symm)⟩
  rcases hat with e | e
  · rw [e]; exact h.2.2
  · rw [e]; intro e2; injection e2 with e2; have := h.1; omega
theorem Moves.trans {q'' : Value} {wr'' : World} (h1 : Moves bm q wr q' wr') (h2 : Moves bm q' wr' q'' wr'') : Moves bm q wr q'' wr'' := ⟨fun b h => h2.fr b (h1.fr b h), fun b h => (h2.same b (h1.fr b h)).trans (h1.same b h)⟩
end
def pairEnc (p : Value × Value) : Value := .agg #[p.1, p.2]
theorem strKind : KeyKind Try.prog 9 Value.string := string_kind Try.underlying9
theorem zeroReached (w : World) : (zeroValue 68).run Try.prog w = .ok (pairEnc (.slice none 0 0, .slice none 0 0)) w := by kernel_rfl
abbrev Rows := List (List Int × List Carry)
/-- the map holds just the states that are found, with their plans -/
structure MInv (ls : List Shelf) (out : Rows) (bm : Nat) (F : Nat → Prop) (f : ByteArray → Option (Value × Value)) (wr : World) : Prop where
  mp : MapF wr bm Value.string pairEnc f
  has : ∀ e ∈ out, ∃ p, f (keyB ls e.1) = some p ∧ SlRep 1 (flat intEnc) wr F e.1 p.1 ∧ SlRep 3 (flat Carry.enc) wr F e.2 p.2
  only : ∀ κ p, f κ = some p → ∃ e ∈ out, κ = keyB ls e.1
/-- the queue holds the states from the k-th on -/
def QInv (base : Nat) (out : Rows) (k : Nat) (F : Nat → Prop) (q : Value) (wr : World) : Prop :=
  ∃ vs, QRow wr base 26 q vs ∧ vs.length + k = out.length ∧ ∀ i e va, out[k + i]? = some e → vs[i]? = some va → SlRep 1 (flat intEnc) wr F e.1 va
structure SInv (ls : List Shelf) (base : Nat) (k : Nat) (out : Rows) (bm : Nat) (q : Value) (wr : World) : Prop where
  mp : ∃ f, MInv ls out bm (Fr wr bm q) f wr
  qu : QInv base out k (Fr wr bm q) q wr
  bmb : base ≤ bm
  bml : bm < wr.heap.size
  ne : q.ownBlock ≠ some bm
section
variable {ls : List Shelf} {base k bm : Nat} {out : Rows} {q q' : Value} {wr wr' : World} {f : ByteArray → Option (Value × Value)}
theorem MInv.moves (hm : Moves bm q wr q' wr') (hb : wr'.heap[bm]? = wr.heap[bm]?) (h : MInv ls out bm (Fr wr bm q) f wr) : MInv ls out bm (Fr wr' bm q') f wr' :=
  ⟨h.mp.frame hb, fun e he => by
    obtain ⟨p, h1, h2, h3⟩ := h.has e he
    exact ⟨p, h1, h2.moves inS hm, h3.moves caS hm⟩, h.only⟩
theorem QInv.moves (hm : Moves bm q wr q wr') (hb : ∀ b, q.ownBlock = some b → wr'.heap[b]? = wr.heap[b]?) (h : QInv base out k (Fr wr bm q) q wr) : QInv base out k (Fr wr' bm q) q wr' := by
  obtain ⟨vs, h1, h2, h3⟩ := h
  exact ⟨vs, h1.frame hb, h2, fun i e va he hv => (h3 i e va he hv).moves inS hm⟩
theorem SInv.qlt (h : SInv ls base k out bm q wr) : ∀ b, q.ownBlock = some b → base ≤ b ∧ b < wr.heap.size := by
  obtain ⟨vs, h1, _⟩ := h.qu
  exact h1.lt
theorem SInv.below (h : SInv ls base k out bm q wr) (hb : Below wr.heap.size wr wr') : SInv ls base k out bm q wr' := by
  obtain ⟨f, hf⟩ := h.mp
  exact ⟨⟨f, hf.moves (Moves.below hb) (hb.block bm h.bml)⟩, h.qu.moves (Moves.below hb) (fun b e => hb.block b (h.qlt b e).2), h.bmb, Nat.lt_of_lt_of_le h.bml hb.size, h.ne⟩
/-- one state more: the map has been written (world w1), then the queue (world w2) -/
theorem SInv.add (h : SInv ls base k out bm q wr) (hf : MInv ls out bm (Fr wr bm q) f wr) {x : List Int} {p : List Carry} {va vp : Value} {w1 w2 : World} (hinj : ∀ e ∈ out, keyB ls e.1 ≠ keyB ls x)
    (hm1 : MapF w1 bm Value.string pairEnc (upd f (keyB ls x) (va, vp))) (hg1 : wr.grownBy w1 (some bm)) (hx : SlRep 1 (flat intEnc) w1 (Fr w1 bm q) x va) (hp : SlRep 3 (flat Carry.enc) w1 (Fr w1 bm q) p vp)
    (hq : ∀ vs, QRow wr base 26 q vs → QRow w2 base 26 q' (vs ++ [va])) (hg2 : w1.grownBy w2 q.ownBlock) (hat : q'.ownBlock = q.ownBlock ∨ ∃ b, q'.ownBlock = some b ∧ w1.heap.size ≤ b) :
    SInv ls base k (out ++ [(x, p)]) bm q' w2 := by
  have hbm1 := hm1.lt
  have hm : Moves bm q wr q w1 := Moves.map hg1
  have hm2 : Moves bm q w1 q' w2 := by
    refine ⟨fun b h => ⟨Nat.lt_of_lt_of_le h.1 hg2.size, h.2.1, ?_⟩, fun b h => hg2.block b h.1 (fun e => h.2.2 e.symm)⟩
    rcases hat with e | ⟨b', e, hb'⟩
    · rw [e]; exact h.2.2
    · rw [e]; intro e2; injection e2 with e2; have := h.1; omega
  have hmm := hm.trans hm2
  have hb2 : w2.heap[bm]? = w1.heap[bm]? := hg2.block bm hbm1 (fun e => h.ne e.symm)
  refine ⟨⟨_, hm1.frame hb2, ?_, ?_⟩, ?_, h.bmb, Nat.lt_of_lt_of_le hbm1 hg2.size, ?_⟩
  · intro e he
    rw [List.mem_append] at he
    rcases he with he | he
    · obtain ⟨p', h1, h2, h3⟩ := hf.has e he
      exact ⟨p', by rw [upd, if_neg (hinj e he)]; exact h1, h2.moves inS hmm, h3.moves caS hmm⟩
    · simp at he
      subst he
      exact ⟨(va, vp), by rw [upd, if_pos rfl], hx.moves inS hm2, hp.moves caS hm2⟩
  · intro κ p' hk
    unfold upd at hk
    split at hk
    · rename_i he
      exact ⟨(x, p), by simp, he⟩
    · obtain ⟨e, he, h1⟩ := hf.only κ p' hk
      exact ⟨e, by simp [he], h1⟩
  · obtain ⟨vs, h1, h2, h3⟩ := h.qu
    refine ⟨vs ++ [va], hq vs h1, by simp; omega, fun i e va' he hv => ?_⟩
    by_cases hi : i < vs.length
    · rw [List.getElem?_append_left (by omega)] at he
      rw [List.getElem?_append_left hi] at hv
      exact (h3 i e va' he hv).moves inS hmm
    · have hil := (List.getElem?_eq_some_iff.1 hv).1
      simp only [List.length_append, List.length_cons, List.length_nil] at hil
      obtain rfl : i = vs.length := by omega
      rw [List.getElem?_append_right (by omega), show k + vs.length - out.length = 0 by omega] at he
      rw [List.getElem?_append_right (by omega), Nat.sub_self] at hv
      simp at he hv
      subst he hv
      exact hx.moves inS hm2
  · rcases hat with e | ⟨b', e, hb'⟩
    · rw [e]; exact h.ne
    · rw [e]; intro e2; injection e2 with e2; omega
theorem SInv.tail {g o n cap : Nat} (h : SInv ls base k out bm (.slice (some ⟨g, o, none⟩) n cap) wr) (hk : k < out.length) : SInv ls base (k + 1) out bm (.slice (some ⟨g, if cap = 1 then o else o + 1, none⟩) (n - 1) (cap - 1)) wr := by
  have hF : ∀ b, Fr wr bm (.slice (some ⟨g, o, none⟩) n cap) b → Fr wr bm (.slice (some ⟨g, if cap = 1 then o else o + 1, none⟩) (n - 1) (cap - 1)) b := fun b hb => hb
  obtain ⟨f, hf⟩ := h.mp
  refine ⟨⟨f, hf.mp, fun e he => ?_, hf.only⟩, ?_, h.bmb, h.bml, h.ne⟩
  · obtain ⟨p', h1, h2, h3⟩ := hf.has e he
    exact ⟨p', h1, h2.monoF inS hF, h3.monoF caS hF⟩
  · obtain ⟨vs, h1, h2, h3⟩ := h.qu
    rcases vs with _ | ⟨u, vs⟩
    · simp at h2; omega
    · have hn : n = vs.length + 1 := by
        obtain ⟨_, _, _, _, hv, _⟩ := h1
        injection hv with _ e2
      subst hn
      refine ⟨vs, h1.tail, by simp at h2; omega, fun i e va he hv => ?_⟩
      exact (h3 (i + 1) e va (by rw [show k + (i + 1) = k + 1 + i by omega]; exact he) (by simpa using hv)).monoF inS hF
theorem SInv.head (h : SInv ls base k out bm q wr) {e : List Int × List Carry} (hk : out[k]? = some e) : ∃ g o n cap va, q = .slice (some ⟨g, o, none⟩) n cap ∧ 0 < n ∧ n ≤ cap ∧ cap ≤ 9223372036854775807 ∧ base ≤ g ∧ g < wr.heap.size ∧ wr.cell? ⟨g, o, none⟩ = some va ∧ SlRep 1 (flat intEnc) wr (Fr wr bm q) e.1 va := by
  have hlt := h.qlt
  obtain ⟨vs, h1, h2, h3⟩ := h.qu
  have hkl := (List.getElem?_eq_some_iff.1 hk).1
  obtain ⟨va, hva⟩ := get_at vs (show 0 < vs.length by omega)
  obtain ⟨g, o, cap, cur, rfl, hb, hg, hn, hc, _⟩ := id h1
  obtain ⟨hg1, hg2⟩ := hlt g rfl
  have hcell := h1.cell hva
  exact ⟨g, o, _, cap, va, rfl, by omega, hn, by unfold maxLen at hc; omega, hg1, hg2, hcell, h3 0 e va hk hva⟩
theorem SInv.empty (h : SInv ls base k out bm q wr) (hk : out.length ≤ k) : ∃ g o cap, q = .slice (some ⟨g, o, none⟩) 0 cap ∧ cap ≤ 9223372036854775807 := by
  obtain ⟨vs, h1, h2, h3⟩ := h.qu
  obtain ⟨g, o, cap, cur, rfl, hb, hg, hn, hc, _⟩ := h1
  have : vs.length = 0 := by omega
  exact ⟨g, o, cap, by rw [this], by unfold maxLen at hc; omega⟩
end
theorem keyB_inj {ls : List Shelf} {bs : List Box} (hst : startE ls bs = 0) {x y : List Int} (hx : Right ls bs x) (hy : Right ls bs y) (h : keyB ls x = keyB ls y) : x = y := by
  have h1 : x.map (keyOf ls) = y.map (keyOf ls) := by
    unfold keyB at h
    injection h with h
    simpa using congrArg Array.toList h
  apply List.ext_getElem?
  intro i
  by_cases hi : i < x.length
  · obtain ⟨a, ha⟩ := get_at x hi
    obtain ⟨b, hb⟩ := get_at y (show i < y.length by rw [hy.1, ← hx.1]; exact hi)
    have h2 : keyOf ls a = keyOf ls b := by
      have := congrArg (fun l => l[i]?) h1
      simp only [List.getElem?_map, ha, hb, Option.map_some] at this
      injection this
    obtain ⟨m, hm, hm32⟩ := shIx_nat hst hx (List.mem_of_getElem? ha)
    obtain ⟨n, hn, hn32⟩ := shIx_nat hst hy (List.mem_of_getElem? hb)
    have h3 : m = n := by
      unfold keyOf at h2
      rw [hm, hn] at h2
      have h4 := congrArg UInt8.toNat h2
      simp [UInt8.toNat_ofNat'] at h4
      omega
    subst h3
    have h5 : ∀ u, shIx ls u = (m : Int) → ∃ s : Shelf, ls[m]? = some s ∧ s.id = u := by
      intro u hu
      rcases idxF_cases (idS u) ls with ⟨h6, _⟩ | ⟨k, s, h6, h7, h8, _⟩
      · unfold shIx at hu; omega
      · obtain rfl : k = m := by unfold shIx at hu; omega
        exact ⟨s, h7, by simpa [idS] using h8⟩
    obtain ⟨s, hs, rfl⟩ := h5 a hm
    obtain ⟨s', hs', rfl⟩ := h5 b hn
    rw [hs] at hs'
    injection hs' with hs'
    subst hs'
    rw [ha, hb]
  · rw [List.getElem?_eq_none (by omega), List.getElem?_eq_none (by rw [hy.1, ← hx.1]; omega)]
section
variable {κ ν : Type} [DecidableEq κ] {P : Program} {w : World} {b : Nat} {kenc : κ → Value} {venc : ν → Value} 
theorem look_hit {t kt et : TypeId} (hK : KeyKind P kt kenc) (ht : P.underlying t = some (.map kt et)) {z : Value} (hz : (zeroValue et).run P w = .ok z w)
    {f : κ → Option ν} (h : MapF w b kenc venc f) {k : κ} {v : ν} (hf : f k = some v) {val : Value} (hval : venc v = val) : (Instr.lookup t (.map (some b)) (kenc k) false).run P w = .ok val w := by
  have hrun := run_lookup_at hK ht hz h k false
  rw [hf] at hrun
  simpa only [Bool.false_eq_true, if_false, hval] using hrun
end
open Go.RowKit

def fuelN : Nat := 4097
def reachF (ls : List Shelf) (bs : List Box) (s : List Int) : Rows := bfs (nbrF ls bs) fuelN 0 [(s, [])]
/-- what is known of the search when k states have been worked on -/
structure KGood (ls : List Shelf) (bs : List Box) (s0 : List Int) (gk k : Nat) (out : Rows) : Prop where
  inv : KInv ltC (nbrF ls bs) s0 k out
  good : ∀ e ∈ out, Good ls bs e.1
  eq : reachF ls bs s0 = bfs (nbrF ls bs) gk k out
  num : gk + k = fuelN
structure BGood (ls : List Shelf) (bs : List Box) (s0 : List Int) (gk k j : Nat) (s : List Int) (p : List Carry) (out : Rows) : Prop where
  inv : BInv ltC (nbrF ls bs) s0 k s p ((nbrF ls bs s).take j) out
  good : ∀ e ∈ out, Good ls bs e.1
  eq : reachF ls bs s0 = bfs (nbrF ls bs) gk (k + 1) (expand p ((nbrF ls bs s).drop j) out)
  num : gk + (k + 1) = fuelN
section
variable {ls : List Shelf} {bs : List Box} {s0 : List Int} {gk k j : Nat} {s : List Int} {p : List Carry} {out : Rows}
theorem KGood.start (hg : Good ls bs s0) : KGood ls bs s0 fuelN 0 [(s0, [])] :=
  ⟨KInv.start _ _, fun e he => by simp at he; subst he; exact hg, rfl, by simp⟩
theorem KGood.few (hst : startE ls bs = 0) (h : KGood ls bs s0 gk k out) : out.length ≤ 4096 := by
  have := right_few hst (out.map Prod.fst) h.inv.nodup (fun x hx => by
    obtain ⟨e, he, rfl⟩ := List.mem_map.1 hx
    exact (h.good e he).1)
  simpa using this
theorem BGood.few (hst : startE ls bs = 0) (h : BGood ls bs s0 gk k j s p out) : out.length ≤ 4096 := by
  have := right_few hst (out.map Prod.fst) h.inv.nodup (fun x hx => by
    obtain ⟨e, he, rfl⟩ := List.mem_map.1 hx
    exact (h.good e he).1)
  simpa using this
theorem KGood.open_ (hst : startE ls bs = 0) (h : KGood ls bs s0 gk k out) (hk : out[k]? = some (s, p)) : ∃ g', gk = g' + 1 ∧ BGood ls bs s0 g' k 0 s p out := by
  have hf := h.few hst
  have hkl := lt_of_at hk
  have hn := h.num
  obtain ⟨g', rfl⟩ : ∃ g', gk = g' + 1 := ⟨gk - 1, by unfold fuelN at hn; omega⟩
  refine ⟨g', rfl, ⟨h.inv.in_ hk, h.good, ?_, by omega⟩⟩
  rw [h.eq, bfs, hk]
  rfl
theorem KGood.done (h : KGood ls bs s0 gk k out) (hk : out.length ≤ k) : reachF ls bs s0 = out ∧ Found ltC (nbrF ls bs) s0 out := by
  refine ⟨?_, h.inv.done ltC_trans hk⟩
  rw [h.eq]
  cases gk with
  | zero => rfl
  | succ g => simp only [bfs]; rw [List.getElem?_eq_none hk]
theorem BGood.close (h : BGood ls bs s0 gk k j s p out) (hj : (nbrF ls bs s).length ≤ j) : KGood ls bs s0 gk (k + 1) out := by
  have h1 := h.inv
  rw [List.take_of_length_le hj] at h1
  refine ⟨h1.out_, h.good, ?_, h.num⟩
  rw [h.eq, List.drop_of_length_le hj]
  rfl
theorem BGood.old (hst : startE ls bs = 0) (h : BGood ls bs s0 gk k j s p out) {c : Carry} {x : List Int} (hj : (nbrF ls bs s)[j]? = some (c, x)) (hx : x ∈ out.map Prod.fst) : BGood ls bs s0 gk k (j + 1) s p out := by
  have hd := drop_at hj
  have he : expand p ((nbrF ls bs s).drop j) out = expand p ((nbrF ls bs s).drop (j + 1)) out := by rw [hd, expand, if_pos hx]
  refine ⟨?_, h.good, by rw [h.eq, he], h.num⟩
  have := expand_one (nbrF ls bs) s0 k s p (nbr_asc hst s) h.inv (List.take_append_drop j _).symm hd
  rw [if_pos hx, ← take_at hj] at this
  exact this
theorem BGood.new (hst : startE ls bs = 0) (h : BGood ls bs s0 gk k j s p out) {c : Carry} {x : List Int} (hj : (nbrF ls bs s)[j]? = some (c, x)) (hx : x ∉ out.map Prod.fst) : BGood ls bs s0 gk k (j + 1) s p (out ++ [(x, p ++ [c])]) := by
  have hd := drop_at hj
  have he : expand p ((nbrF ls bs s).drop j) out = expand p ((nbrF ls bs s).drop (j + 1)) (out ++ [(x, p ++ [c])]) := by rw [hd, expand, if_neg hx]
  have hs : Good ls bs s := h.good (s, p) (List.mem_of_getElem? h.inv.cur)
  refine ⟨?_, ?_, by rw [h.eq, he], h.num⟩
  · have := expand_one (nbrF ls bs) s0 k s p (nbr_asc hst s) h.inv (List.take_append_drop j _).symm hd
    rw [if_neg hx, ← take_at hj] at this
    exact this
  · intro e he
    rw [List.mem_append] at he
    rcases he with he | he
    · exact h.good e he
    · simp at he
      subst he
      exact nbr_good hst hs (List.mem_of_getElem? hj)
theorem BGood.len (hst : startE ls bs = 0) (h : BGood ls bs s0 gk k j s p out) : p.length ≤ 4096 := by
  have h1 := h.inv.short k s p h.inv.cur
  have h2 := h.few hst
  have h3 := lt_of_at h.inv.cur
  omega
end
/-- what a round holds of its own data -/
structure RInv (bm : Nat) (q : Value) (gx : Nat) (pa pp v37 : Value) (s : List Int) (p st : List Carry) (wi : World) : Prop where
  fr : Fr wi bm q gx
  c0 : wi.cell? ⟨gx, 0, none⟩ = some pa
  c1 : wi.cell? ⟨gx, 1, none⟩ = some pp
  rs : SlRep 1 (flat intEnc) wi (Fr wi bm q) s pa
  rp : SlRep 3 (flat Carry.enc) wi (Fr wi bm q) p pp
  rt : SlRep 3 (flat Carry.enc) wi (Fr wi bm q) st v37
theorem RInv.moves {bm : Nat} {q q' : Value} {gx : Nat} {pa pp v37 : Value} {s : List Int} {p st : List Carry} {wi wi' : World} (hm : Moves bm q wi q' wi') (h : RInv bm q gx pa pp v37 s p st wi) : RInv bm q' gx pa pp v37 s p st wi' :=
  ⟨hm.fr _ h.fr, (World.cell?_of_block (a := ⟨gx, 0, none⟩) (hm.same _ h.fr)).trans h.c0, (World.cell?_of_block (a := ⟨gx, 1, none⟩) (hm.same _ h.fr)).trans h.c1, h.rs.moves inS hm, h.rp.moves caS hm, h.rt.moves caS hm⟩
theorem apart_le {F : Nat → Prop} {n m : Nat} {v : Value} (h : ∀ b, F b → b < n ∧ v.ownBlock ≠ some b) (hm : n ≤ m) : ∀ b, F b → b < m ∧ v.ownBlock ≠ some b := fun b hb => ⟨Nat.lt_of_lt_of_le (h b hb).1 hm, (h b hb).2⟩
theorem one_apart {base : Nat} {W : World} {xs : List Carry} {v : Value} {o : Obj} (h : OwnRep 3 (flat Carry.enc) 57 base W xs v) : ∀ b, (False ∨ b = W.heap.size) → b < (W.alloc o).heap.size ∧ v.ownBlock ≠ some b := by
  rintro b (hb | rfl)
  · exact hb.elim
  · exact ⟨by simp, fun e => by have := (h.own_lt _ e).2; omega⟩
theorem clone_apart {F : Nat → Prop} {n m base : Nat} {W : World} {xs : List Carry} {v : Value} (h : OwnRep 3 (flat Carry.enc) 57 base W xs v) (hF : ∀ b, F b → b < n) (h1 : n ≤ base) (h2 : n ≤ m) : ∀ b, F b → b < m ∧ v.ownBlock ≠ some b := by
  intro b hb
  have := hF b hb
  exact ⟨by omega, fun e => by have := (h.own_lt _ e).1; omega⟩
theorem one_lt {W : World} {o : Obj} : ∀ b, (False ∨ b = W.heap.size) → b < (W.alloc o).heap.size := by
  rintro b (hb | rfl)
  · exact hb.elim
  · simp
theorem grown_of {B bm : Nat} {wZ W wM : World} (hb : Below B wZ W) (hB : B = wZ.heap.size) (hg : W.grownBy wM (some bm)) : wZ.grownBy wM (some bm) := by
  subst hB
  exact ⟨hg.os.trans hb.os, hg.tape.trans hb.tape, hg.output.trans hb.output, Nat.le_trans hb.size hg.size, fun k hk hne => (hg.block k (Nat.lt_of_lt_of_le hk hb.size) hne).trans (hb.block k hk)⟩
end Go.Proofs.Ythabpkigflldmaa
