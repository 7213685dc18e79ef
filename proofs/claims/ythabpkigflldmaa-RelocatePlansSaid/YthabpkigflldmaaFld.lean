/- flood of the reference. -/
import Derived.Test.YthabpkigflldmaaEiA
import Derived.Test.YthabpkigflldmaaTwo
import Derived.Test.YthabpkigflldmaaRst
namespace Go.Proofs.Ythabpkigflldmaa
open Go.RowKit

section
variable {ls : List Shelf} {bs : List Box} {s t : List Int}
def distF (ls : List Shelf) (bs : List Box) (t x : List Int) : Nat := match (reachF ls bs t).find? (fun e => decide (e.1 = x)) with
  | some e => e.2.length
  | none => 0
theorem dist_at (hst : startE ls bs = 0) (ht : Good ls bs t) {x : List Int} {p : List Carry} (h : (x, p) ∈ reachF ls bs t) : distF ls bs t x = p.length := by
  have hF := (reach_found hst ht).1
  unfold distF
  cases hf : (reachF ls bs t).find? (fun e => decide (e.1 = x)) with
  | none => have := List.find?_eq_none.1 hf (x, p) h; simp at this
  | some e =>
    have h1 := List.mem_of_find?_eq_some hf
    have h2 := List.find?_some hf
    simp only [decide_eq_true_eq] at h2
    obtain ⟨y, q⟩ := e
    simp only at h2
    subst h2
    simp only
    rw [hF.uniq h1 h]
theorem dist_le (hst : startE ls bs = 0) (ht : Good ls bs t) {x : List Int} (hx : Good ls bs x) {q : List Carry} (h : Leads (nbrF ls bs) x q t) : ∃ p, (x, p) ∈ reachF ls bs t ∧ distF ls bs t x = p.length ∧ p.length ≤ q.length := by
  obtain ⟨p, hp, h1⟩ := (reach_found hst ht).1.least _ _ (leads_back hst q x t hx h)
  refine ⟨p, hp, dist_at hst ht hp, ?_⟩
  have := backP_len q
  rcases h1 with rfl | h1
  · omega
  · have := slt_len h1; omega
theorem leads_of_reach (hst : startE ls bs = 0) (ht : Good ls bs t) {x : List Int} {p : List Carry} (h : (x, p) ∈ reachF ls bs t) : Leads (nbrF ls bs) x (backP p) t :=
  leads_back hst p t x ht ((reach_found hst ht).1.leads _ h)
/-- a step leads nearer by one at most, and its end is known too -/
theorem dist_step (hst : startE ls bs = 0) (ht : Good ls bs t) {x y : List Int} {c : Carry} (hx : Good ls bs x) (hc : (c, y) ∈ nbrF ls bs x) {p : List Carry} (h : (x, p) ∈ reachF ls bs t) :
    ∃ q, (y, q) ∈ reachF ls bs t ∧ distF ls bs t y = q.length ∧ distF ls bs t x ≤ q.length + 1 := by
  have hy := nbr_good hst hx hc
  have h1 : Leads (nbrF ls bs) y (backC c :: backP p) t := ⟨x, nbr_back hst hx hc, leads_of_reach hst ht h⟩
  obtain ⟨q, hq, e1, _⟩ := dist_le hst ht hy h1
  refine ⟨q, hq, e1, ?_⟩
  obtain ⟨q', _, e2, e3⟩ := dist_le hst ht hx (q := c :: backP q) ⟨y, hc, leads_of_reach hst ht hq⟩
  rw [e2]
  simpa [backP_len] using e3
/-- away from the end there is a step that leads nearer -/
theorem dist_find (hst : startE ls bs = 0) (ht : Good ls bs t) {x : List Int} (hx : Good ls bs x) {p : List Carry} (h : (x, p) ∈ reachF ls bs t) (hd : 0 < distF ls bs t x) :
    ∃ e, (nbrF ls bs x).find? (fun e => decide (distF ls bs t e.2 < distF ls bs t x)) = some e := by
  have hL := leads_of_reach hst ht h
  have hl := backP_len p
  have hp := dist_at hst ht h
  cases hb : backP p with
  | nil => rw [hb] at hl; simp only [List.length_nil] at hl; omega
  | cons c r =>
    rw [hb] at hL hl
    obtain ⟨y, hy, hr⟩ := hL
    obtain ⟨q, _, e1, e2⟩ := dist_le hst ht (nbr_good hst hx hy) hr
    refine Option.isSome_iff_exists.1 (List.find?_isSome.2 ⟨_, hy, ?_⟩)
    simp only [List.length_cons] at hl
    simp only [decide_eq_true_eq]
    omega
theorem plan_down (hst : startE ls bs = 0) (hs : Good ls bs s) (ht : Good ls bs t) {p : List Carry} (h : planF ls bs s t = some p) : p = down (nbrF ls bs) (distF ls bs t) (distF ls bs t s) s := by
  have hL := plan_leads hst hs h
  obtain ⟨_, _, h3⟩ := down_least (lt := ltC) (nbr := nbrF ls bs) (t := t) (D := distF ls bs t) (Good := Good ls bs) (fun _ hx _ _ hc => nbr_good hst hx hc) (fun x _ => nbr_asc hst x)
    (fun x hx q hq => by obtain ⟨p, _, e1, e2⟩ := dist_le hst ht hx hq; omega)
    (fun x hx ⟨q, hq⟩ => by
      obtain ⟨p, hp, e1, _⟩ := dist_le hst ht hx hq
      exact ⟨backP p, leads_of_reach hst ht hp, by rw [backP_len, e1]⟩)
    (fun x hx c y hc ⟨q, hq⟩ => ⟨backC c :: q, x, nbr_back hst hx hc, hq⟩)
    (distF ls bs t s) s hs rfl ⟨p, hL⟩
  exact (reach_found hst hs).1.eq_of_least ltC_irrefl ltC_trans (planF_some h) (by assumption) h3
theorem plan_iff (hst : startE ls bs = 0) (hs : Good ls bs s) (ht : Good ls bs t) : planF ls bs s t = none ↔ ∀ p, (s, p) ∉ reachF ls bs t := by
  constructor
  · intro h p hp
    obtain ⟨q, hq, _⟩ := plan_of_leads hst hs (leads_of_reach hst ht hp)
    rw [h] at hq
    cases hq
  · intro h
    cases hp : planF ls bs s t with
    | none => rfl
    | some p =>
      obtain ⟨q, hq, _⟩ := dist_le hst ht hs (plan_leads hst hs hp)
      exact absurd hq (h q)
/-- where a state stands among those that are found -/
theorem ix_reach (hst : startE ls bs = 0) (ht : Good ls bs t) (x : List Int) : ((∀ p, (x, p) ∉ reachF ls bs t) ∧ stIx ((reachF ls bs t).map Prod.fst) x = -1) ∨ ∃ (k : Nat) (p : List Carry), (reachF ls bs t)[k]? = some (x, p) ∧ stIx ((reachF ls bs t).map Prod.fst) x = (k : Int) ∧ distF ls bs t x = p.length := by
  rcases idxF_cases (fun y => eqL eqI y x) ((reachF ls bs t).map Prod.fst) with ⟨h1, h2⟩ | ⟨k, y, h1, h2, h3, _⟩
  · refine .inl ⟨fun p hp => ?_, h1⟩
    have := h2 x (List.mem_map.2 ⟨(x, p), hp, rfl⟩)
    rw [(eqL_iff eqI_iff x x).2 rfl] at this
    cases this
  · rw [List.getElem?_map] at h2
    cases hk : (reachF ls bs t)[k]? with
    | none => rw [hk] at h2; cases h2
    | some e =>
      obtain ⟨y', p⟩ := e
      rw [hk] at h2
      injection h2 with h2
      simp only at h2
      subst h2
      have := (eqL_iff eqI_iff y' x).1 h3
      subst this
      exact .inr ⟨k, p, hk, h1, dist_at hst ht (List.mem_of_getElem? hk)⟩
end
/-- two lists in ascending order with the same elements are one -/
theorem asc_one : ∀ (xs ys : List (List Int)), xs.Perm ys → ascW xs → ascW ys → xs = ys
  | [], ys, h, _, _ => by simpa using h.symm.eq_nil
  | x :: xs, [], h, _, _ => by simpa using h.eq_nil
  | x :: xs, y :: ys, h, hx, hy => by
    obtain ⟨a1, a2⟩ := List.pairwise_cons.1 hx
    obtain ⟨b1, b2⟩ := List.pairwise_cons.1 hy
    have hxy : x = y := by
      have m1 : x ∈ y :: ys := h.mem_iff.1 List.mem_cons_self
      have m2 : y ∈ x :: xs := h.mem_iff.2 List.mem_cons_self
      rcases List.mem_cons.1 m1 with e | m1
      · exact e
      rcases List.mem_cons.1 m2 with e | m2
      · exact e.symm
      rcases cmpL_tri x y with e | e | e
      · exact absurd e (b1 x m1)
      · exact e
      · exact absurd e (a1 y m2)
    subst hxy
    rw [asc_one xs ys (List.perm_cons x |>.1 h) a2 b2]
open Go.RowKit

def lenE (e : List Int × List Carry) : Int := e.2.length
theorem ix_mem (xs : List (List Int)) (x : List Int) : (x ∉ xs ∧ stIx xs x = -1) ∨ (x ∈ xs ∧ ∃ k : Nat, stIx xs x = (k : Int)) := by
  rcases idxF_cases (fun y => eqL eqI y x) xs with ⟨h1, h2⟩ | ⟨k, y, h1, h2, h3, _⟩
  · exact .inl ⟨fun hm => (by have := h2 x hm; rw [(eqL_iff eqI_iff x x).2 rfl] at this; cases this), h1⟩
  · have := (eqL_iff eqI_iff y x).1 h3
    subst this
    exact .inr ⟨List.mem_of_getElem? h2, k, h1⟩
theorem own_ptr {e : TypeId} {α : Type} {k n : Nat} {R : CRep α} {base : Nat} {w : World} {xs : List α} {v : Value} (h : OwnRep k R e base w xs v) (hn : xs.length = n) (hne : 0 < n) : ∃ g cap, v = .slice (some ⟨g, 0, none⟩) n cap ∧ base ≤ g ∧ g < w.heap.size ∧ n ≤ cap ∧ cap ≤ 9223372036854775807 := by
  subst hn
  have hlt := h.own_lt
  obtain ⟨css, hl, hr, hrow⟩ := h
  rcases hrow.2 with ⟨_, h0⟩ | ⟨g, cap, cur, rfl, hbg, hg, hcap, hm, hs, ht⟩
  · omega
  · exact ⟨g, cap, rfl, (hlt g rfl).1, (hlt g rfl).2, hcap, by unfold maxLen at hm; omega⟩
theorem cell_alloc_old {W : World} {g j : Nat} {u : Value} {o : Obj} (h : W.cell? ⟨g, j, none⟩ = some u) (hg : g < W.heap.size) : (W.alloc o).cell? ⟨g, j, none⟩ = some u := (((Below.refl W.heap.size W).alloc (Nat.le_refl _) o).cell (p := ⟨g, j, none⟩) hg).trans h
theorem own_int_at {e : TypeId} {base g n c i : Nat} {w : World} {xs : List Int} {x : Int} (h : OwnRep 1 (flat intEnc) e base w xs (.slice (some ⟨g, 0, none⟩) n c)) (hx : xs[i]? = some x) : w.cell? ⟨g, i, none⟩ = some (.int .i64 x) := by
  obtain ⟨g', cap, hv, _, _, _, _, _, h6⟩ := h.open_ inS (by have := lt_of_at hx; omega)
  injection hv with hv
  injection hv with hv
  injection hv with hv
  subst hv
  simpa using (h6 i x 0 _ hx rfl).1
theorem int_keep {e : TypeId} {base g n c i : Nat} {w w' : World} {xs ys : List Int} {x : Int} {v' : Value} (h : OwnRep 1 (flat intEnc) e base w xs (.slice (some ⟨g, 0, none⟩) n c)) (h' : OwnRep 1 (flat intEnc) e base w' (xs ++ ys) v')
    (hat : v'.ownBlock = (Value.slice (some ⟨g, 0, none⟩) n c).ownBlock ∨ v'.ownBlock = some w.heap.size) (hk : v'.ownBlock = some w.heap.size → ∀ b, b < w.heap.size → w'.heap[b]? = w.heap[b]?) (hx : xs[i]? = some x) : w'.cell? ⟨g, i, none⟩ = some (.int .i64 x) := by
  have hlt := lt_of_at hx
  rcases hat with e1 | e1
  · obtain ⟨g', cap, rfl, _⟩ := own_ptr h' rfl (by simp; omega)
    have e2 : some g' = some g := e1
    injection e2 with e2
    subst e2
    exact own_int_at h' (by rw [List.getElem?_append_left hlt]; exact hx)
  · exact (World.cell?_of_block (w := w) (hk e1 g (h.own_lt g rfl).2)).trans (own_int_at h hx)
theorem SlRep.off_call {γ : Type} {m : Nat} {S : CRep γ} {w w' : World} {v u s : Value} {cs : List γ} (h : SlRep m S w (Off w v u) cs s) (hS : Shape m S) (hb : Below w.heap.size w w') : SlRep m S w' (Off w' v u) cs s :=
  (h.frame hS (fun b hl => hb.block b hl.1)).monoF hS (fun _ hl => ⟨Nat.lt_of_lt_of_le hl.1 hb.size, hl.2⟩)
theorem Two.sl {α β : Type} {k l : Nat} {R : CRep α} {enc : β → List Value} {e f : TypeId} {base : Nat} {w : World} {xs : List α} {v u : Value} {ys : List β} (h : Two k l R enc e f base w xs v ys u) (hR : Shape k R) : SlRep k R w (fun b => b < w.heap.size) xs v := by
  obtain ⟨A, c, e1, h1, h2, h3⟩ := h.fst.toSl (offS hR u)
  refine ⟨A, c, e1, h1, h2, fun i x hx => ?_⟩
  obtain ⟨b, off, cs, hA, hF, hr, hc⟩ := h3 i x hx
  exact ⟨b, off, cs, hA, hF, hR.mono (fun b hb => hb.1) hr, hc⟩
abbrev Fl (base : Nat) (w : World) (out : Rows) (v u : Value) : Prop := Two 1 1 stateR intEnc 26 3 base w (out.map Prod.fst) v (out.map lenE) u
theorem Two.at_ {base : Nat} {w : World} {out : Rows} {v u : Value} {k : Nat} {x : List Int} {p : List Carry} (h : Fl base w out v u) (hk : out[k]? = some (x, p)) :
    ∃ go co gf cf vx, v = .slice (some ⟨go, 0, none⟩) out.length co ∧ u = .slice (some ⟨gf, 0, none⟩) out.length cf ∧ go < w.heap.size ∧ gf < w.heap.size ∧ go ≠ gf ∧ out.length ≤ co ∧ co ≤ 9223372036854775807 ∧ out.length ≤ cf ∧ cf ≤ 9223372036854775807 ∧
      w.cell? ⟨go, k, none⟩ = some vx ∧ SlRep 1 (flat intEnc) w (fun b => b < w.heap.size) x vx ∧ w.cell? ⟨gf, k, none⟩ = some (.int .i64 p.length) := by
  have hlt := lt_of_at hk
  obtain ⟨go, co, rfl, _, a1, a2, a3⟩ := own_ptr h.fst (n := out.length) (by simp) (by omega)
  obtain ⟨gf, cf, rfl, _, b1, b2, b3⟩ := own_ptr h.snd (n := out.length) (by simp) (by omega)
  obtain ⟨b, off, vx, hA, _, hc, hv⟩ := States.at_ (x := x) (i := k) (h.sl saS) (by rw [List.getElem?_map, hk]; rfl)
  injection hA with hA
  injection hA with e1 e2
  subst e1 e2
  rw [Nat.zero_add] at hc
  exact ⟨go, co, gf, cf, vx, rfl, rfl, a1, b1, fun e => h.ne go rfl (by rw [e]; rfl), a2, a3, b2, b3, hc, hv, own_int_at h.snd (by rw [List.getElem?_map, hk]; rfl)⟩
theorem Fl.snoc {base : Nat} {w : World} {out : Rows} {v u : Value} {x : List Int} {p : List Carry} {c : Carry} (h : Two 1 1 stateR intEnc 26 3 base w (out.map Prod.fst ++ [x]) v (out.map lenE ++ [(p.length : Int) + 1]) u) : Fl base w (out ++ [(x, p ++ [c])]) v u := by
  have e1 : (out ++ [(x, p ++ [c])]).map Prod.fst = out.map Prod.fst ++ [x] := by simp
  have e2 : (out ++ [(x, p ++ [c])]).map lenE = out.map lenE ++ [(p.length : Int) + 1] := by simp [lenE]
  unfold Fl
  rw [e1, e2]
  exact h
def FloodPost (ls : List Shelf) (bs : List Box) (t : List Int) (w : World) (e : Ending) (w' : World) : Prop := ∃ v u, e = .returned (.tuple #[v, u]) ∧ Fl w.heap.size w' (reachF ls bs t) v u ∧ Below w.heap.size w w'
set_option maxRecDepth 100000 in
set_option maxHeartbeats 8000000 in
theorem flood_c (ls : List Shelf) (bs : List Box) (t : List Int) (vl vb vt : Value) (w : World) (B : Nat) (hB : B ≤ w.heap.size) (hl : Shelves w B ls vl) (hbx : Boxes w B bs vb) (ht : Ints w B t vt) (hst : startE ls bs = 0) (hg : Good ls bs t) :
    Calls Try.prog 43 #[vl, vb, vt] w (FloodPost ls bs t w) := by
  have H0 := Lib.hid hst
  have hgl : t.length ≤ 128 := by rw [hg.1.1]; exact (boxes_ok (start_ok hst).2.1).1
  have HG0 := Lib.hid (KGood.start hg)
  obtain ⟨A, c, rfl, hc1, hc2, _⟩ := id hl
  obtain ⟨A', c', rfl, hd1, hd2, _⟩ := id hbx
  obtain ⟨At, ct, rfl, he1, he2, _⟩ := id ht
  clear hst hg
  go_enter Try.func43, Try.ntmps43
  go_wp2_with (at_builtin; refine stop_intro ?_)
  refine stop_elim ?_
  refine wpList_append_rep rfl inS intE_ w.heap.size (.tmp 14) (.tmp 15) rfl rfl (OwnRep.empty_new rfl (Nat.le_refl _)) rfl (ys := t) (F := fun b => b < B) ((ht.below inS (((Below.refl _ _).alloc (Nat.le_refl _) _).mono hB))) ?F (by simp; omega) (by decide) (by simp) ?_
  case F =>
    intro b hb
    have hb2 : b < B := hb
    exact ⟨by simp; omega, fun e => by have e2 : some w.heap.size = some b := e; injection e2 with e2; omega⟩
  intro v1 w1 hown1 hg1 hat1
  simp only [List.nil_append] at hown1
  have hbA : Below w.heap.size w w1 := ((Below.refl _ _).alloc (Nat.le_refl _) _).grown hg1 (by simp) (fun k hk => by have hk' : some w.heap.size = some k := hk; injection hk' with hk'; omega)
  have h1 := hown1.toSl inS
  obtain ⟨A1, ca1, rfl, -⟩ := id h1
  have hs1 := hbA.size
  have hT : Fl w.heap.size ((w1.alloc (.cells #[.slice A1 t.length ca1] 26)).alloc (.cells #[.int .i64 0] 3)) [(t, [])] (.slice (some ⟨w1.heap.size, 0, none⟩) 1 1) (.slice (some ⟨w1.heap.size + 1, 0, none⟩) 1 1) := by
    have o1 := OwnRep.lay1 (base := w.heap.size) (e := 26) (offS saS (.slice (some ⟨w1.heap.size + 1, 0, none⟩) 1 1)) (x := t) (c := .slice A1 t.length ca1) (w := w1) ⟨_, rfl, h1.monoF inS (fun b hb => ⟨hb, fun e => by simp [Value.ownBlock] at e; omega⟩)⟩ rfl hs1
    exact ⟨o1.below (offS saS _) ((Below.refl _ _).alloc (Nat.le_refl _) _), OwnRep.lay1 inS rfl (by simp) (by simp; omega), fun b e1 e2 => by simp [Value.ownBlock] at e1 e2; omega, by simp; omega⟩
  have hbT : Below w.heap.size w ((w1.alloc (.cells #[.slice A1 t.length ca1] 26)).alloc (.cells #[.int .i64 0] 3)) := (bnd_alloc (bnd_alloc hbA (Nat.le_refl _) _) (Nat.le_refl _) _)
  clear hown1 hg1 hat1 hbA h1 hs1
  go_wp2
  go_loopw [8, 9, 10] (fun v8 v9 v10 wr => ∃ (k gk : Nat) (out : Rows), v10 = .int .i64 k ∧ k ≤ out.length ∧ Hid (KGood ls bs t gk k out) ∧ Fl w.heap.size wr out v8 v9 ∧ Below w.heap.size w wr) (fun _ _ v10 _ => 4097 - (intOf v10).toNat)
  case atStart => exact ⟨0, fuelN, [(t, [])], rfl, by simp, HG0, hT, hbT⟩
  case round =>
    clear hT hbT HG0
    obtain ⟨k, gk, out, rfl, hk, HK, hT, Br⟩ := hrel
    have hsr := Br.size
    have hfew := HK.out.few H0.out
    by_cases hlt : k < out.length
    · obtain ⟨⟨x, p⟩, hxp⟩ := get_at out hlt
      obtain ⟨g', hgk, hBG⟩ := HK.out.open_ H0.out hxp
      have HB0 := Lib.hid hBG
      have HRR := Lib.hid (HK.out.good _ (List.mem_of_getElem? hxp)).1
      have hxl : x.length ≤ 128 := by rw [HRR.out.1]; exact (boxes_ok (start_ok H0.out).2.1).1
      have hpl : p.length ≤ k := hBG.inv.short k x p hxp
      clear hBG hgk
      obtain ⟨go, co, gf, cf, vx, rfl, rfl, hgo, hgf, hne, hco1, hco2, hcf1, hcf2, g0, hvx, -⟩ := hT.at_ hxp
      obtain ⟨Ax, cx, rfl, -⟩ := id hvx
      have hki0 : (0 : Int) ≤ (k : Int) := by omega
      have hki1 : (k : Int) < (out.length : Int) := by omega
      have HSX := Lib.hid (rsteps_c ls bs x _ _ _ wr wr.heap.size (Nat.le_refl _) ((hl.below shS (Br.mono hB)).mono shS (by omega)) ((hbx.below boS (Br.mono hB)).mono boS (by omega)) hvx H0.out HRR.out)
      clear hxp
      go_wp2_with fail
      refine HSX.out.mono ?_
      rintro e w7 ⟨v7, rfl, hown7, hb7⟩
      have B7 := Br.trans (hb7.mono hsr)
      have hst7 : SlRep 3 (flat Carry.enc) w7 (Off w7 (.slice (some ⟨go, 0, none⟩) out.length co) (.slice (some ⟨gf, 0, none⟩) out.length cf)) (stepsF ls bs x) v7 := (hown7.toFlat caS).monoF caS (fun b hb => by
        have := hown7.own_lt b hb
        exact ⟨this.2, fun e => by simp [Value.ownBlock] at e; omega, fun e => by simp [Value.ownBlock] at e; omega⟩)
      have hT7 := hT.call saS inS hb7
      have hs7 := hb7.size
      have HNB := Lib.hid (fun (j : Nat) (cc : Carry) (hc : (stepsF ls bs x)[j]? = some cc) => (by simp [nbrF, hc] : (nbrF ls bs x)[j]? = some (cc, movedF bs x cc)))
      have HNL := Lib.hid (show (nbrF ls bs x).length = (stepsF ls bs x).length by simp [nbrF])
      have HMB := Lib.hid (fun (cc : Carry) (hc : cc ∈ stepsF ls bs x) => (by
        obtain ⟨i, b, sh, h1, h2, _, _, rfl⟩ := mem_steps.1 hc
        have h4 := bxIx_at (asc_of H0.out).2 h1
        exact ⟨i, h4, by rw [HRR.out.1]; exact lt_of_at h1⟩ : ∃ i : Nat, bxIx bs cc.box = (i : Int) ∧ i < x.length))
      have hst4 : (stepsF ls bs x).length ≤ 4096 := by
        have h1 := stepsG_len ls bs x bs 0
        have h2 : ls.length * bs.length ≤ 32 * 128 := Nat.mul_le_mul (shelves_len (start_ok H0.out).1) (boxes_ok (start_ok H0.out).2.1).1
        unfold stepsF; omega
      generalize stepsF ls bs x = st at *
      obtain ⟨A7, c7, rfl, hA7, hA7', -⟩ := id hst7
      have hG7 := Gro.refl w.heap.size w7 (.slice (some ⟨go, 0, none⟩) out.length co) (.slice (some ⟨gf, 0, none⟩) out.length cf)
      obtain ⟨out0, rfl⟩ : ∃ o0 : Rows, o0 = out := ⟨_, rfl⟩
      clear HSX hown7 g0 hvx hT HK hfew hcf1 hcf2 hco1 hco2 hb7 Br
      go_wp2
      go_loopw [8, 9, 33] (fun v8 v9 v33 wi => ∃ (j : Nat) (out : Rows), v33 = .int .i64 j ∧ j ≤ st.length ∧ Hid (BGood ls bs t g' k j x p out) ∧ Fl w.heap.size wi out v8 v9 ∧ Gro w.heap.size w7 (.slice (some ⟨go, 0, none⟩) out0.length co) (.slice (some ⟨gf, 0, none⟩) out0.length cf) wi v8 v9) (fun _ _ v33 _ => st.length - (intOf v33).toNat)
      case atStart => exact ⟨0, out0, rfl, Nat.zero_le _, HB0, hT7, hG7⟩
      case round =>
        clear HB0 hT7 hG7 hgo hgf hne hlt hki1 hk
        obtain ⟨j, out, rfl, hj, HB, hT, hG⟩ := hrel
        have hfew := HB.out.few H0.out
        have HCU := Lib.hid HB.out.inv.cur
        have hki1 : (k : Int) < (out.length : Int) := by have := lt_of_at HCU.out; omega
        have hkl : k < out.length := by omega
        have Bi := B7.trans hG.below
        have hsi := Bi.size
        obtain ⟨go, co, gf, cf, vx, rfl, rfl, hgo, hgf, hne, -, hco2, -, hcf2, g0, hvx, -⟩ := hT.at_ HCU.out
        obtain ⟨Ax, cx, rfl, -⟩ := id hvx
        by_cases hlt2 : j < st.length
        · obtain ⟨cc, hcc⟩ := get_at st hlt2
          have HNJ := Lib.hid (HNB.out j cc hcc)
          obtain ⟨ix, hix, hixl⟩ := HMB.out cc (List.mem_of_getElem? hcc)
          obtain ⟨b7, off7, hA7e, hF7, t0, t1, t2⟩ := Carries.at_ (hst7.gro caS hG) hcc
          have hb7l : b7 < wr.heap.size := hF7.1
          subst hA7e
          have b1 : Below wr.heap.size wr (wr.alloc (carryC cc)) := (Below.refl _ _).alloc (Nat.le_refl _) _
          have KEEP := Lib.hid (fun (W : World) (hW : Below (wr.heap.size + 1) (wr.alloc (carryC cc)) W) => (⟨((b1.trans (hW.mono (by omega))).cell (p := ⟨go, k, none⟩) hgo).trans g0, (hW.cell (p := ⟨wr.heap.size, 0, none⟩) (by simp)).trans (by simp), (hW.cell (p := ⟨wr.heap.size, 1, none⟩) (by simp)).trans (by simp), (hW.cell (p := ⟨wr.heap.size, 2, none⟩) (by simp)).trans (by simp)⟩ : W.cell? ⟨go, k, none⟩ = some (.slice Ax x.length cx) ∧ W.cell? ⟨wr.heap.size, 0, none⟩ = some (.int .i64 cc.box) ∧ W.cell? ⟨wr.heap.size, 1, none⟩ = some (.int .i64 cc.from_) ∧ W.cell? ⟨wr.heap.size, 2, none⟩ = some (.int .i64 cc.to_)))
          have HMV := Lib.hid (fun (W : World) (hW : Below wr.heap.size wr W) => moved_c bs x cc (.slice A' bs.length c') (.slice Ax x.length cx) ix W W.heap.size (Nat.le_refl _) ((hbx.below boS ((Bi.trans (hW.mono hsi)).mono hB)).mono boS (by have := hW.size; omega)) ((hvx.below inS hW).mono inS hW.size) hix hixl (by omega))
          have hbX : Below (wr.heap.size + 1) (wr.alloc (carryC cc)) (wr.alloc (carryC cc)).drew := (Below.refl _ _).drew
          have hki0 : (0 : Int) ≤ (k : Int) := by omega
          clear hcc hix hF7
          go_wp2
          go_region_held3 (fun W => W.cell? ⟨go, k, none⟩ = some (.slice Ax x.length cx) ∧ W.cell? ⟨wr.heap.size, 0, none⟩ = some (.int .i64 cc.box) ∧ W.cell? ⟨wr.heap.size, 1, none⟩ = some (.int .i64 cc.from_) ∧ W.cell? ⟨wr.heap.size, 2, none⟩ = some (.int .i64 cc.to_)) (with_reducible exact KEEP.out _ hbX) (first
            | (go_at_call 46; (with_reducible refine (HMV.out _ (b1.trans (hbX.mono (Nat.le_succ _)))).mono ?_); rintro e w10 ⟨v10, rfl, hown10, hb'⟩; have hs10 := hbX.size; have hbX := bnd_call hbX (by simp) hb'))
          have b10 := b1.trans (hbX.mono (Nat.le_succ _))
          simp only [World.size_alloc] at hs10
          have kx0 : SlRep 1 (flat intEnc) w10 (Off w10 (.slice (some ⟨go, 0, none⟩) out.length co) (.slice (some ⟨gf, 0, none⟩) out.length cf)) (movedF bs x cc) v10 := (hown10.toFlat inS).monoF inS (fun b hb => by
            have := hown10.own_lt b hb
            exact ⟨this.2, fun e => by simp [Value.ownBlock] at e; omega, fun e => by simp [Value.ownBlock] at e; omega⟩)
          have h10 := hown10.toSl inS
          obtain ⟨A10, c10, rfl, -⟩ := id h10
          have hT10 := hT.call saS inS b10
          have hG10 := hG.trans (Gro.call b10 hT.base _ _)
          have HI1 := Lib.hid (rindex_c (movedF bs x cc) (out.map Prod.fst) (.slice (some ⟨go, 0, none⟩) out.length co) _ w10 w10.heap.size (Nat.le_refl _) (hT10.sl saS) h10)
          clear hown10 HMV KEEP h10 g0 t0 t1 t2 hvx hs10 b1
          rcases ix_mem (out.map Prod.fst) (movedF bs x cc) with ⟨e1, e2⟩ | ⟨e1, m1, e2⟩
          · rw [e2] at HI1
            have HB1 := Lib.hid (HB.out.new H0.out HNJ.out e1)
            clear e1 e2
            go_wp2_with fail
            refine HI1.out.mono ?_
            rintro e wq ⟨rfl, hbq⟩
            obtain ⟨wo, rfl⟩ : ∃ wo : World, wo = wr := ⟨_, rfl⟩
            obtain ⟨wr, rfl⟩ : ∃ wr : World, wr = wq := ⟨_, rfl⟩
            have hT := hT10.call saS inS hbq
            have hG := hG10.trans (Gro.call hbq hT10.base _ _)
            have kx := kx0.off_call inS hbq
            have hbo := b10.trans (hbq.mono b10.size)
            have hgfw : gf < wr.heap.size := by have := hbo.size; omega
            have pf : wr.cell? ⟨gf, k, none⟩ = some (.int .i64 p.length) := own_int_at hT.snd (by rw [List.getElem?_map, HCU.out]; rfl)
            have pfl := hgfw
            have HDK := Lib.hid (show (out.map lenE)[k]? = some (p.length : Int) by rw [List.getElem?_map, HCU.out]; rfl)
            have kN1 : (out.map Prod.fst).length + [movedF bs x cc].length ≤ 4294967296 := by simp; omega
            have kN2 : (out.map lenE).length + [(p.length : Int) + 1].length ≤ 4294967296 := by simp; omega
            have hwrap : IntKind.i64.wrap ((p.length : Int) + 1) = (p.length : Int) + 1 := IntWalk.i64_in _ (by omega)
            clear hT10 hG10 kx0 b10 hbX HI1
            have hGX := hG
            have bA : Below wr.heap.size wr (wr.alloc (.cells #[.slice A10 (movedF bs x cc).length c10] 26)).drew := ((Below.refl _ _).alloc (Nat.le_refl _) _).drew
            have bB : Below wr.heap.size wr (wr.alloc (.cells #[.int .i64 ((p.length : Int) + 1)] 3)).drew := ((Below.refl _ _).alloc (Nat.le_refl _) _).drew
            have bAB : Below wr.heap.size wr ((wr.alloc (.cells #[.slice A10 (movedF bs x cc).length c10] 26)).alloc (.cells #[.int .i64 ((p.length : Int) + 1)] 3)).drew := (((Below.refl _ _).alloc (Nat.le_refl _) _).alloc (by simp) _).drew
            have bBA : Below wr.heap.size wr ((wr.alloc (.cells #[.int .i64 ((p.length : Int) + 1)] 3)).alloc (.cells #[.slice A10 (movedF bs x cc).length c10] 26)).drew := (((Below.refl _ _).alloc (Nat.le_refl _) _).alloc (by simp) _).drew
            have tA := hT.call saS inS bA
            have tB := hT.call saS inS bB
            have tAB := hT.call saS inS bAB
            have tBA := hT.call saS inS bBA
            have pfA := (bA.cell (p := ⟨gf, k, none⟩) hgfw).trans pf
            have pfB := (bB.cell (p := ⟨gf, k, none⟩) hgfw).trans pf
            have pfAB := (bAB.cell (p := ⟨gf, k, none⟩) hgfw).trans pf
            have pfBA := (bBA.cell (p := ⟨gf, k, none⟩) hgfw).trans pf
            have gA := Gro.call bA hT.base (.slice (some ⟨go, 0, none⟩) out.length co) (.slice (some ⟨gf, 0, none⟩) out.length cf)
            have gB := Gro.call bB hT.base (.slice (some ⟨go, 0, none⟩) out.length co) (.slice (some ⟨gf, 0, none⟩) out.length cf)
            have gAB := Gro.call bAB hT.base (.slice (some ⟨go, 0, none⟩) out.length co) (.slice (some ⟨gf, 0, none⟩) out.length cf)
            have gBA := Gro.call bBA hT.base (.slice (some ⟨go, 0, none⟩) out.length co) (.slice (some ⟨gf, 0, none⟩) out.length cf)
            have lA := hT.lay saS (show stateR wr (Off wr (.slice (some ⟨go, 0, none⟩) out.length co) (.slice (some ⟨gf, 0, none⟩) out.length cf)) (movedF bs x cc) [.slice A10 (movedF bs x cc).length c10] from ⟨_, rfl, kx⟩) 26 rfl
            have lB := hT.lay inS (show flat intEnc wr (Off wr (.slice (some ⟨go, 0, none⟩) out.length co) (.slice (some ⟨gf, 0, none⟩) out.length cf)) ((p.length : Int) + 1) [.int .i64 ((p.length : Int) + 1)] from rfl) 3 rfl
            have sA_A := lA.off_call saS (Below.refl _ _).drew
            have sA_AB := lA.off_call saS ((Below.refl _ _).alloc (Nat.le_refl _) (.cells #[.int .i64 ((p.length : Int) + 1)] 3)).drew
            have sB_B := lB.off_call inS (Below.refl _ _).drew
            have sB_BA := lB.off_call inS ((Below.refl _ _).alloc (Nat.le_refl _) (.cells #[.slice A10 (movedF bs x cc).length c10] 26)).drew
            have hTA := hT.call saS inS ((Below.refl wr.heap.size wr).alloc (Nat.le_refl _) (.cells #[.slice A10 (movedF bs x cc).length c10] 26))
            have hTB := hT.call saS inS ((Below.refl wr.heap.size wr).alloc (Nat.le_refl _) (.cells #[.int .i64 ((p.length : Int) + 1)] 3))
            have sA_BA := (hTB.lay saS (show stateR (wr.alloc (.cells #[.int .i64 ((p.length : Int) + 1)] 3)) (Off (wr.alloc (.cells #[.int .i64 ((p.length : Int) + 1)] 3)) (.slice (some ⟨go, 0, none⟩) out.length co) (.slice (some ⟨gf, 0, none⟩) out.length cf)) (movedF bs x cc) [.slice A10 (movedF bs x cc).length c10] from ⟨_, rfl, kx.off_call inS ((Below.refl _ _).alloc (Nat.le_refl _) _)⟩) 26 (g := wr.heap.size + 1) (by simp)).off_call saS (Below.refl _ _).drew
            have sB_AB := (hTA.lay inS (show flat intEnc (wr.alloc (.cells #[.slice A10 (movedF bs x cc).length c10] 26)) (Off (wr.alloc (.cells #[.slice A10 (movedF bs x cc).length c10] 26)) (.slice (some ⟨go, 0, none⟩) out.length co) (.slice (some ⟨gf, 0, none⟩) out.length cf)) ((p.length : Int) + 1) [.int .i64 ((p.length : Int) + 1)] from rfl) 3 (g := wr.heap.size + 1) (by simp)).off_call inS (Below.refl _ _).drew
            have pf0 := pf
            have pf : wr.drew.cell? ⟨gf, k, none⟩ = some (.int .i64 p.length) := pf0
            go_wp2
            go_region_held3 (fun W => W.cell? ⟨gf, k, none⟩ = some (.int .i64 p.length)) (first | with_reducible exact pf | with_reducible exact pfA | with_reducible exact pfB | with_reducible exact pfAB | with_reducible exact pfBA | with_reducible exact cell_alloc_old pf pfl) (first
                | (refine step_append_rep rfl (offS saS _) stateE_ _ (.tmp 48) (.tmp 50) rfl rfl tA.fst rfl (ys := [movedF bs x cc]) (sA_A.offS_ saS) (off_src1 _ _ _) kN1 (by decide) tA.base ?_; intro v6 w6 hown6 hg6 hat6; have gg := Gro.app1 (v := (.slice (some ⟨go, 0, none⟩) out.length co)) hg6 hat6 (fun b hb => (tA.fst.own_lt b hb).1) tA.base (.slice (some ⟨gf, 0, none⟩) out.length cf); have hG := gA.trans gg; have hT := tA.app1 hown6 hg6 hat6; have pf := own_int_at hT.snd HDK.out; have pfl := Nat.lt_of_lt_of_le hgfw hG.below.size; have tok1 : True := trivial)
                | (refine step_append_rep rfl (offS saS _) stateE_ _ (.tmp 48) (.tmp 50) rfl rfl tAB.fst rfl (ys := [movedF bs x cc]) (sA_AB.offS_ saS) (off_src1 _ _ _) kN1 (by decide) tAB.base ?_; intro v6 w6 hown6 hg6 hat6; have gg := Gro.app1 (v := (.slice (some ⟨go, 0, none⟩) out.length co)) hg6 hat6 (fun b hb => (tAB.fst.own_lt b hb).1) tAB.base (.slice (some ⟨gf, 0, none⟩) out.length cf); have hG := gAB.trans gg; have hT := tAB.app1 hown6 hg6 hat6; have pf := own_int_at hT.snd HDK.out; have kSB := sB_AB.gro inS gg; have tok2 : True := trivial)
                | (refine step_append_rep rfl (offS saS _) stateE_ _ (.tmp 48) (.tmp 50) rfl rfl tBA.fst rfl (ys := [movedF bs x cc]) (sA_BA.offS_ saS) (off_src1 _ _ _) kN1 (by decide) tBA.base ?_; intro v6 w6 hown6 hg6 hat6; have gg := Gro.app1 (v := (.slice (some ⟨go, 0, none⟩) out.length co)) hg6 hat6 (fun b hb => (tBA.fst.own_lt b hb).1) tBA.base (.slice (some ⟨gf, 0, none⟩) out.length cf); have hG := gBA.trans gg; have hT := tBA.app1 hown6 hg6 hat6; have pf := own_int_at hT.snd HDK.out; have kSB := sB_BA.gro inS gg; have tok2 : True := trivial)
                | (clear tok1; refine step_append_keep rfl inS intE_ _ (.tmp 52) (.tmp 58) rfl rfl (hT.call saS inS ((Below.refl _ _).alloc (Nat.le_refl _) (.cells #[.int .i64 ((p.length : Int) + 1)] 3))).snd rfl (ys := [(p.length : Int) + 1]) (hT.lay inS (show flat intEnc w6 (Off w6 v6 (.slice (some ⟨gf, 0, none⟩) out.length cf)) ((p.length : Int) + 1) [.int .i64 ((p.length : Int) + 1)] from rfl) 3 rfl) (off_src2 _ _ _) kN2 (by decide) (hT.call saS inS ((Below.refl _ _).alloc (Nat.le_refl _) (.cells #[.int .i64 ((p.length : Int) + 1)] 3))).base ?_; intro v7 w7 hown7 hg7 hat7 hk7; have pf := int_keep (hT.call saS inS ((Below.refl _ _).alloc (Nat.le_refl _) (.cells #[.int .i64 ((p.length : Int) + 1)] 3))).snd hown7 hat7 hk7 HDK.out; have gg := Gro.app2 (u := (.slice (some ⟨gf, 0, none⟩) out.length cf)) hg7 hat7 (fun b hb => ((hT.call saS inS ((Below.refl _ _).alloc (Nat.le_refl _) (.cells #[.int .i64 ((p.length : Int) + 1)] 3))).snd.own_lt b hb).1) (hT.call saS inS ((Below.refl _ _).alloc (Nat.le_refl _) (.cells #[.int .i64 ((p.length : Int) + 1)] 3))).base v6; have hG := (hG.trans (Gro.call ((Below.refl _ _).alloc (Nat.le_refl _) (.cells #[.int .i64 ((p.length : Int) + 1)] 3)) hT.base v6 (.slice (some ⟨gf, 0, none⟩) out.length cf))).trans gg; have hT := (hT.call saS inS ((Below.refl _ _).alloc (Nat.le_refl _) (.cells #[.int .i64 ((p.length : Int) + 1)] 3))).app2 saS hown7 hg7 hat7; have tok5 : True := trivial)
                | (clear tok2; refine step_append_keep rfl inS intE_ _ (.tmp 52) (.tmp 58) rfl rfl hT.snd rfl (ys := [(p.length : Int) + 1]) (kSB) (off_src2 _ _ _) kN2 (by decide) hT.base ?_; intro v7 w7 hown7 hg7 hat7 hk7; have pf := int_keep hT.snd hown7 hat7 hk7 HDK.out; have gg := Gro.app2 (u := (.slice (some ⟨gf, 0, none⟩) out.length cf)) hg7 hat7 (fun b hb => (hT.snd.own_lt b hb).1) hT.base v6; have hG := hG.trans gg; have hT := hT.app2 saS hown7 hg7 hat7; have tok5 : True := trivial))
            all_goals
              go_wp2
              go_roundw
              case rel => exact ⟨j + 1, _, by go_num, by omega, HB1, Fl.snoc hT, hGX.trans hG⟩
              case measure => simp [intOf]; omega
          · rw [e2] at HI1
            have HB1 := Lib.hid (HB.out.old H0.out HNJ.out e1)
            clear e1 e2
            go_wp2_with fail
            refine HI1.out.mono ?_
            rintro e wq ⟨rfl, hbq⟩
            go_wp2
            go_roundw
            case rel => exact ⟨j + 1, out, by go_num, by omega, HB1, hT10.call saS inS hbq, hG10.trans (Gro.call hbq hT10.base _ _)⟩
            case measure => simp [intOf]; omega
        · have HK1 := Lib.hid (HB.out.close (by rw [HNL.out]; omega))
          go_wp2
          go_roundw
          case rel => exact ⟨k + 1, _, out, by go_num, by omega, HK1, hT, Bi⟩
          case measure => simp [intOf]; omega
    · obtain ⟨hd, -⟩ := HK.out.done (by omega)
      obtain ⟨go, co, rfl, -⟩ := own_ptr hT.fst (n := out.length) (by simp) (by have := HK.out.inv.zero; exact List.length_pos_of_mem this)
      go_wp2
      go_ret2
      exact ⟨_, _, rfl, by rw [hd]; exact hT, Br⟩
end Go.Proofs.Ythabpkigflldmaa
