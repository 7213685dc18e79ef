/- Arguments opened; what the listed variables and the world's shape give; the world that lays them. -/
import Derived.Test.YtngodakkdhdmjaaGreatDoorPrA
import Derived.Test.YtngodakkdhdmjaaGreatDoorQrs
import Derived.Test.YtngodakkdhdmjaaGreatDoorRows
import Derived.ProofKit
import Derived.Deep.Slices
import Derived.Deep.Fields
import Derived.Lib.SmallJoins
import Derived.Lay
import Derived.LaidMore
import Derived.LaidLaws
import Derived.MakeChecks
import Derived.HandedShaped
import Derived.Lib.LaidTab
import Derived.Stop.LaidErr
import Derived.Stop.Joined
import Derived.OpenShut
namespace Go.Proofs.YtngodakkdhdmjaaGreatDoor
open Go.RowKit Go.ChangeShapes Go.WideShapes Go.Deep

theorem addr_add {a : Addr} {v : Value} {w : World} {n : Nat} (h : w.cell? (a.add n) = some v) (hs : a.spot = none) : a.add n = ⟨a.block, a.off + n, none⟩ := by
  obtain ⟨b, o, s⟩ := a
  simp only at hs
  subst hs
  unfold Addr.add
  split
  · rename_i h0; subst h0; rfl
  · rfl
section
variable {H : Type} {enc : TypeId × Value → H} {P : Program} {w : World} {base : Nat} {spare : Nat → Bool} {held : Bool}
theorem list_of {α : Type} {Q : Nat → α → Prop} : ∀ n : Nat, (∀ i, i < n → ∃ x, Q i x) → ∃ xs : List α, xs.length = n ∧ ∀ (i : Nat) x, xs[i]? = some x → Q i x
  | 0, _ => ⟨[], rfl, fun i x hx => by simp at hx⟩
  | n + 1, h => by
    obtain ⟨xs, h1, h2⟩ := list_of n fun i hi => h i (by omega)
    obtain ⟨x, hx⟩ := h n (by omega)
    refine ⟨xs ++ [x], by simp [h1], fun i y hy => ?_⟩
    by_cases hi : i < xs.length
    · rw [List.getElem?_append_left hi] at hy; exact h2 i y hy
    · have hl := lt_of_at hy
      simp at hl
      obtain rfl : i = xs.length := by omega
      simp at hy
      subst hy
      rw [h1]; exact hx
theorem open_sl {α : Type} {k : Nat} {R : CRep α} {t e : TypeId} {fuel : Nat} {cs : List Value} {x : DataW H × List MemPlace} (ht : P.underlying t = some (.slice e)) (hk : P.cellsOf e = k) (hpos : 0 < k)
    (hel : ∀ (n : Nat) (cs : List Value) (y : DataW H × List MemPlace), cs.length = k → DataW.trod enc P w base spare held n e cs = some y → ∃ x, R w (fun b => b < w.heap.size) x cs)
    (h : DataW.trod enc P w base spare held fuel t cs = some x) : ∃ (xs : List α) (v : Value), cs = [v] ∧ SlRep k R w (fun b => b < w.heap.size) xs v := by
  rcases open_slice ht h with ⟨h0, _⟩ | ⟨a, len, cap, m, n, D, Pl, hcs, hb, hl, hm, hmm, hx, hi⟩
  · exact ⟨[], _, h0, SlRep.nil_⟩
  · have hle : len ≤ m := by rw [hmm]; split <;> omega
    obtain ⟨xs, hxl, hxs⟩ := list_of (Q := fun i x => ∃ cs', R w (fun b => b < w.heap.size) x cs' ∧ cs'.length = k ∧ ∀ j, j < k → w.cell? ((a.add (i * k)).add j) = cs'[j]?) len (fun i hil => by
      obtain ⟨cs', hc, ht'⟩ := hi i (by omega)
      rw [hk] at hc
      obtain ⟨_, hcl, hat⟩ := World.cells?_some hc
      obtain ⟨x, hx⟩ := hel n cs' _ hcl ht'
      exact ⟨x, cs', hx, hcl, hat⟩)
    refine ⟨xs, _, hcs, some a, cap, by rw [hxl], by omega, by unfold maxLen at hm; omega, fun i x hx => ?_⟩
    obtain ⟨cs', hr, hcl, hat⟩ := hxs i x hx
    have h0 := hat 0 hpos
    rw [Go.Deep.add_add, Nat.add_zero, List.getElem?_eq_getElem (by omega)] at h0
    have hsp : a.spot = none := by
      obtain ⟨x0, hx0⟩ := get_at xs (show 0 < xs.length by have := lt_of_at hx; omega)
      obtain ⟨cs0, _, hcl0, hat0⟩ := hxs 0 x0 hx0
      have h00 := hat0 0 hpos
      rw [Nat.zero_mul] at h00
      have ha : (a.add 0).add 0 = a := rfl
      rw [ha, List.getElem?_eq_getElem (by omega)] at h00
      cases hs : a.spot with
      | none => rfl
      | some s =>
        unfold World.cell? at h00
        split at h00
        · simp [hs] at h00
        · cases h00
    have e0 := addr_add h0 hsp
    have hlt : a.block < w.heap.size := by
      rw [e0] at h0
      exact World.block_lt_of_cell? w ⟨a.block, a.off + i * k, none⟩ h0
    refine ⟨a.block, a.off, cs', by obtain ⟨b, o, s⟩ := a; simp only at hsp; subst hsp; rfl, hlt, hr, fun j u hu => ?_⟩
    have hj := hat j (by rw [← hcl]; exact lt_of_at hu)
    rw [hu, Go.Deep.add_add] at hj
    have := addr_add hj hsp
    rw [this] at hj
    rw [Nat.add_assoc]
    exact hj
end
section
variable {H : Type} {enc : TypeId × Value → H} {w : World} {base : Nat} {spare : Nat → Bool} {held : Bool}
set_option maxRecDepth 100000 in
theorem open_Label (n : Nat) (cs : List Value) (y : DataW H × List MemPlace) (hl : cs.length = 4) (h : DataW.trod enc Tryz.prog w base spare held n 127 cs = some y) : ∃ x : Label, flat Label.enc w (fun b => b < w.heap.size) x cs := by
  obtain ⟨ys, n', _, hy, hlen, hyl, hf⟩ := DataW.trod_struct Tryz.underlying127 h
  match cs, hl with
  | [c0, c1, c2, c3], _ =>
    match ys, hyl with
    | [y0, y1, y2, y3], _ =>
      have k0 : Tryz.prog.cellsOf 3 = 1 := by kernel_rfl
      have k1 : Tryz.prog.cellsOf 9 = 1 := by kernel_rfl
      have g0 := hf 0 _ rfl
      have g1 := hf 1 _ rfl
      have g2 := hf 2 _ rfl
      have g3 := hf 3 _ rfl
      simp [k0, k1] at g0 g1 g2 g3
      obtain ⟨a0, e0, _⟩ := DataW.trod_int Tryz.underlying3 g0
      obtain ⟨a1, e1, _⟩ := DataW.trod_string Tryz.underlying9 g1
      obtain ⟨a2, e2, _⟩ := DataW.trod_string Tryz.underlying9 g2
      obtain ⟨a3, e3, _⟩ := DataW.trod_int Tryz.underlying3 g3
      simp at e0 e1 e2 e3
      subst e0 e1 e2 e3
      exact ⟨⟨a0, a1, a2, a3⟩, rfl⟩
set_option maxRecDepth 100000 in
theorem open_Fact (n : Nat) (cs : List Value) (y : DataW H × List MemPlace) (hl : cs.length = 3) (h : DataW.trod enc Tryz.prog w base spare held n 93 cs = some y) : ∃ x : Fact, flat Fact.enc w (fun b => b < w.heap.size) x cs := by
  obtain ⟨ys, n', _, hy, hlen, hyl, hf⟩ := DataW.trod_struct Tryz.underlying93 h
  match cs, hl with
  | [c0, c1, c2], _ =>
    match ys, hyl with
    | [y0, y1, y2], _ =>
      have k0 : Tryz.prog.cellsOf 3 = 1 := by kernel_rfl
      have k1 : Tryz.prog.cellsOf 9 = 1 := by kernel_rfl
      have g0 := hf 0 _ rfl
      have g1 := hf 1 _ rfl
      have g2 := hf 2 _ rfl
      simp [k0, k1] at g0 g1 g2
      obtain ⟨a0, e0, _⟩ := DataW.trod_int Tryz.underlying3 g0
      obtain ⟨a1, e1, _⟩ := DataW.trod_string Tryz.underlying9 g1
      obtain ⟨a2, e2, _⟩ := DataW.trod_string Tryz.underlying9 g2
      simp at e0 e1 e2
      subst e0 e1 e2
      exact ⟨⟨a0, a1, a2⟩, rfl⟩
set_option maxRecDepth 100000 in
theorem open_Sheet (n : Nat) (cs : List Value) (y : DataW H × List MemPlace) (hl : cs.length = 6) (h : DataW.trod enc Tryz.prog w base spare held n 59 cs = some y) : ∃ x : Sheet, shtR w (fun b => b < w.heap.size) x cs := by
  obtain ⟨ys, n', _, hy, hlen, hyl, hf⟩ := DataW.trod_struct Tryz.underlying59 h
  match cs, hl with
  | [c0, c1, c2, c3, c4, c5], _ =>
    match ys, hyl with
    | [y0, y1, y2, y3, y4, y5], _ =>
      have k0 : Tryz.prog.cellsOf 57 = 1 := by kernel_rfl
      have k1 : Tryz.prog.cellsOf 3 = 1 := by kernel_rfl
      have k2 : Tryz.prog.cellsOf 9 = 1 := by kernel_rfl
      have g0 := hf 0 _ rfl
      have g1 := hf 1 _ rfl
      have g2 := hf 2 _ rfl
      have g3 := hf 3 _ rfl
      have g4 := hf 4 _ rfl
      have g5 := hf 5 _ rfl
      simp [k0, k1, k2] at g0 g1 g2 g3 g4 g5
      obtain ⟨a0, e0, _⟩ := DataW.trod_int Tryz.underlying3 g0
      obtain ⟨a1, e1, _⟩ := DataW.trod_int Tryz.underlying3 g1
      obtain ⟨a2, e2, _⟩ := DataW.trod_int Tryz.underlying3 g2
      obtain ⟨a3, e3, _⟩ := DataW.trod_string Tryz.underlying9 g3
      obtain ⟨a4, e4, _⟩ := DataW.trod_string Tryz.underlying9 g4
      obtain ⟨us, v, e5, hus⟩ := open_sl (R := flat Fact.enc) (k := 3) Tryz.underlying57 (by kernel_rfl) (by decide) open_Fact g5
      simp at e0 e1 e2 e3 e4 e5
      subst e0 e1 e2 e3 e4 e5
      exact ⟨⟨a0, a1, a2, a3, a4, us⟩, _, rfl, hus⟩
set_option maxRecDepth 100000 in
theorem open_Post (n : Nat) (cs : List Value) (y : DataW H × List MemPlace) (hl : cs.length = 4) (h : DataW.trod enc Tryz.prog w base spare held n 36 cs = some y) : ∃ x : Post, flat Post.enc w (fun b => b < w.heap.size) x cs := by
  obtain ⟨ys, n', _, hy, hlen, hyl, hf⟩ := DataW.trod_struct Tryz.underlying36 h
  match cs, hl with
  | [c0, c1, c2, c3], _ =>
    match ys, hyl with
    | [y0, y1, y2, y3], _ =>
      have k0 : Tryz.prog.cellsOf 3 = 1 := by kernel_rfl
      have k1 : Tryz.prog.cellsOf 9 = 1 := by kernel_rfl
      have g0 := hf 0 _ rfl
      have g1 := hf 1 _ rfl
      have g2 := hf 2 _ rfl
      have g3 := hf 3 _ rfl
      simp [k0, k1] at g0 g1 g2 g3
      obtain ⟨a0, e0, _⟩ := DataW.trod_string Tryz.underlying9 g0
      obtain ⟨a1, e1, _⟩ := DataW.trod_int Tryz.underlying3 g1
      obtain ⟨a2, e2, _⟩ := DataW.trod_int Tryz.underlying3 g2
      obtain ⟨a3, e3, _⟩ := DataW.trod_int Tryz.underlying3 g3
      simp at e0 e1 e2 e3
      subst e0 e1 e2 e3
      exact ⟨⟨a0, a1, a2, a3⟩, rfl⟩
theorem open_strE (n : Nat) (cs : List Value) (y : DataW H × List MemPlace) (hl : cs.length = 1) (h : DataW.trod enc Tryz.prog w base spare held n 9 cs = some y) : ∃ x : ByteArray, flat strEnc w (fun b => b < w.heap.size) x cs := by
  match cs, hl with
  | [c0], _ =>
    obtain ⟨a0, e0, _⟩ := DataW.trod_string Tryz.underlying9 h
    simp at e0
    subst e0
    exact ⟨a0, rfl⟩
set_option maxRecDepth 100000 in
theorem open_posts {r : Reach} {b0 : Nat} {v : Value} {d : DataW H} {p : List MemPlace} (hv : Value.okWide Tryz.prog w r b0 23 v) (h : DataW.Trod enc Tryz.prog w base spare held 23 v d p) : ∃ hs : List Post, Posts w w.heap.size hs v := by
  obtain ⟨fuel, hf⟩ := h
  obtain ⟨hs, v', e, hr⟩ := open_sl (R := flat Post.enc) (k := 4) Tryz.underlying23 (by kernel_rfl) (by decide) open_Post hf
  refine ⟨hs, ?_⟩
  obtain ⟨A, c, e2, _⟩ := id hr
  subst e2
  obtain ⟨A', n', c', rfl⟩ := okWide_slice Tryz.underlying23 hv
  have e' : [Value.slice A' n' c'] = [Value.slice A hs.length c] := e
  injection e' with e'
  rw [e']
  exact hr
set_option maxRecDepth 100000 in
theorem open_cat {r : Reach} {b0 : Nat} {v : Value} {d : DataW H} {p : List MemPlace} (hv : Value.okWide Tryz.prog w r b0 41 v) (h : DataW.Trod enc Tryz.prog w base spare held 41 v d p) :
    ∃ (c : Cat) (v1 v2 v3 : Value), v = .agg #[v1, v2, v3] ∧ CatRep w w.heap.size c v1 v2 v3 := by
  obtain ⟨v0, v1, v2, y0, y1, y2, n, rfl, _, _, h0, h1, h2⟩ := Joins.open_agg3 Tryz.underlying41 (by kernel_rfl) (by kernel_rfl) hv h
  obtain ⟨s0, u0, e0, g0⟩ := open_sl (R := flat strEnc) (k := 1) Tryz.underlying32 (by kernel_rfl) (by decide) open_strE h0
  obtain ⟨s1, u1, e1, g1⟩ := open_sl (R := flat Label.enc) (k := 4) Tryz.underlying38 (by kernel_rfl) (by decide) open_Label h1
  obtain ⟨s2, u2, e2, g2⟩ := open_sl (R := shtR) (k := 6) Tryz.underlying39 (by kernel_rfl) (by decide) open_Sheet h2
  simp at e0 e1 e2
  subst e0 e1 e2
  exact ⟨⟨s0, s1, s2⟩, _, _, _, rfl, ⟨g0, g1, g2⟩⟩
set_option maxRecDepth 100000 in
theorem open_Ask (n : Nat) (cs : List Value) (y : DataW H × List MemPlace) (hl : cs.length = 4) (h : DataW.trod enc Tryz.prog w base spare held n 53 cs = some y) : ∃ x : Ask, flat Ask.enc w (fun b => b < w.heap.size) x cs := by
  obtain ⟨ys, n', _, hy, hlen, hyl, hf⟩ := DataW.trod_struct Tryz.underlying53 h
  match cs, hl with
  | [c0, c1, c2, c3], _ =>
    match ys, hyl with
    | [y0, y1, y2, y3], _ =>
      have k0 : Tryz.prog.cellsOf 3 = 1 := by kernel_rfl
      have k1 : Tryz.prog.cellsOf 9 = 1 := by kernel_rfl
      have g0 := hf 0 _ rfl
      have g1 := hf 1 _ rfl
      have g2 := hf 2 _ rfl
      have g3 := hf 3 _ rfl
      simp [k0, k1] at g0 g1 g2 g3
      obtain ⟨a0, e0, _⟩ := DataW.trod_int Tryz.underlying3 g0
      obtain ⟨a1, e1, _⟩ := DataW.trod_int Tryz.underlying3 g1
      obtain ⟨a2, e2, _⟩ := DataW.trod_int Tryz.underlying3 g2
      obtain ⟨a3, e3, _⟩ := DataW.trod_string Tryz.underlying9 g3
      simp at e0 e1 e2 e3
      subst e0 e1 e2 e3
      exact ⟨⟨a0, a1, a2, a3⟩, rfl⟩
set_option maxRecDepth 100000 in
theorem open_Hit (n : Nat) (cs : List Value) (y : DataW H × List MemPlace) (hl : cs.length = 2) (h : DataW.trod enc Tryz.prog w base spare held n 30 cs = some y) : ∃ x : Hit, flat Hit.enc w (fun b => b < w.heap.size) x cs := by
  obtain ⟨ys, n', _, hy, hlen, hyl, hf⟩ := DataW.trod_struct Tryz.underlying30 h
  match cs, hl with
  | [c0, c1], _ =>
    match ys, hyl with
    | [y0, y1], _ =>
      have k0 : Tryz.prog.cellsOf 3 = 1 := by kernel_rfl
      have g0 := hf 0 _ rfl
      have g1 := hf 1 _ rfl
      simp [k0] at g0 g1
      obtain ⟨a0, e0, _⟩ := DataW.trod_int Tryz.underlying3 g0
      obtain ⟨a1, e1, _⟩ := DataW.trod_int Tryz.underlying3 g1
      simp at e0 e1
      subst e0 e1
      exact ⟨⟨a0, a1⟩, rfl⟩
set_option maxRecDepth 100000 in
theorem open_asks {r : Reach} {b0 : Nat} {v : Value} {d : DataW H} {p : List MemPlace} (hv : Value.okWide Tryz.prog w r b0 42 v) (h : DataW.Trod enc Tryz.prog w base spare held 42 v d p) : ∃ hs : List Ask, SlRep 4 (flat Ask.enc) w (fun b => b < w.heap.size) hs v := by
  obtain ⟨fuel, hf⟩ := h
  obtain ⟨hs, v', e, hr⟩ := open_sl (R := flat Ask.enc) (k := 4) Tryz.underlying42 (by kernel_rfl) (by decide) open_Ask hf
  refine ⟨hs, ?_⟩
  obtain ⟨A, c, e2, _⟩ := id hr
  subst e2
  obtain ⟨A', n', c', rfl⟩ := okWide_slice Tryz.underlying42 hv
  have e' : [Value.slice A' n' c'] = [Value.slice A hs.length c] := e
  injection e' with e'
  rw [e']
  exact hr
set_option maxRecDepth 100000 in
theorem open_hits {r : Reach} {b0 : Nat} {v : Value} {d : DataW H} {p : List MemPlace} (hv : Value.okWide Tryz.prog w r b0 22 v) (h : DataW.Trod enc Tryz.prog w base spare held 22 v d p) : ∃ hs : List Hit, SlRep 2 (flat Hit.enc) w (fun b => b < w.heap.size) hs v := by
  obtain ⟨fuel, hf⟩ := h
  obtain ⟨hs, v', e, hr⟩ := open_sl (R := flat Hit.enc) (k := 2) Tryz.underlying22 (by kernel_rfl) (by decide) open_Hit hf
  refine ⟨hs, ?_⟩
  obtain ⟨A, c, e2, _⟩ := id hr
  subst e2
  obtain ⟨A', n', c', rfl⟩ := okWide_slice Tryz.underlying22 hv
  have e' : [Value.slice A' n' c'] = [Value.slice A hs.length c] := e
  injection e' with e'
  rw [e']
  exact hr
set_option maxRecDepth 100000 in
theorem open_i64 {r : Reach} {b0 : Nat} {v : Value} {d : DataW H} {p : List MemPlace} (hv : Value.okWide Tryz.prog w r b0 3 v) (h : DataW.Trod enc Tryz.prog w base spare held 3 v d p) : ∃ n : Int, v = .int .i64 n ∧ -9223372036854775808 ≤ n ∧ n ≤ 9223372036854775807 := by
  obtain ⟨n, rfl, -, -, hw⟩ := open_int Tryz.underlying3 hv h
  exact ⟨n, rfl, bounds_i64 hw⟩
set_option maxRecDepth 100000 in
theorem open_u8 {r : Reach} {b0 : Nat} {v : Value} {d : DataW H} {p : List MemPlace} (hv : Value.okWide Tryz.prog w r b0 5 v) (h : DataW.Trod enc Tryz.prog w base spare held 5 v d p) : ∃ n : Int, v = .int .u8 n ∧ 0 ≤ n ∧ n ≤ 255 := by
  obtain ⟨n, rfl, -, -, hw⟩ := open_int Tryz.underlying5 hv h
  exact ⟨n, rfl, bounds_u8 hw⟩
set_option maxRecDepth 100000 in
theorem open_str_ {r : Reach} {b0 : Nat} {v : Value} {d : DataW H} {p : List MemPlace} (hv : Value.okWide Tryz.prog w r b0 9 v) (_ : DataW.Trod enc Tryz.prog w base spare held 9 v d p) : ∃ s : ByteArray, v = .string s := by
  exact okWide_string Tryz.underlying9 hv
end
open Go.ChangeShapes Go.WideShapes Go.ChangeAt Go.RowKit

section
variable {H : Type} {enc : TypeId × Value → H} {P : Program}
/-- the row's last step where only what was there before is known to stand -/
theorem post_below {f : Func} {s : ChangeSpec} {apart fresh handsOn again : Bool} {W W' : World} {args : Array Value} {v : Value} {ds gs : List (DataW H)} {before pa pv : List MemPlace}
    (hW : DataW.Whole enc P f.params.toList s.vars apart W args.toList ds gs before)
    (hres : ∀ (b : Nat) (sp : Nat → Bool) (hd : Bool), DataW.TrodAll enc P W' b sp hd f.resultTypes.toList (v.resultList f.resultTypes.size) (s.fn H (ds ++ gs)).results [])
    (hargs : ∀ sp : Nat → Bool, (∀ p ∈ before, sp p.block = true) → DataW.TrodAll enc P W' 0 sp true f.params.toList args.toList (s.fn H (ds ++ gs)).args pa)
    (hvars : ∀ sp : Nat → Bool, (∀ p ∈ before, sp p.block = true) → DataW.TrodVars enc P W' sp s.vars (s.fn H (ds ++ gs)).vars pv)
    (hps : before = pa ++ pv) (hb : Below W.heap.size W W')
    (hok : ∀ (j : Nat) (t : TypeId) (r : Value), f.resultTypes[j]? = some t → (v.resultList f.resultTypes.size)[j]? = some r → Value.okWide P W' .any 0 t r) :
    s.post enc P f apart fresh handsOn again W args v W' := by
  have hlt : ∀ p ∈ before, p.block < W.heap.size := fun p hp => hW.lt p hp
  have hold : ∀ p ∈ before, (fun b => decide (b < W.heap.size)) p.block = true := fun p hp => by simpa using hlt p hp
  refine ⟨ds, gs, before, [], pa, pv, hW, hres _ _ _, hargs _ hold, hvars _ hold, World.keptBut_mono (fun p hp => ⟨hp, ?_⟩) (hb.frame (· ∈ before)), fun _ => ?_⟩
  · rw [hps, List.mem_append] at hp
    exact Or.inr hp
  · obtain ⟨_, _, _, _, _, hz, hn⟩ := hW
    refine ⟨hok, _, _, ([] ++ pa) ++ pv, ⟨[] ++ pa, pv, trodAll_append (hargs _ (fun _ _ => rfl)) (hres _ _ _), hvars _ (fun _ _ => rfl), rfl, ?_, ?_⟩, ?_⟩
    · intro b off hp
      have hin : MemPlace.cell b off ∈ before := by rw [hps]; simpa using hp
      rw [hb.frozen (hlt _ hin)]
      exact hz b off hin
    · intro ha
      have := hn ha
      rw [hps] at this
      simpa using this
    · intro p hp _
      rw [hps]
      simpa using hp
end

theorem own_ : ownKnob Tryz.prog.godebug = none := by kernel_rfl
theorem laidOut_ : laidOutB Tryz.prog = true := by kernel_rfl

open Go.ChangeShapes Go.WideShapes Go.ChangeAt Go.RowKit

section
variable {H : Type} {enc : TypeId × Value → H}
/-- the row's wrap where both the listed variables and the world's shape are wanted -/
theorem handed_both {a : Assume} {C : Checked} {os : Os} {f : FuncId} {fn : Func} {s : ChangeSpec} {conds : List PathCond} {apart fresh handsOn again : Bool} {X : World → Array Value → Prop}
    (hX : ∀ (w w' : World) (args : Array Value), w.heap = w'.heap → X w args → X w' args)
    (own : ownKnob C.prog.godebug = none) (started : os.Started) (noInit : C.prog.inits.idxOf? f = none) (hfn : C.prog.funcs[f]? = some fn)
    (witness : ∃ (w : World) (tape : Tape) (i : Input), w.os = os ∧ (w.forCall tape i).Shaped C.prog ∧ i.vars = [] ∧ Input.okWide C.prog (w.forCall tape i) .any w.heap.size f i ∧
      ((s.pre enc C.prog fn conds apart (w.forCall tape i).memory i.args ∧ X (w.forCall tape i).memory i.args) ∧ sizedMet enc C.prog fn (OpenSpec.ofChange s) apart (w.forCall tape i).memory i.args) ∧ a.holds C.prog (lone (Frame.enter C.prog f i.args .normal) [] (w.forCall tape i)))
    (contract : ∀ (W : World) (base : Nat) (args : Array Value) (ds gs : List (DataW H)) (before : List MemPlace),
      (∀ (j : Nat) t v, fn.params[j]? = some t → args[j]? = some v → Value.okWide C.prog W .any base t v) →
      DataW.Whole enc C.prog fn.params.toList s.vars apart W args.toList ds gs before →
      W.ShapedOpen C.prog → X W args →
      Calls C.prog f args W fun e W' => ∃ v, e = .returned v ∧ s.post enc C.prog fn apart fresh handsOn again W args v W') :
    ReturnsInHanded a C os f .any (fun w args => (s.pre enc C.prog fn conds apart w args ∧ X w args) ∧ sizedMet enc C.prog fn (OpenSpec.ofChange s) apart w args) (s.post enc C.prog fn apart fresh handsOn again) := by
  refine returnsInHanded_of_calls own started noInit witness ?_
  intro w tape i _ hsh _ hok hpre _
  obtain ⟨_, _, _, fn', hfn', _, _, _, _, hval⟩ := hok
  have e : fn' = fn := Option.some.inj (hfn'.symm.trans hfn)
  subst e
  obtain ⟨⟨⟨ds, gs, before, hw, _⟩, hx⟩, _⟩ := hpre
  have hw' := DataW.Whole.of_heap (w' := w.forCall tape i) (by rfl) hw
  refine (contract (w.forCall tape i) w.heap.size i.args ds gs before hval hw' hsh (hX _ _ _ (by rfl) hx)).mono fun e W' ⟨v, he, hp⟩ => ?_
  subst he
  exact ChangeSpec.post_blind hp
end
theorem gTab : Tryz.prog.globalNamed "internal/strconv.uint64pow10" = some 1 := by kernel_rfl
theorem tTab : (Tryz.prog.globals[1]?).map (·.type) = some 220 := by kernel_rfl
abbrev laidM : List (String × DataW Unit) := [("math/bits.deBruijn32tab", Rows.laid_math_bits_deBruijn32tab), ("math/bits.deBruijn64tab", Rows.laid_math_bits_deBruijn64tab), ("internal/strconv.uint64pow10", Rows.laid_internal_strconv_uint64pow10), ("unicode/utf8.acceptRanges", Rows.laid_unicode_utf8_acceptRanges), ("unicode/utf8.first", Rows.laid_unicode_utf8_first)]
theorem var_of_laidM {W : World} (h : laidMetH Tryz.prog laidM W) (hs : W.ShapedOpen Tryz.prog) : VarOk W := by
  rw [MakeChecks.laidMetH_plain _ _ _ (by kernel_rfl)] at h
  refine ⟨?_, ?_⟩
  · exact cell_of_shapedOpen_int (g := 0) (t := 3) (zero := #[.int .i64 0]) hs (of_decide_eq_true (by kernel_rfl)) (by kernel_rfl) rfl (by kernel_rfl) (by kernel_rfl) Tryz.underlying3
  · exact Lib.tabIs_of_head gTab tTab Tryz.underlying220 Tryz.underlying166 (by kernel_rfl) (by kernel_rfl) h.tail.tail
/-- The world that lays the listed variables. -/
theorem lay_shapedM (os : Os) (args : Array Value) : ((World.laidAll Tryz.prog os laidM).forCall (fun _ _ => 0) ⟨#[], args, []⟩).Shaped Tryz.prog := by
  exact World.shaped_of_ZipB (by kernel_rfl) (by kernel_rfl)
theorem lay_metM (os : Os) (args : Array Value) : laidMetH Tryz.prog laidM ((World.laidAll Tryz.prog os laidM).forCall (fun _ _ => 0) ⟨#[], args, []⟩).memory := by
  rw [MakeChecks.laidMetH_plain _ _ _ (by kernel_rfl)]
  exact laidMet_laidAll _ (by kernel_rfl) (by kernel_rfl)
end Go.Proofs.YtngodakkdhdmjaaGreatDoor
