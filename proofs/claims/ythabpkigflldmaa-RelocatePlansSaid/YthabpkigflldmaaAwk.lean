/- The examples of the chapter: awake returns true. -/
import Derived.Test.YthabpkigflldmaaFwA
namespace Go.Proofs.Ythabpkigflldmaa

set_option maxRecDepth 100000 in
theorem ex_start2 : startE (exS 2) exB = 0 := by decide +kernel
set_option maxRecDepth 100000 in
theorem ex_poss2 : possE (exS 2) exB [1, 2] = 0 ∧ possE (exS 2) exB [2, 1] = 0 := by decide +kernel
set_option maxRecDepth 100000 in
theorem ex_poss3 : possE (exS 3) exB [1, 2] = 0 ∧ possE (exS 3) exB [2, 1] = 0 := by decide +kernel
set_option maxRecDepth 100000 in
theorem ex_plan2 : (planF (exS 2) exB [1, 2] [2, 1]).isNone = true := by decide +kernel
set_option maxRecDepth 100000 in
theorem ex_plan3 : ((planF (exS 3) exB [1, 2] [2, 1]).map fun p => p.map fun c => (c.box, c.from_, c.to_)) = some [(5, 1, 3), (6, 2, 1), (5, 3, 2)] := by decide +kernel
set_option maxRecDepth 100000 in
theorem ex_reach2 : (reachF (exS 2) exB [1, 2]).map Prod.fst = [[1, 2]] := by decide +kernel
set_option maxRecDepth 100000 in
theorem ex_closed2 : closedE (exS 2) exB [1, 2] [2, 1] [[1, 2]] = 0 := by decide +kernel
open Go.RowKit

theorem cell_atL {w : World} {g : Nat} {cs : Array Value} {t : TypeId} (h : w.heap[g]? = some (.cells cs t (0, 0))) (j : Nat) : w.cell? ⟨g, j, none⟩ = cs[j]? := by simp [World.cell?, h]
theorem flat_at {α : Type} {k : Nat} {enc : α → List Value} (hR : Shape k (flat enc)) {W : World} {g : Nat} {us : List α} {t : TypeId} {n : Nat} (h : W.heap[g]? = some (.cells (us.map enc).flatten.toArray t (0, 0))) (hn : n = us.length) (hb : us.length ≤ 9223372036854775807) : SlRep k (flat enc) W (fun b => b < W.heap.size) us (.slice (some ⟨g, 0, none⟩) n n) := by
  subst hn
  refine ⟨_, us.length, rfl, Nat.le_refl _, hb, fun i x hx => ⟨g, 0, enc x, rfl, (Array.getElem?_eq_some_iff.1 h).1, rfl, fun j u hu => ?_⟩⟩
  rw [cell_atL h]
  have := flatten_at (w := W) (F := fun _ => True) hR (xs := us) (css := us.map enc) (by simp) (fun i x cs hx hcs => by rw [List.getElem?_map, hx] at hcs; injection hcs with hcs; exact hcs.symm) i x (enc x) j u hx (by rw [List.getElem?_map, hx]; rfl) hu
  simpa using this
theorem heap_newL (w : World) (o : Obj) : (w.alloc o).heap[w.heap.size]? = some o := by
  show (w.heap.push o)[w.heap.size]? = _
  simp
/-- shelves and boxes, wherever they lie -/
structure LB (W : World) (ls : List Shelf) (bs : List Box) (vl vb : Value) : Prop where
  l : Shelves W W.heap.size ls vl
  b : Boxes W W.heap.size bs vb
theorem LB.below {W W' : World} {ls : List Shelf} {bs : List Box} {vl vb : Value} (h : LB W ls bs vl vb) (hb : Below W.heap.size W W') : LB W' ls bs vl vb := ⟨(h.l.below shS hb).mono shS hb.size, (h.b.below boS hb).mono boS hb.size⟩
def in2 (a b : Int) : Obj := .cells #[.int .i64 a, .int .i64 b] 3
theorem in2_rep (W : World) (a b : Int) : Ints (W.alloc (.cells #[.int .i64 a, .int .i64 b] 3)) (W.heap.size + 1) [a, b] (.slice (some ⟨W.heap.size, 0, none⟩) 2 2) := by
  have := flat_at inS (us := [a, b]) (n := 2) (t := 3) (heap_newL W (.cells #[.int .i64 a, .int .i64 b] 3)) rfl (by simp)
  simpa using this
theorem room_c (n : Nat) (hn : n ≤ 10) (w : World) : Calls Try.prog 37 #[.int .i64 (n : Int)] w fun e w' => ∃ v1 v2, e = .returned (.agg #[v1, v2]) ∧ LB w' (exS n) exB v1 v2 ∧ Below w.heap.size w w' :=
  (example_c n hn w).mono fun _ _ ⟨v1, v2, h1, h2, h3, h4⟩ => ⟨v1, v2, h1, ⟨h2, h3⟩, h4⟩
theorem allx_c (n : Nat) (hn : n ≤ 10) (v1 v2 : Value) (w : World) (h : LB w (exS n) exB v1 v2) : Calls Try.prog 12 #[.agg #[v1, v2]] w fun e w' => ∃ u1 u2, e = .returned (.tuple #[u1, u2]) ∧ LB w' (exS n) exB u1 u2 ∧ Below w.heap.size w w' :=
  (all_c (exS n) exB v1 v2 w w.heap.size (Nat.le_refl _) h.l h.b (by rw [exS_len]; omega) (by simp [exB]) (fun b hb => by simp [exB] at hb; rcases hb with rfl | rfl <;> simp)).mono fun _ _ ⟨a, b, h1, h2, h3, h4⟩ => ⟨a, b, h1, ⟨h2, h3⟩, h4⟩
theorem below_alloc (W : World) (o : Obj) : Below W.heap.size W (W.alloc o) := (Below.refl _ _).alloc (Nat.le_refl _) _
theorem in2_low {W W' : World} {a b : Int} (h : Below (W.heap.size + 1) (W.alloc (.cells #[.int .i64 a, .int .i64 b] 3)) W') : Ints W' W'.heap.size [a, b] (.slice (some ⟨W.heap.size, 0, none⟩) 2 2) := ((in2_rep W a b).below inS h).mono inS (by have := h.size; simpa using this)
abbrev cw1 (W : World) : World := W.alloc (.cells #[.int .i64 1, .int .i64 2] 3)
abbrev cw2 (W : World) : World := (cw1 W).alloc (.cells #[.int .i64 2, .int .i64 1] 3)
abbrev cw3 (W : World) : World := (cw2 W).alloc (.cells #[.int .i64 1, .int .i64 2] 3)
abbrev cw4 (W : World) : World := (cw3 W).alloc (.cells #[.slice (some ⟨W.heap.size + 2, 0, none⟩) 2 2] 26)
theorem cw4_facts (W : World) : Ints (cw4 W) (cw4 W).heap.size [1, 2] (.slice (some ⟨W.heap.size, 0, none⟩) 2 2) ∧ Ints (cw4 W) (cw4 W).heap.size [2, 1] (.slice (some ⟨W.heap.size + 1, 0, none⟩) 2 2) ∧ States (cw4 W) (cw4 W).heap.size [[1, 2]] (.slice (some ⟨W.heap.size + 3, 0, none⟩) 1 1) ∧ Below W.heap.size W (cw4 W) := by
  have b1 := below_alloc W (.cells #[.int .i64 1, .int .i64 2] 3)
  have b2 := below_alloc (cw1 W) (.cells #[.int .i64 2, .int .i64 1] 3)
  have b3 := below_alloc (cw2 W) (.cells #[.int .i64 1, .int .i64 2] 3)
  have b4 := below_alloc (cw3 W) (.cells #[.slice (some ⟨W.heap.size + 2, 0, none⟩) 2 2] 26)
  refine ⟨in2_low ((b2.trans (b3.mono (by simp))).trans (b4.mono (by simp)) |>.mono (by simp)), ?_, ?_, ((b1.trans (b2.mono (by simp))).trans (b3.mono (by simp; omega))).trans (b4.mono (by simp; omega))⟩
  · have := in2_low (W := cw1 W) (a := 2) (b := 1) ((b3.trans (b4.mono (by simp))).mono (by simp))
    simpa using this
  · have h := in2_rep (cw2 W) 1 2
    have h' : SlRep 1 (flat intEnc) (cw3 W) (fun b => b < (cw3 W).heap.size) [1, 2] (.slice (some ⟨W.heap.size + 2, 0, none⟩) 2 2) := by simpa using h
    have := SlRep.one_new saS (t := 26) (x := [1, 2]) (F := fun b => b < (cw3 W).heap.size) (w := cw3 W) (g := W.heap.size + 3) (cs := [.slice (some ⟨W.heap.size + 2, 0, none⟩) 2 2]) (by simp) ⟨_, rfl, h'⟩ (fun b h => h)
    exact this.monoF saS (fun b hb => by rcases hb with hb | hb <;> (simp at hb ⊢; omega))
abbrev sw1 (W : World) : World := W.alloc (.cells #[.int .i64 1, .int .i64 2] 3)
abbrev sw2 (W : World) : World := (sw1 W).alloc (.cells #[.slice (some ⟨W.heap.size, 0, none⟩) 2 2] 26)
theorem sw2_facts (W : World) : States (sw2 W) (sw2 W).heap.size [[1, 2]] (.slice (some ⟨W.heap.size + 1, 0, none⟩) 1 1) ∧ Below W.heap.size W (sw2 W) := by
  have b1 := below_alloc W (.cells #[.int .i64 1, .int .i64 2] 3)
  have b2 := below_alloc (sw1 W) (.cells #[.slice (some ⟨W.heap.size, 0, none⟩) 2 2] 26)
  refine ⟨?_, b1.trans (b2.mono (by simp))⟩
  have h := in2_rep W 1 2
  have h' : SlRep 1 (flat intEnc) (sw1 W) (fun b => b < (sw1 W).heap.size) [1, 2] (.slice (some ⟨W.heap.size, 0, none⟩) 2 2) := by simpa using h
  have := SlRep.one_new saS (t := 26) (x := [1, 2]) (F := fun b => b < (sw1 W).heap.size) (w := sw1 W) (g := W.heap.size + 1) (cs := [.slice (some ⟨W.heap.size, 0, none⟩) 2 2]) (by simp) ⟨_, rfl, h'⟩ (fun b h => h)
  exact this.monoF saS (fun b hb => by rcases hb with hb | hb <;> (simp at hb ⊢; omega))
theorem plan3 : planF (exS 3) exB [1, 2] [2, 1] = some [⟨5, 1, 3⟩, ⟨6, 2, 1⟩, ⟨5, 3, 2⟩] := by
  have h := ex_plan3
  cases hp : planF (exS 3) exB [1, 2] [2, 1] with
  | none => rw [hp] at h; cases h
  | some p =>
    rw [hp] at h
    simp only [Option.map_some, Option.some.injEq] at h
    have h2 : p = (p.map fun c => (c.box, c.from_, c.to_)).map (fun t : Int × Int × Int => (⟨t.1, t.2.1, t.2.2⟩ : Carry)) := by rw [List.map_map]; simp [Function.comp_def]
    rw [h2, h]
    rfl
theorem takeC {W : World} {F : Nat → Prop} {xs : List Carry} {A : Option Addr} {n c j : Nat} (h : SlRep 3 (flat Carry.enc) W F xs (.slice A n c)) (hj : j ≤ n) : SlRep 3 (flat Carry.enc) W F (xs.take j) (.slice A j c) := by
  obtain ⟨rfl, h1, h2⟩ := h.len_
  obtain ⟨A', c', e, _, _, h3⟩ := h
  injection e with e1 e2 e3
  subst e1 e3
  refine ⟨A, c, by rw [List.length_take]; congr 1; omega, by simp; omega, h2, fun i x hx => ?_⟩
  rw [List.getElem?_take] at hx
  split at hx
  · exact h3 i x hx
  · cases hx
set_option maxRecDepth 100000 in
set_option maxHeartbeats 8000000 in
theorem awake_c (w : World) : Calls Try.prog 10 #[] w fun e w' => e = .returned (.bool true) ∧ Below w.heap.size w w' := by
  have E2 := Lib.hid (fun (W : World) => show Calls Try.prog 37 #[.int .i64 2] W _ from room_c 2 (by omega) W)
  have E3 := Lib.hid (fun (W : World) => show Calls Try.prog 37 #[.int .i64 3] W _ from room_c 3 (by omega) W)
  go_enter Try.func10, Try.ntmps10
  go_wp2_with fail
  refine (E2.out w).mono ?_
  rintro e w1 ⟨v1, v2, rfl, h1, b1⟩
  go_wp2_with fail
  refine (allx_c 2 (by omega) v1 v2 w1 h1).mono ?_
  rintro e w2 ⟨vl, vb, rfl, h2, b2⟩
  have B2 := b1.trans (b2.mono b1.size)
  have hs2 := B2.size
  obtain ⟨Al, cl, rfl, -⟩ := id h2.l
  obtain ⟨Ab, cb, rfl, -⟩ := id h2.b
  have ha3 := below_alloc w2 (.cells #[.int .i64 1, .int .i64 2] 3)
  have ha4 := ha3.trans ((below_alloc (w2.alloc (.cells #[.int .i64 1, .int .i64 2] 3)) (.cells #[.int .i64 2, .int .i64 1] 3)).mono ha3.size)
  have r1 := (((in2_rep w2 1 2).below inS ((below_alloc (w2.alloc (.cells #[.int .i64 1, .int .i64 2] 3)) (.cells #[.int .i64 2, .int .i64 1] 3)).mono (by simp))).mono inS (show w2.heap.size + 1 ≤ w2.heap.size + 2 by omega))
  have r2 := in2_rep (w2.alloc (.cells #[.int .i64 1, .int .i64 2] 3)) 2 1
  simp only [World.size_alloc] at r2
  have h4 := h2.below ha4
  have HP := Lib.hid (Plan_none (exS 2) exB [1, 2] [2, 1] _ _ _ _ _ (w2.heap.size + 2) (by simp) (h4.l.mono shS (by simp)) (h4.b.mono boS (by simp)) r1 r2 ex_poss2.1 ex_poss2.2 (Option.isNone_iff_eq_none.1 ex_plan2))
  clear h4 r1 r2
  go_wp2_with fail
  refine HP.out.mono ?_
  rintro e w5 ⟨rfl, b5⟩
  have B5 := B2.trans ((ha4.mono (Nat.le_refl _)).trans (b5.mono ha4.size) |>.mono hs2)
  have hs5 := b5.size
  have h5 := (h2.below ha4).below b5
  clear h2 HP ha3 ha4 b1 b2 b5 h1
  obtain ⟨q1, q2, q3, q4⟩ := cw4_facts w5
  have h9 := h5.below q4
  have HC := Lib.hid (Closed_c (exS 2) exB [1, 2] [2, 1] [[1, 2]] _ _ _ _ _ (cw4 w5) (cw4 w5).heap.size (Nat.le_refl _) h9.l h9.b q1 q2 q3)
  rw [ex_closed2] at HC
  clear q1 q2 q3
  go_wp2_with fail
  refine HC.out.mono ?_
  rintro e w6 ⟨rfl, b6⟩
  have h6 := h9.below b6
  have b56 := q4.trans (b6.mono q4.size)
  have B6 := B5.trans (b56.mono B5.size)
  clear h9 HC q4 b6 h5 b56 B5
  go_wp2_with fail
  refine (E3.out w6).mono ?_
  rintro e w7 ⟨v3, v4, rfl, h7, b7⟩
  have h67 := h6.below b7
  have B7 := B6.trans (b7.mono B6.size)
  clear h6 B6
  go_wp2_with fail
  refine (allx_c 3 (by omega) v3 v4 w7 h7).mono ?_
  rintro e w8 ⟨vl3, vb3, rfl, h8, b8⟩
  have h68 := h67.below b8
  have B8 := B7.trans (b8.mono B7.size)
  obtain ⟨Al3, cl3, rfl, -⟩ := id h8.l
  obtain ⟨Ab3, cb3, rfl, -⟩ := id h8.b
  clear h67 B7 h7 b7 b8
  have ha3 := below_alloc w8 (.cells #[.int .i64 1, .int .i64 2] 3)
  have ha4 := ha3.trans ((below_alloc (w8.alloc (.cells #[.int .i64 1, .int .i64 2] 3)) (.cells #[.int .i64 2, .int .i64 1] 3)).mono ha3.size)
  have r1 := (((in2_rep w8 1 2).below inS ((below_alloc (w8.alloc (.cells #[.int .i64 1, .int .i64 2] 3)) (.cells #[.int .i64 2, .int .i64 1] 3)).mono (by simp))).mono inS (show w8.heap.size + 1 ≤ w8.heap.size + 2 by omega))
  have r2 := in2_rep (w8.alloc (.cells #[.int .i64 1, .int .i64 2] 3)) 2 1
  simp only [World.size_alloc] at r2
  have h4 := h8.below ha4
  have h69 := h68.below ha4
  have HP := Lib.hid (Plan_some (exS 3) exB [1, 2] [2, 1] _ _ _ _ _ (w8.heap.size + 2) (by simp) (h4.l.mono shS (by simp)) (h4.b.mono boS (by simp)) r1 r2 ex_poss3.1 ex_poss3.2 _ plan3)
  clear h4 r1 r2
  go_wp2_with fail
  refine HP.out.mono ?_
  rintro e w9 ⟨vp, rfl, hp9, b9⟩
  have h79 := h69.below b9
  have B9 := (B8.trans (ha4.mono B8.size)).trans (b9.mono (by have := B8.size; simp; omega))
  obtain ⟨Ap, cp, rfl, -, hcp, -⟩ := id hp9
  clear HP ha3 ha4 b9 h69 h68 h8 B8
  have ha5 := below_alloc w9 (.cells #[.int .i64 1, .int .i64 2] 3)
  have h89 := h79.below ha5
  have hp10 := (hp9.below caS ha5).mono caS ha5.size
  have HR := Lib.hid (Reached_ok (exS 2) exB [1, 2] _ _ _ _ (w9.heap.size + 1) (by simp) (h89.l.mono shS (by simp)) (h89.b.mono boS (by simp)) (in2_rep w9 1 2) ex_poss2.1)
  go_wp2_with fail
  refine HR.out.mono ?_
  rintro e w10 ⟨vr, ys, rfl, hperm, -, hownr, b10⟩
  rw [ex_reach2] at hperm
  obtain rfl := List.perm_singleton.1 hperm
  have hr10 := hownr.toSl saS
  have hp11 := (hp10.below caS b10).mono caS b10.size
  have B10 := (B9.trans (ha5.mono B9.size)).trans (b10.mono (by have := B9.size; simp; omega))
  obtain ⟨Ar, cr, rfl, -⟩ := id hr10
  clear hperm HR ha5 h89 h79 hp9 hp10 b10 hownr B9
  obtain ⟨s1, s2⟩ := sw2_facts w10
  have HS := Lib.hid (Calls.below_of (sameStates_c [[1, 2]] [[1, 2]] _ _ (sw2 w10) (sw2 w10).heap.size (Nat.le_refl _) ((hr10.below saS s2).mono saS s2.size) s1))
  rw [show eqL eqIs [[1, 2]] [[1, 2]] = true by decide] at HS
  have hp12 := (hp11.below caS s2).mono caS s2.size
  go_wp2_with fail
  refine HS.out.mono ?_
  rintro e w12 ⟨rfl, b12⟩
  have hp13 := (hp12.below caS b12).mono caS b12.size
  have B12 := (B10.trans (s2.mono B10.size)).trans (b12.mono (by have := B10.size; simp; omega))
  clear HS s1 s2 hr10 hp11 hp12 b12 B10
  have ha6 := below_alloc w12 (.cells #[.int .i64 5, .int .i64 1, .int .i64 3, .int .i64 6, .int .i64 2, .int .i64 1, .int .i64 5, .int .i64 3, .int .i64 2] 57)
  have e6 := flat_at caS (us := [⟨5, 1, 3⟩, ⟨6, 2, 1⟩, ⟨5, 3, 2⟩]) (n := 3) (t := 57) (heap_newL w12 (.cells #[.int .i64 5, .int .i64 1, .int .i64 3, .int .i64 6, .int .i64 2, .int .i64 1, .int .i64 5, .int .i64 3, .int .i64 2] 57)) rfl (by simp)
  have hp14 := (hp13.below caS ha6).mono caS ha6.size
  have HS := Lib.hid (Calls.below_of (same_c _ _ _ _ _ _ (Nat.le_refl _) hp14 e6))
  rw [show eqL eqC [(⟨5, 1, 3⟩ : Carry), ⟨6, 2, 1⟩, ⟨5, 3, 2⟩] [⟨5, 1, 3⟩, ⟨6, 2, 1⟩, ⟨5, 3, 2⟩] = true by decide] at HS
  go_wp2_with fail
  refine HS.out.mono ?_
  rintro e w13 ⟨rfl, b13⟩
  have hp15 := (hp14.below caS b13).mono caS b13.size
  have B13 := (B12.trans (ha6.mono B12.size)).trans (b13.mono (by have := B12.size; simp; omega))
  clear HS ha6 e6 hp13 hp14 b13 B12
  have hc3 : (3 : Nat) ≤ cp := by obtain ⟨_, h, _⟩ := hp15.len_; simpa using h
  have hc3i : (1 : Int) ≤ (cp : Int) := by omega
  have ht := takeC (j := 1) hp15 (by simp)
  have HV := Lib.hid (Reverse_c _ _ w13 _ (Nat.le_refl _) ht (by simp))
  rw [show backP (List.take 1 [(⟨5, 1, 3⟩ : Carry), ⟨6, 2, 1⟩, ⟨5, 3, 2⟩]) = [⟨5, 3, 1⟩] from rfl] at HV
  go_wp2_with fail
  refine HV.out.mono ?_
  rintro e w14 ⟨vv, rfl, hownv, b14⟩
  have hv14 := hownv.toSl caS
  have B14 := B13.trans (b14.mono B13.size)
  obtain ⟨Av, cv, rfl, -⟩ := id hv14
  clear HV ht hp15 hownv b14 B13 hc3 hc3i
  have ha7 := below_alloc w14 (.cells #[.int .i64 5, .int .i64 3, .int .i64 1] 57)
  have e7 := flat_at caS (us := [⟨5, 3, 1⟩]) (n := 1) (t := 57) (heap_newL w14 (.cells #[.int .i64 5, .int .i64 3, .int .i64 1] 57)) rfl (by simp)
  have HS := Lib.hid (Calls.below_of (same_c _ _ _ _ _ _ (Nat.le_refl _) ((hv14.below caS ha7).mono caS ha7.size) e7))
  rw [show eqL eqC [(⟨5, 3, 1⟩ : Carry)] [⟨5, 3, 1⟩] = true by decide] at HS
  go_wp2_with fail
  refine HS.out.mono ?_
  rintro e w15 ⟨rfl, b15⟩
  have B15 := (B14.trans (ha7.mono B14.size)).trans (b15.mono (by have := B14.size; simp; omega))
  clear HS ha7 e7 hv14 b15 B14
  go_wp2
  go_ret
  exact ⟨rfl, B15⟩
end Go.Proofs.Ythabpkigflldmaa
