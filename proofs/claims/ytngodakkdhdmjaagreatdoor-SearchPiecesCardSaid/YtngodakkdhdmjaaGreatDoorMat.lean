/- The program: whether a unit matches a query, by its tree. -/
import Derived.Test.YtngodakkdhdmjaaGreatDoorFou
import Derived.Test.YtngodakkdhdmjaaGreatDoorSus
import Derived.Test.YtngodakkdhdmjaaGreatDoorPrX
import Derived.Deep.RegionLaw
namespace Go.Proofs.YtngodakkdhdmjaaGreatDoor
open Go.RowKit

abbrev undB (c : Cat) (root u : Int) : Bool := decide (numU c root u ≠ ⟨#[]⟩)
abbrev mtPs (g1 g2 g3 g4 g5 g6 : Nat) : Array Value := #[.pointer (some ⟨g1, 0, none⟩), .pointer (some ⟨g2, 0, none⟩), .pointer (some ⟨g3, 0, none⟩), .pointer (some ⟨g4, 0, none⟩), .pointer (some ⟨g5, 0, none⟩), .pointer (some ⟨g6, 0, none⟩)]
/-- what the closure reads -/
structure MatAt (n : Nat) (c : Cat) (x : Sheet) (l : List Ask) (fs : List Wds) (vl vf v1 v2 v3 : Value) (g1 g2 g3 g4 g5 g6 : Nat) (W : World) : Prop where
  c1 : W.cell? ⟨g1, 0, none⟩ = some vl
  c2 : W.cell? ⟨g2, 0, none⟩ = some (.func (.func 72) #[] (mtPs g1 g2 g3 g4 g5 g6))
  c3 : W.cell? ⟨g3, 2, none⟩ = some (.int .i64 x.level)
  c40 : W.cell? ⟨g4, 0, none⟩ = some v1
  c41 : W.cell? ⟨g4, 1, none⟩ = some v2
  c42 : W.cell? ⟨g4, 2, none⟩ = some v3
  c5 : W.cell? ⟨g5, 0, none⟩ = some (.int .i64 x.unit)
  c6 : W.cell? ⟨g6, 0, none⟩ = some vf
  lt : g1 < W.heap.size ∧ g2 < W.heap.size ∧ g3 < W.heap.size ∧ g4 < W.heap.size ∧ g5 < W.heap.size ∧ g6 < W.heap.size
  sz : n ≤ W.heap.size
  rl : Asks W n l vl
  rf : Wdss W n fs vf
  rc : CatRep W n c v1 v2 v3
  ok : VarOk W
theorem MatAt.below {n : Nat} {c : Cat} {x : Sheet} {l : List Ask} {fs : List Wds} {vl vf v1 v2 v3 : Value} {g1 g2 g3 g4 g5 g6 : Nat} {w W : World} (h : MatAt n c x l fs vl vf v1 v2 v3 g1 g2 g3 g4 g5 g6 w) (hW : Below w.heap.size w W) : MatAt n c x l fs vl vf v1 v2 v3 g1 g2 g3 g4 g5 g6 W := by
  obtain ⟨l1, l2, l3, l4, l5, l6⟩ := h.lt
  have hs := hW.size
  exact ⟨(hW.cell (p := ⟨g1, 0, none⟩) l1).trans h.c1, (hW.cell (p := ⟨g2, 0, none⟩) l2).trans h.c2, (hW.cell (p := ⟨g3, 2, none⟩) l3).trans h.c3, (hW.cell (p := ⟨g4, 0, none⟩) l4).trans h.c40, (hW.cell (p := ⟨g4, 1, none⟩) l4).trans h.c41, (hW.cell (p := ⟨g4, 2, none⟩) l4).trans h.c42, (hW.cell (p := ⟨g5, 0, none⟩) l5).trans h.c5, (hW.cell (p := ⟨g6, 0, none⟩) l6).trans h.c6,
    ⟨by omega, by omega, by omega, by omega, by omega, by omega⟩, Nat.le_trans h.sz hs, h.rl.below askS (hW.mono h.sz), h.rf.below wdsS (hW.mono h.sz), h.rc.below (hW.mono h.sz), h.ok.below hW⟩
theorem drop_head {l : List Ask} {i : Nat} {a : Ask} {r : List Ask} (h : l.drop i = a :: r) : l[i]? = some a ∧ l.drop (i + 1) = r := by
  refine ⟨?_, ?_⟩
  · have := congrArg (fun z => z[0]?) h
    simpa [List.getElem?_drop] using this
  · rw [← List.drop_drop, h]; rfl
set_option maxRecDepth 100000 in
set_option maxHeartbeats 16000000 in
theorem match_c (c : Cat) (s : ByteArray) (x : Sheet) (l : List Ask) (fs : List Wds) (vl vf v1 v2 v3 : Value) (g1 g2 g3 g4 g5 g6 n : Nat) (hl : l.length ≤ 1000) (hs : ∀ a ∈ l, a.text.size ≤ 1000000) (hfl : ∀ f ∈ fs, f.list.length ≤ 1000000) (hfs : fs = fldF c s x) (h14 : catE c = 0 → c.sheets.length ≤ 14) :
    ∀ Q : Qt, Q.Fit → ∀ (i : Nat) (r : List Ask), l.drop i = Q.ls ++ r → ∀ W : World, MatAt n c x l fs vl vf v1 v2 v3 g1 g2 g3 g4 g5 g6 W →
      Calls Tryz.prog 72 (#[.int .i64 i] ++ mtPs g1 g2 g3 g4 g5 g6) W fun e w' => e = .returned (.bool (mchB c s (undB c) Q x)) ∧ Below W.heap.size W w'
  | .leaf a, hQ, i, r, hd, W, hM => by
    obtain ⟨hx, -⟩ := drop_head (show l.drop i = a :: r from hd)
    have hil := lt_of_at hx
    have hp : prtN a.op = 0 := hQ
    have h678 : a.op ≠ 6 ∧ a.op ≠ 7 ∧ a.op ≠ 8 := by
      unfold prtN at hp
      split at hp
      · omega
      · split at hp
        · omega
        · omega
    obtain ⟨h6, h7, h8⟩ := h678
    have e6 : (a.op == 6) = false := by simp [h6]
    have e7 : (a.op == 7) = false := by simp [h7]
    have e8 : (a.op == 8) = false := by simp [h8]
    have HE := Lib.hid (show mchB c s (undB c) (.leaf a) x = if a.op = 4 then decide (x.level = a.num) else if a.op = 5 then undB c a.num x.unit else fndB fs a by rw [hfs]; rfl)
    have hii : (i : Int) < (l.length : Int) := by omega
    have bA : Below W.heap.size W (W.alloc (askC a)) := (Below.refl _ _).alloc (Nat.le_refl _) _
    have HMA := Lib.hid (hM.below bA)
    have HNU := Lib.hid (Number_c c a.num x.unit v1 v2 v3 (W.alloc (askC a)) n HMA.out.sz HMA.out.rc h14)
    have HFO := Lib.hid (found_c fs a vf (W.alloc (askC a)) n HMA.out.sz HMA.out.rf (hs a (List.mem_of_getElem? hx)) hfl HMA.out.ok)
    obtain ⟨A, ca, rfl, -⟩ := id hM.rl
    obtain ⟨b, off, rfl, hbB, q0, q1, q2, q3⟩ := Asks.at_ hM.rl hx
    have hbw : b < W.heap.size := Nat.lt_of_lt_of_le hbB hM.sz
    obtain ⟨y0, y1, y2, y3, yl⟩ := askW_at (Below.refl (W.heap.size + 1) (W.alloc (askC a)))
    have m1 := hM.c1
    have m1l := hM.lt.1
    have k3 := HMA.out.c3
    have k40 := HMA.out.c40
    have k41 := HMA.out.c41
    have k42 := HMA.out.c42
    have k5 := HMA.out.c5
    have k6 := HMA.out.c6
    obtain ⟨l1, l2, l3, l4, l5, l6⟩ := HMA.out.lt
    obtain ⟨Af, cf, rfl, -⟩ := id hM.rf
    obtain ⟨A1, d1, rfl, -⟩ := id hM.rc.langs
    obtain ⟨A2, d2, rfl, -⟩ := id hM.rc.labels
    obtain ⟨A3, d3, rfl, -⟩ := id hM.rc.sheets
    clear hx hd hp hQ h6 h7 h8 hM hfs hfl hs h14
    by_cases h4 : a.op = 4
    · have e4 : (a.op == 4) = true := by rw [h4]; rfl
      have HX := Lib.hid (show mchB c s (undB c) (.leaf a) x = decide (x.level = a.num) by rw [HE.out, if_pos h4])
      clear h4 HE
      go_enter Tryz.func72, Tryz.ntmps72
      go_wp2
      go_ret
      exact ⟨ret_bool (by rw [HX.out]; rfl), bA⟩
    · have e4 : (a.op == 4) = false := by simp [h4]
      by_cases h5 : a.op = 5
      · have e5 : (a.op == 5) = true := by rw [h5]; rfl
        have HX := Lib.hid (show mchB c s (undB c) (.leaf a) x = undB c a.num x.unit by rw [HE.out, if_neg h4, if_pos h5])
        clear h4 h5 HE
        go_enter Tryz.func72, Tryz.ntmps72
        go_wp2_with fail
        refine HNU.out.mono ?_
        rintro e w1 ⟨rfl, hb1⟩
        go_wp2
        go_ret
        exact ⟨ret_bool (by rw [HX.out]; simp [undB]), bA.trans (hb1.mono bA.size)⟩
      · have e5 : (a.op == 5) = false := by simp [h5]
        have HX := Lib.hid (show mchB c s (undB c) (.leaf a) x = fndB fs a by rw [HE.out, if_neg h4, if_neg h5])
        clear h4 h5 HE
        go_enter Tryz.func72, Tryz.ntmps72
        go_wp2_with fail
        refine HFO.out.mono ?_
        rintro e w1 ⟨rfl, hb1⟩
        go_wp2
        go_ret
        exact ⟨ret_bool HX.out.symm, bA.trans (hb1.mono bA.size)⟩
  | .one a q, hQ, i, r, hd, W, hM => by
    obtain ⟨hx, hd1⟩ := drop_head (show l.drop i = a :: (q.ls ++ r) from hd)
    have hil := lt_of_at hx
    have hp : prtN a.op = 1 := hQ.1
    have h8 : a.op = 8 := by
      unfold prtN at hp
      split at hp
      · omega
      · split at hp
        · assumption
        · omega
    have e6 : (a.op == 6) = false := by rw [h8]; rfl
    have e7 : (a.op == 7) = false := by rw [h8]; rfl
    have e8 : (a.op == 8) = true := by rw [h8]; rfl
    have HE := Lib.hid (show mchB c s (undB c) (.one a q) x = !mchB c s (undB c) q x from rfl)
    have hii : (i : Int) < (l.length : Int) := by omega
    have hwi : IntKind.i64.wrap ((i : Int) + 1) = (i : Int) + 1 := IntWalk.i64_in _ (by omega)
    have bA : Below W.heap.size W (W.alloc (askC a)) := (Below.refl _ _).alloc (Nat.le_refl _) _
    have hMA := hM.below bA
    have HIH := Lib.hid (match_c c s x l fs vl vf v1 v2 v3 g1 g2 g3 g4 g5 g6 n hl hs hfl hfs h14 q hQ.2 (i + 1) r hd1 _ hMA)
    obtain ⟨A, ca, rfl, -⟩ := id hM.rl
    obtain ⟨b, off, rfl, hbB, q0, q1, q2, q3⟩ := Asks.at_ hM.rl hx
    have hbw : b < W.heap.size := Nat.lt_of_lt_of_le hbB hM.sz
    obtain ⟨y0, y1, y2, y3, yl⟩ := askW_at (Below.refl (W.heap.size + 1) (W.alloc (askC a)))
    have m1 := hM.c1
    have m1l := hM.lt.1
    have k2 := hMA.c2
    have l2 := hMA.lt.2.1
    clear hx hd hd1 hp hQ h8 hM hMA hfs hfl hs h14
    generalize mchB c s (undB c) q x = bq at *
    go_enter Tryz.func72, Tryz.ntmps72
    go_wp2_with fail
    refine HIH.out.mono ?_
    rintro e w1 ⟨rfl, hb1⟩
    go_wp2
    go_ret
    exact ⟨ret_bool HE.out.symm, bA.trans (hb1.mono bA.size)⟩
  | .two a p q, hQ, i, r, hd, W, hM => by
    obtain ⟨hx, hd1⟩ := drop_head (show l.drop i = a :: ((p.ls ++ q.ls) ++ r) from hd)
    rw [List.append_assoc] at hd1
    have hil := lt_of_at hx
    have hp : prtN a.op = 2 := hQ.1
    have h67 : a.op = 6 ∨ a.op = 7 := by
      unfold prtN at hp
      split at hp
      · assumption
      · split at hp <;> omega
    have hd2 : l.drop (i + 1 + p.ls.length) = q.ls ++ r := by rw [← List.drop_drop, hd1, List.drop_left]
    have haf := aftF_at hQ.2.1 hd1
    have hii : (i : Int) < (l.length : Int) := by omega
    have hwi : IntKind.i64.wrap ((i : Int) + 1) = (i : Int) + 1 := IntWalk.i64_in _ (by omega)
    have bA : Below W.heap.size W (W.alloc (askC a)) := (Below.refl _ _).alloc (Nat.le_refl _) _
    have hMA := hM.below bA
    obtain ⟨j, hj⟩ : ∃ j : Int, ((i + 1 + p.ls.length : Nat) : Int) = j := ⟨_, rfl⟩
    have HPP := Lib.hid (fun (W' : World) (hW : Below (W.alloc (askC a)).heap.size (W.alloc (askC a)) W') => (show Calls Tryz.prog 72 #[.int .i64 ((i : Int) + 1), .pointer (some ⟨g1, 0, none⟩), .pointer (some ⟨g2, 0, none⟩), .pointer (some ⟨g3, 0, none⟩), .pointer (some ⟨g4, 0, none⟩), .pointer (some ⟨g5, 0, none⟩), .pointer (some ⟨g6, 0, none⟩)] W' fun e w' => e = .returned (.bool (mchB c s (undB c) p x)) ∧ Below W'.heap.size W' w' from
      match_c c s x l fs vl vf v1 v2 v3 g1 g2 g3 g4 g5 g6 n hl hs hfl hfs h14 p hQ.2.1 (i + 1) (q.ls ++ r) hd1 W' (hMA.below hW)))
    have HQQ := Lib.hid (fun (W' : World) (hW : Below (W.alloc (askC a)).heap.size (W.alloc (askC a)) W') => (by
      have := match_c c s x l fs vl vf v1 v2 v3 g1 g2 g3 g4 g5 g6 n hl hs hfl hfs h14 q hQ.2.2 (i + 1 + p.ls.length) r hd2 W' (hMA.below hW)
      rw [hj] at this
      exact this : Calls Tryz.prog 72 #[.int .i64 j, .pointer (some ⟨g1, 0, none⟩), .pointer (some ⟨g2, 0, none⟩), .pointer (some ⟨g3, 0, none⟩), .pointer (some ⟨g4, 0, none⟩), .pointer (some ⟨g5, 0, none⟩), .pointer (some ⟨g6, 0, none⟩)] W' fun e w' => e = .returned (.bool (mchB c s (undB c) q x)) ∧ Below W'.heap.size W' w'))
    have HAF := Lib.hid (fun (W' : World) (hW : Below (W.alloc (askC a)).heap.size (W.alloc (askC a)) W') => (by
      have := after_c l (i + 1) vl W' n (hMA.below hW).sz (hMA.below hW).rl (by omega) (by omega)
      rw [haf, hj] at this
      exact this : Calls Tryz.prog 73 #[vl, .int .i64 ((i : Int) + 1)] W' fun e w' => e = .returned (.int .i64 j) ∧ W' = w'))
    have KEEP := Lib.hid (fun (W' : World) (hW : Below (W.alloc (askC a)).heap.size (W.alloc (askC a)) W') => (⟨(hMA.below hW).c2, (hMA.below hW).c1, (hMA.below hW).lt.1, (hMA.below hW).lt.2.1⟩ : W'.cell? ⟨g2, 0, none⟩ = some (.func (.func 72) #[] (mtPs g1 g2 g3 g4 g5 g6)) ∧ W'.cell? ⟨g1, 0, none⟩ = some vl ∧ g1 < W'.heap.size ∧ g2 < W'.heap.size))
    obtain ⟨A, ca, rfl, -⟩ := id hM.rl
    obtain ⟨b, off, rfl, hbB, q0, q1, q2, q3⟩ := Asks.at_ hM.rl hx
    have hbw : b < W.heap.size := Nat.lt_of_lt_of_le hbB hM.sz
    obtain ⟨y0, y1, y2, y3, yl⟩ := askW_at (Below.refl (W.heap.size + 1) (W.alloc (askC a)))
    have m1 := hM.c1
    have m1l := hM.lt.1
    have hb := (Below.refl (W.alloc (askC a)).heap.size (W.alloc (askC a))).drew
    rcases h67 with h6 | h7
    · have e6 : (a.op == 6) = true := by rw [h6]; rfl
      have HE := Lib.hid (show mchB c s (undB c) (.two a p q) x = (mchB c s (undB c) p x && mchB c s (undB c) q x) by unfold mchB; rw [evQ, if_pos h6])
      clear hx hd hd1 hd2 hp hQ h6 hM hMA hfs hfl hs h14 haf hj
      generalize mchB c s (undB c) p x = bp at *
      generalize mchB c s (undB c) q x = bq at *
      cases bp
      ·
        go_enter Tryz.func72, Tryz.ntmps72
        go_wp2
        refine wp_region_held_drew (S := (fun W' => W'.cell? ⟨g2, 0, none⟩ = some (.func (.func 72) #[] (mtPs g1 g2 g3 g4 g5 g6)) ∧ W'.cell? ⟨g1, 0, none⟩ = some (.slice (some ⟨b, off, none⟩) l.length ca) ∧ g1 < W'.heap.size ∧ g2 < W'.heap.size)) (by kernel_rfl) (by with_reducible exact KEEP.out _ hb) (fun hHeld0 => ?_)
        refine wpAnyH_take (i := 0) (oi := { dst := some 23, op := Go.Op.load 112 (Go.Operand.tmp 2), type := 112, pos := "query.go:394", after := #[], guard := none }) (v := ?_) rfl (by kernel_rfl) (by kernel_rfl) (by kernel_rfl) (fun _ _ _ h => h) (Or.inl ⟨by rfl, ?_⟩) hHeld0 ?_
        rotate_left
        · intro w hSw
          (try dsimp only at hSw)
          go_simp
          (try with_reducible rfl)
        (try simp only [Act.put, List.setIfInBounds_toArray, List.set_cons_zero, List.set_cons_succ])
        refine wpAnyH_take (i := 1) (oi := { dst := some 24, op := Go.Op.move (Go.Operand.tmp 0), type := 3, pos := "query.go:394", after := #[], guard := none }) (v := ?_) rfl (by kernel_rfl) (by kernel_rfl) (by kernel_rfl) (fun _ _ _ h => h) (Or.inl ⟨by rfl, ?_⟩) hHeld0 ?_
        rotate_left
        · intro w hSw
          (try dsimp only at hSw)
          go_simp
          (try with_reducible rfl)
        (try simp only [Act.put, List.setIfInBounds_toArray, List.set_cons_zero, List.set_cons_succ])
        refine wpAnyH_take (i := 2) (oi := { dst := some 25, op := Go.Op.binOp Go.BinOp.add 3 (Go.Operand.tmp 24) (Go.Operand.const (Go.Value.int Go.IntKind.i64 1)) 3, type := 3, pos := "query.go:394", after := #[{ on := 1, ground := Go.Ground.data }], guard := none }) (v := ?_) rfl (by kernel_rfl) (by kernel_rfl) (by kernel_rfl) (fun _ _ _ h => h) (Or.inl ⟨by rfl, ?_⟩) hHeld0 ?_
        rotate_left
        · intro w hSw
          (try dsimp only at hSw)
          go_simp
          (try with_reducible rfl)
        (try simp only [Act.put, List.setIfInBounds_toArray, List.set_cons_zero, List.set_cons_succ])
        refine wpAnyH_ready (rs := [3]) (by kernel_rfl) (by simp) ?_
        refine AllReadyH.cons (o := { dst := some 26, op := Go.Op.call { callee := Go.Callee.value (Go.Operand.tmp 23), args := #[Go.Operand.tmp 25], argTypes := #[3] }, type := 4, pos := "query.go:394", after := #[{ on := 0, ground := Go.Ground.data }, { on := 2, ground := Go.Ground.data }], guard := none }) rfl (fun K hK => ?_) AllReadyH.nil
        go_simp
        go_at_call 72
        (with_reducible refine (HPP.out _ hb).mono ?_)
        rintro e w5 ⟨rfl, hb5⟩
        have hb := hb.trans (hb5.mono hb.size)
        refine hK.out _ _ (by with_reducible exact KEEP.out _ hb) (fun hHeld1 => ?_)
        clear hK K hHeld0
        (try simp only [Act.put, List.setIfInBounds_toArray, List.set_cons_zero, List.set_cons_succ])
        refine wpAnyH_take (i := 4) (oi := { dst := some 27, op := Go.Op.move (Go.Operand.tmp 26), type := 4, pos := "query.go:394", after := #[{ on := 3, ground := Go.Ground.data }, { on := 3, ground := Go.Ground.chain }], guard := none }) (v := ?_) rfl (by kernel_rfl) (by kernel_rfl) (by kernel_rfl) (fun _ _ _ h => h) (Or.inl ⟨by rfl, ?_⟩) hHeld1 ?_
        rotate_left
        · intro w hSw
          (try dsimp only at hSw)
          go_simp
          (try with_reducible rfl)
        (try simp only [Act.put, List.setIfInBounds_toArray, List.set_cons_zero, List.set_cons_succ])
        refine wpAnyH_take (i := 5) (oi := { dst := some 28, op := Go.Op.load 112 (Go.Operand.tmp 2), type := 112, pos := "query.go:394", after := #[{ on := 4, ground := Go.Ground.guard }], guard := some (4, true) }) (v := undef) rfl (by kernel_rfl) (by kernel_rfl) (by kernel_rfl) (fun _ _ _ h => h) (Or.inr ⟨by rfl, rfl⟩) hHeld1 ?_
        (try simp only [Act.put, List.setIfInBounds_toArray, List.set_cons_zero, List.set_cons_succ])
        refine wpAnyH_take (i := 6) (oi := { dst := some 29, op := Go.Op.load 42 (Go.Operand.tmp 1), type := 42, pos := "query.go:394", after := #[{ on := 4, ground := Go.Ground.guard }], guard := some (4, true) }) (v := undef) rfl (by kernel_rfl) (by kernel_rfl) (by kernel_rfl) (fun _ _ _ h => h) (Or.inr ⟨by rfl, rfl⟩) hHeld1 ?_
        (try simp only [Act.put, List.setIfInBounds_toArray, List.set_cons_zero, List.set_cons_succ])
        refine wpAnyH_take (i := 7) (oi := { dst := some 30, op := Go.Op.move (Go.Operand.tmp 0), type := 3, pos := "query.go:394", after := #[{ on := 4, ground := Go.Ground.guard }], guard := some (4, true) }) (v := undef) rfl (by kernel_rfl) (by kernel_rfl) (by kernel_rfl) (fun _ _ _ h => h) (Or.inr ⟨by rfl, rfl⟩) hHeld1 ?_
        (try simp only [Act.put, List.setIfInBounds_toArray, List.set_cons_zero, List.set_cons_succ])
        refine wpAnyH_take (i := 8) (oi := { dst := some 31, op := Go.Op.binOp Go.BinOp.add 3 (Go.Operand.tmp 30) (Go.Operand.const (Go.Value.int Go.IntKind.i64 1)) 3, type := 3, pos := "query.go:394", after := #[{ on := 7, ground := Go.Ground.data }, { on := 4, ground := Go.Ground.guard }], guard := some (4, true) }) (v := undef) rfl (by kernel_rfl) (by kernel_rfl) (by kernel_rfl) (fun _ _ _ h => h) (Or.inr ⟨by rfl, rfl⟩) hHeld1 ?_
        (try simp only [Act.put, List.setIfInBounds_toArray, List.set_cons_zero, List.set_cons_succ])
        refine wpAnyH_take (i := 9) (oi := { dst := some 32, op := Go.Op.call { callee := Go.Callee.value (Go.Operand.func 73), args := #[Go.Operand.tmp 29, Go.Operand.tmp 31], argTypes := #[42, 3] }, type := 3, pos := "query.go:394", after := #[{ on := 6, ground := Go.Ground.data }, { on := 8, ground := Go.Ground.data }, { on := 4, ground := Go.Ground.chain }, { on := 4, ground := Go.Ground.guard }], guard := some (4, true) }) (v := undef) rfl (by kernel_rfl) (by kernel_rfl) (by kernel_rfl) (fun _ _ _ h => h) (Or.inr ⟨by rfl, rfl⟩) hHeld1 ?_
        (try simp only [Act.put, List.setIfInBounds_toArray, List.set_cons_zero, List.set_cons_succ])
        refine wpAnyH_take (i := 10) (oi := { dst := some 33, op := Go.Op.call { callee := Go.Callee.value (Go.Operand.tmp 28), args := #[Go.Operand.tmp 32], argTypes := #[3] }, type := 4, pos := "query.go:394", after := #[{ on := 5, ground := Go.Ground.data }, { on := 9, ground := Go.Ground.data }, { on := 9, ground := Go.Ground.chain }, { on := 4, ground := Go.Ground.guard }], guard := some (4, true) }) (v := undef) rfl (by kernel_rfl) (by kernel_rfl) (by kernel_rfl) (fun _ _ _ h => h) (Or.inr ⟨by rfl, rfl⟩) hHeld1 ?_
        (try simp only [Act.put, List.setIfInBounds_toArray, List.set_cons_zero, List.set_cons_succ])
        refine wpAnyH_take (i := 11) (oi := { dst := some 34, op := Go.Op.pick (Go.Operand.tmp 27) (Go.Operand.tmp 33) (Go.Operand.const (Go.Value.bool false)), type := 4, pos := "query.go:394", after := #[{ on := 4, ground := Go.Ground.data }, { on := 10, ground := Go.Ground.data }], guard := none }) (v := ?_) rfl (by kernel_rfl) (by kernel_rfl) (by kernel_rfl) (fun _ _ _ h => h) (Or.inl ⟨by rfl, ?_⟩) hHeld1 ?_
        rotate_left
        · intro w hSw
          (try dsimp only at hSw)
          go_simp
          (try with_reducible rfl)
        (try simp only [Act.put, List.setIfInBounds_toArray, List.set_cons_zero, List.set_cons_succ])
        refine wpAnyH_take (i := 12) (oi := { dst := some 8, op := Go.Op.assign (Go.Operand.tmp 34), type := 4, pos := "query.go:394", after := #[{ on := 11, ground := Go.Ground.data }, { on := 10, ground := Go.Ground.chain }, { on := 0, ground := Go.Ground.phase }, { on := 1, ground := Go.Ground.phase }, { on := 2, ground := Go.Ground.phase }, { on := 3, ground := Go.Ground.phase }, { on := 4, ground := Go.Ground.phase }, { on := 5, ground := Go.Ground.phase }, { on := 6, ground := Go.Ground.phase }, { on := 7, ground := Go.Ground.phase }, { on := 8, ground := Go.Ground.phase }, { on := 9, ground := Go.Ground.phase }, { on := 10, ground := Go.Ground.phase }, { on := 11, ground := Go.Ground.phase }], guard := none }) (v := ?_) rfl (by kernel_rfl) (by kernel_rfl) (by kernel_rfl) (fun _ _ _ h => h) (Or.inl ⟨by rfl, ?_⟩) hHeld1 ?_
        rotate_left
        · intro w hSw
          (try dsimp only at hSw)
          go_simp
          (try with_reducible rfl)
        (try simp only [Act.put, List.setIfInBounds_toArray, List.set_cons_zero, List.set_cons_succ])
        refine wpAnyH_done (by kernel_rfl) ?_ _
        go_wp2
        go_ret
        exact ⟨ret_bool (by rw [HE.out]; rfl), bA.trans (hb.mono bA.size)⟩
      ·
        go_enter Tryz.func72, Tryz.ntmps72
        go_wp2
        obtain ⟨t2, t1, t1l, t2l⟩ := KEEP.out _ hb
        go_region_law (first
          | (go_simp; go_at_call 73; refine (HAF.out _ hb).mono ?_; rintro e w7 ⟨rfl, rfl⟩)
          | (go_simp; go_at_call 72; (with_reducible refine (HPP.out _ hb).mono ?_); rintro e w5 ⟨rfl, hb5⟩; have hb := hb.trans (hb5.mono hb.size); obtain ⟨t2, t1, t1l, t2l⟩ := KEEP.out _ hb)
          | (go_simp; go_at_call 72; (with_reducible refine (HQQ.out _ hb).mono ?_); rintro e w6 ⟨rfl, hb6⟩; have hb := hb.trans (hb6.mono hb.size); obtain ⟨t2, t1, t1l, t2l⟩ := KEEP.out _ hb))
        all_goals
          go_wp2
          go_ret
          exact ⟨ret_bool (by rw [HE.out]; rfl), bA.trans (hb.mono bA.size)⟩
    · have e6 : (a.op == 6) = false := by rw [h7]; rfl
      have e7 : (a.op == 7) = true := by rw [h7]; rfl
      have HE := Lib.hid (show mchB c s (undB c) (.two a p q) x = (mchB c s (undB c) p x || mchB c s (undB c) q x) by unfold mchB; rw [evQ, if_neg (by omega)])
      clear hx hd hd1 hd2 hp hQ h7 hM hMA hfs hfl hs h14 haf hj
      generalize mchB c s (undB c) p x = bp at *
      generalize mchB c s (undB c) q x = bq at *
      cases bp
      ·
        go_enter Tryz.func72, Tryz.ntmps72
        go_wp2
        obtain ⟨t2, t1, t1l, t2l⟩ := KEEP.out _ hb
        go_region_law (first
          | (go_simp; go_at_call 73; refine (HAF.out _ hb).mono ?_; rintro e w7 ⟨rfl, rfl⟩)
          | (go_simp; go_at_call 72; (with_reducible refine (HPP.out _ hb).mono ?_); rintro e w5 ⟨rfl, hb5⟩; have hb := hb.trans (hb5.mono hb.size); obtain ⟨t2, t1, t1l, t2l⟩ := KEEP.out _ hb)
          | (go_simp; go_at_call 72; (with_reducible refine (HQQ.out _ hb).mono ?_); rintro e w6 ⟨rfl, hb6⟩; have hb := hb.trans (hb6.mono hb.size); obtain ⟨t2, t1, t1l, t2l⟩ := KEEP.out _ hb))
        all_goals
          go_wp2
          go_ret
          exact ⟨ret_bool (by rw [HE.out]; rfl), bA.trans (hb.mono bA.size)⟩
      ·
        go_enter Tryz.func72, Tryz.ntmps72
        go_wp2
        refine wp_region_held_drew (S := (fun W' => W'.cell? ⟨g2, 0, none⟩ = some (.func (.func 72) #[] (mtPs g1 g2 g3 g4 g5 g6)) ∧ W'.cell? ⟨g1, 0, none⟩ = some (.slice (some ⟨b, off, none⟩) l.length ca) ∧ g1 < W'.heap.size ∧ g2 < W'.heap.size)) (by kernel_rfl) (by with_reducible exact KEEP.out _ hb) (fun hHeld0 => ?_)
        refine wpAnyH_take (i := 0) (oi := { dst := some 37, op := Go.Op.load 112 (Go.Operand.tmp 2), type := 112, pos := "query.go:396", after := #[], guard := none }) (v := ?_) rfl (by kernel_rfl) (by kernel_rfl) (by kernel_rfl) (fun _ _ _ h => h) (Or.inl ⟨by rfl, ?_⟩) hHeld0 ?_
        rotate_left
        · intro w hSw
          (try dsimp only at hSw)
          go_simp
          (try with_reducible rfl)
        (try simp only [Act.put, List.setIfInBounds_toArray, List.set_cons_zero, List.set_cons_succ])
        refine wpAnyH_take (i := 1) (oi := { dst := some 38, op := Go.Op.move (Go.Operand.tmp 0), type := 3, pos := "query.go:396", after := #[], guard := none }) (v := ?_) rfl (by kernel_rfl) (by kernel_rfl) (by kernel_rfl) (fun _ _ _ h => h) (Or.inl ⟨by rfl, ?_⟩) hHeld0 ?_
        rotate_left
        · intro w hSw
          (try dsimp only at hSw)
          go_simp
          (try with_reducible rfl)
        (try simp only [Act.put, List.setIfInBounds_toArray, List.set_cons_zero, List.set_cons_succ])
        refine wpAnyH_take (i := 2) (oi := { dst := some 39, op := Go.Op.binOp Go.BinOp.add 3 (Go.Operand.tmp 38) (Go.Operand.const (Go.Value.int Go.IntKind.i64 1)) 3, type := 3, pos := "query.go:396", after := #[{ on := 1, ground := Go.Ground.data }], guard := none }) (v := ?_) rfl (by kernel_rfl) (by kernel_rfl) (by kernel_rfl) (fun _ _ _ h => h) (Or.inl ⟨by rfl, ?_⟩) hHeld0 ?_
        rotate_left
        · intro w hSw
          (try dsimp only at hSw)
          go_simp
          (try with_reducible rfl)
        (try simp only [Act.put, List.setIfInBounds_toArray, List.set_cons_zero, List.set_cons_succ])
        refine wpAnyH_ready (rs := [3]) (by kernel_rfl) (by simp) ?_
        refine AllReadyH.cons (o := { dst := some 40, op := Go.Op.call { callee := Go.Callee.value (Go.Operand.tmp 37), args := #[Go.Operand.tmp 39], argTypes := #[3] }, type := 4, pos := "query.go:396", after := #[{ on := 0, ground := Go.Ground.data }, { on := 2, ground := Go.Ground.data }], guard := none }) rfl (fun K hK => ?_) AllReadyH.nil
        go_simp
        go_at_call 72
        (with_reducible refine (HPP.out _ hb).mono ?_)
        rintro e w5 ⟨rfl, hb5⟩
        have hb := hb.trans (hb5.mono hb.size)
        refine hK.out _ _ (by with_reducible exact KEEP.out _ hb) (fun hHeld1 => ?_)
        clear hK K hHeld0
        (try simp only [Act.put, List.setIfInBounds_toArray, List.set_cons_zero, List.set_cons_succ])
        refine wpAnyH_take (i := 4) (oi := { dst := some 41, op := Go.Op.move (Go.Operand.tmp 40), type := 4, pos := "query.go:396", after := #[{ on := 3, ground := Go.Ground.data }, { on := 3, ground := Go.Ground.chain }], guard := none }) (v := ?_) rfl (by kernel_rfl) (by kernel_rfl) (by kernel_rfl) (fun _ _ _ h => h) (Or.inl ⟨by rfl, ?_⟩) hHeld1 ?_
        rotate_left
        · intro w hSw
          (try dsimp only at hSw)
          go_simp
          (try with_reducible rfl)
        (try simp only [Act.put, List.setIfInBounds_toArray, List.set_cons_zero, List.set_cons_succ])
        refine wpAnyH_take (i := 5) (oi := { dst := some 42, op := Go.Op.load 112 (Go.Operand.tmp 2), type := 112, pos := "query.go:396", after := #[{ on := 4, ground := Go.Ground.guard }], guard := some (4, false) }) (v := undef) rfl (by kernel_rfl) (by kernel_rfl) (by kernel_rfl) (fun _ _ _ h => h) (Or.inr ⟨by rfl, rfl⟩) hHeld1 ?_
        (try simp only [Act.put, List.setIfInBounds_toArray, List.set_cons_zero, List.set_cons_succ])
        refine wpAnyH_take (i := 6) (oi := { dst := some 43, op := Go.Op.load 42 (Go.Operand.tmp 1), type := 42, pos := "query.go:396", after := #[{ on := 4, ground := Go.Ground.guard }], guard := some (4, false) }) (v := undef) rfl (by kernel_rfl) (by kernel_rfl) (by kernel_rfl) (fun _ _ _ h => h) (Or.inr ⟨by rfl, rfl⟩) hHeld1 ?_
        (try simp only [Act.put, List.setIfInBounds_toArray, List.set_cons_zero, List.set_cons_succ])
        refine wpAnyH_take (i := 7) (oi := { dst := some 44, op := Go.Op.move (Go.Operand.tmp 0), type := 3, pos := "query.go:396", after := #[{ on := 4, ground := Go.Ground.guard }], guard := some (4, false) }) (v := undef) rfl (by kernel_rfl) (by kernel_rfl) (by kernel_rfl) (fun _ _ _ h => h) (Or.inr ⟨by rfl, rfl⟩) hHeld1 ?_
        (try simp only [Act.put, List.setIfInBounds_toArray, List.set_cons_zero, List.set_cons_succ])
        refine wpAnyH_take (i := 8) (oi := { dst := some 45, op := Go.Op.binOp Go.BinOp.add 3 (Go.Operand.tmp 44) (Go.Operand.const (Go.Value.int Go.IntKind.i64 1)) 3, type := 3, pos := "query.go:396", after := #[{ on := 7, ground := Go.Ground.data }, { on := 4, ground := Go.Ground.guard }], guard := some (4, false) }) (v := undef) rfl (by kernel_rfl) (by kernel_rfl) (by kernel_rfl) (fun _ _ _ h => h) (Or.inr ⟨by rfl, rfl⟩) hHeld1 ?_
        (try simp only [Act.put, List.setIfInBounds_toArray, List.set_cons_zero, List.set_cons_succ])
        refine wpAnyH_take (i := 9) (oi := { dst := some 46, op := Go.Op.call { callee := Go.Callee.value (Go.Operand.func 73), args := #[Go.Operand.tmp 43, Go.Operand.tmp 45], argTypes := #[42, 3] }, type := 3, pos := "query.go:396", after := #[{ on := 6, ground := Go.Ground.data }, { on := 8, ground := Go.Ground.data }, { on := 4, ground := Go.Ground.chain }, { on := 4, ground := Go.Ground.guard }], guard := some (4, false) }) (v := undef) rfl (by kernel_rfl) (by kernel_rfl) (by kernel_rfl) (fun _ _ _ h => h) (Or.inr ⟨by rfl, rfl⟩) hHeld1 ?_
        (try simp only [Act.put, List.setIfInBounds_toArray, List.set_cons_zero, List.set_cons_succ])
        refine wpAnyH_take (i := 10) (oi := { dst := some 47, op := Go.Op.call { callee := Go.Callee.value (Go.Operand.tmp 42), args := #[Go.Operand.tmp 46], argTypes := #[3] }, type := 4, pos := "query.go:396", after := #[{ on := 5, ground := Go.Ground.data }, { on := 9, ground := Go.Ground.data }, { on := 9, ground := Go.Ground.chain }, { on := 4, ground := Go.Ground.guard }], guard := some (4, false) }) (v := undef) rfl (by kernel_rfl) (by kernel_rfl) (by kernel_rfl) (fun _ _ _ h => h) (Or.inr ⟨by rfl, rfl⟩) hHeld1 ?_
        (try simp only [Act.put, List.setIfInBounds_toArray, List.set_cons_zero, List.set_cons_succ])
        refine wpAnyH_take (i := 11) (oi := { dst := some 48, op := Go.Op.pick (Go.Operand.tmp 41) (Go.Operand.const (Go.Value.bool true)) (Go.Operand.tmp 47), type := 4, pos := "query.go:396", after := #[{ on := 4, ground := Go.Ground.data }, { on := 10, ground := Go.Ground.data }], guard := none }) (v := ?_) rfl (by kernel_rfl) (by kernel_rfl) (by kernel_rfl) (fun _ _ _ h => h) (Or.inl ⟨by rfl, ?_⟩) hHeld1 ?_
        rotate_left
        · intro w hSw
          (try dsimp only at hSw)
          go_simp
          (try with_reducible rfl)
        (try simp only [Act.put, List.setIfInBounds_toArray, List.set_cons_zero, List.set_cons_succ])
        refine wpAnyH_take (i := 12) (oi := { dst := some 8, op := Go.Op.assign (Go.Operand.tmp 48), type := 4, pos := "query.go:396", after := #[{ on := 11, ground := Go.Ground.data }, { on := 10, ground := Go.Ground.chain }, { on := 0, ground := Go.Ground.phase }, { on := 1, ground := Go.Ground.phase }, { on := 2, ground := Go.Ground.phase }, { on := 3, ground := Go.Ground.phase }, { on := 4, ground := Go.Ground.phase }, { on := 5, ground := Go.Ground.phase }, { on := 6, ground := Go.Ground.phase }, { on := 7, ground := Go.Ground.phase }, { on := 8, ground := Go.Ground.phase }, { on := 9, ground := Go.Ground.phase }, { on := 10, ground := Go.Ground.phase }, { on := 11, ground := Go.Ground.phase }], guard := none }) (v := ?_) rfl (by kernel_rfl) (by kernel_rfl) (by kernel_rfl) (fun _ _ _ h => h) (Or.inl ⟨by rfl, ?_⟩) hHeld1 ?_
        rotate_left
        · intro w hSw
          (try dsimp only at hSw)
          go_simp
          (try with_reducible rfl)
        (try simp only [Act.put, List.setIfInBounds_toArray, List.set_cons_zero, List.set_cons_succ])
        refine wpAnyH_done (by kernel_rfl) ?_ _
        go_wp2
        go_ret
        exact ⟨ret_bool (by rw [HE.out]; rfl), bA.trans (hb.mono bA.size)⟩
end Go.Proofs.YtngodakkdhdmjaaGreatDoor
