/- The program: merged. -/
import Derived.Test.YtpfngehledgkiaaGreatLbQ
import Derived.Deep.RegionLaw
import Derived.Laws.MakeOwn
namespace Go.Proofs.YtpfngehledgkiaaGreat
open Go.RowKit

theorem pcmp_self (a : Post) : pcmp a a = 0 := by
  unfold pcmp
  simp [orF, cmpS_zero.2 rfl, cmpI_zero.2 rfl]
theorem pcmp_zero {a b : Post} (h : pcmp a b = 0) : a = b := by
  unfold pcmp at h
  simp only [orF] at h
  by_cases h1 : cmpS a.word b.word = 0
  · rw [if_neg (by simpa using h1)] at h
    by_cases h2 : cmpI a.unit b.unit = 0
    · rw [if_neg (by simpa using h2)] at h
      by_cases h3 : cmpI a.field b.field = 0
      · rw [if_neg (by simpa using h3)] at h
        by_cases h4 : cmpI a.place b.place = 0
        · exact Post.ext_ (cmpS_zero.1 h1) (cmpI_zero.1 h2) (cmpI_zero.1 h3) (cmpI_zero.1 h4)
        · rw [if_pos h4] at h; exact absurd h h4
      · rw [if_pos h3] at h; exact absurd h h3
    · rw [if_pos h2] at h; exact absurd h h2
  · rw [if_pos h1] at h; exact absurd h h1
theorem pcmp_le (a b : Post) : pcmp a b ≤ 0 ↔ pltB b a = false := by
  rcases pltB_tri a b with h | rfl | h
  · have := (pcmp_neg a b).2 h
    exact ⟨fun _ => pltB_asymm h, fun _ => by omega⟩
  · exact ⟨fun _ => pltB_irrefl _, fun _ => by rw [pcmp_self]; omega⟩
  · constructor
    · intro hle
      have h1 : ¬ pcmp a b < 0 := fun e => by have := (pcmp_neg a b).1 e; rw [pltB_asymm h] at this; cases this
      have h2 := pcmp_zero (show pcmp a b = 0 by omega)
      subst h2
      exact pltB_irrefl _
    · intro e; rw [e] at h; cases h
theorem mergeP_step (x : Post) (a : List Post) (y : Post) (b : List Post) : mergeP (x :: a) (y :: b) = if pltB y x = true then y :: mergeP (x :: a) b else x :: mergeP a (y :: b) := by
  unfold mergeP
  have e1 : (x :: a).length + (y :: b).length = ((x :: a).length + b.length) + 1 := by simp only [List.length_cons]; omega
  have e2 : (x :: a).length + b.length = a.length + (y :: b).length := by simp only [List.length_cons]; omega
  rw [e1, mergeG]
  split
  · rfl
  · rw [e2]
theorem mergeP_nil_left (b : List Post) : mergeP [] b = b := by
  unfold mergeP
  cases b with
  | nil => rfl
  | cons y b => simp only [List.length_cons, List.length_nil, Nat.zero_add]; rfl
theorem mergeP_nil_right (a : List Post) : mergeP a [] = a := by
  unfold mergeP
  cases a with
  | nil => rfl
  | cons y b => simp only [List.length_cons, List.length_nil, Nat.add_zero]; rfl
theorem SlRep.tail {α : Type} {k : Nat} {R : CRep α} {w : World} {F : Nat → Prop} {x : α} {xs : List α} {b o n c : Nat} (h : SlRep k R w F (x :: xs) (.slice (some ⟨b, o, none⟩) n c)) : SlRep k R w F xs (.slice (if c = 1 then some ⟨b, o, none⟩ else some ⟨b, o + k, none⟩) xs.length (c - 1)) := by
  obtain ⟨A, c', e, h1, h2, h3⟩ := h
  injection e with e1 e2 e3
  subst e1 e3
  simp only [List.length_cons] at h1
  refine ⟨_, c - 1, rfl, by omega, by omega, fun i y hy => ?_⟩
  have hi := lt_of_at hy
  obtain ⟨b', off, cs, hA, hF, hr, hc⟩ := h3 (i + 1) y (by simpa using hy)
  injection hA with hA
  injection hA with e4 e5
  subst e4 e5
  have hc1 : ¬ c = 1 := by omega
  rw [if_neg hc1]
  refine ⟨b, o + k, cs, rfl, hF, hr, fun j u hu => ?_⟩
  have := hc j u hu
  rw [show o + k + i * k + j = o + (i + 1) * k + j by rw [Nat.add_mul]; omega]
  exact this
theorem sl_form {α : Type} {k : Nat} {R : CRep α} {w : World} {F : Nat → Prop} {xs : List α} {v : Value} (h : SlRep k R w F xs v) : ∃ A n c, v = .slice A n c ∧ Hid (n = xs.length ∧ n ≤ c ∧ c ≤ 9223372036854775807) := by
  obtain ⟨A, c, e, h1, h2, -⟩ := h
  exact ⟨A, _, c, e, Lib.hid ⟨rfl, h1, h2⟩⟩
def sliLen : Value → Nat
  | .slice _ n _ => n
  | _ => 0
set_option maxRecDepth 100000 in
set_option maxHeartbeats 8000000 in
theorem merged_c (xs ys : List Post) (v v' : Value) (w : World) (B : Nat) (hB : B ≤ w.heap.size) (h : Posts w B xs v) (h' : Posts w B ys v') (hn : xs.length + ys.length ≤ 1000000) :
    Calls Tryz.prog 65 #[v, v', .func (.func 54) #[] #[]] w fun e w' => ∃ vr, e = .returned vr ∧ OwnRep 4 (flat Post.enc) 43 w.heap.size w' (mergeP xs ys) vr ∧ Below w.heap.size w w' := by
  obtain ⟨A, c, rfl, hc1, hc2, _⟩ := id h
  obtain ⟨A', c', rfl, hd1, hd2, _⟩ := id h'
  have hw2 : IntKind.i64.wrap ((xs.length : Int) + (ys.length : Int)) = (xs.length : Int) + (ys.length : Int) := IntWalk.i64_in _ (by omega)
  obtain ⟨ti, k1, k2, k3, k4⟩ := info_parts (P := Tryz.prog) (e := 43) (z := .agg #[.string ⟨#[]⟩, .int .i64 0, .int .i64 0, .int .i64 0]) (size := 4) (bytes := 40) (by kernel_rfl)
  obtain ⟨w0, hrun, hown0, hg0⟩ := run_make_own w w.heap.size 29 43 ti _ 4 Tryz.underlying29 k1 k2 k3 .i64 .i64 (xs.length + ys.length) (by rw [k4]; omega) (by unfold maxLen; omega) (Nat.le_refl _)
  rw [Int.natCast_add] at hrun
  have hr0 : OwnRep 4 (flat Post.enc) 43 w.heap.size w0 ([] : List Post) (.slice (some ⟨w.heap.size, 0, none⟩) 0 (xs.length + ys.length)) := OwnRep.of_rows hown0
  have hb0 : Below w.heap.size w w0 := below_of_grown hg0 (Nat.le_refl _) (fun j hj => by cases hj)
  clear k1 k2 k3 k4 hown0 hg0
  have H0 := Lib.hid (show mergeP xs ys = [] ++ mergeP xs ys from rfl)
  go_enter Tryz.func65, Tryz.ntmps65
  go_wp2
  go_loopw [0, 1, 7] (fun sa sb so wr => ∃ (a b o : List Post), SlRep 4 (flat Post.enc) wr (fun b => b < B) a sa ∧ SlRep 4 (flat Post.enc) wr (fun b => b < B) b sb ∧ OwnRep 4 (flat Post.enc) 43 w.heap.size wr o so ∧ Hid (mergeP xs ys = o ++ mergeP a b) ∧ a.length + b.length + o.length = xs.length + ys.length ∧ Below w.heap.size w wr) (fun sa sb _ _ => sliLen sa + sliLen sb)
  case atStart => exact ⟨xs, ys, [], h.below pstS (hb0.mono hB), h'.below pstS (hb0.mono hB), hr0, H0, by simp, hb0⟩
  case round =>
    clear H0 hr0 hb0 hrun hw2 h h'
    obtain ⟨a, b, o, ha, hb, ho, hh, hl, hbw⟩ := hrel
    have hsr := hbw.size
    have hlo := ho.own_lt
    rcases a with _ | ⟨x, a⟩
    · have HN := Lib.hid (show mergeP xs ys = (o ++ []) ++ b by rw [hh.out, mergeP_nil_left, List.append_nil])
      obtain ⟨Aa, ca, rfl, ha1, ha2, -⟩ := id ha
      obtain ⟨Ab, cb, rfl, hb1, hb2, -⟩ := id hb
      obtain ⟨Ao, no, co, rfl, hno⟩ := own_form pstS ho
      have hoL : o.length + ([] : List Post).length + (b).length ≤ 1000000 := by omega
      clear hh
      go_wp2_with (at_builtin; refine stop_intro ?_)
      refine stop_elim ?_
      refine wpList_append_rep rfl pstS pstE_ w.heap.size (.tmp 47) (.tmp 48) rfl rfl ho rfl (ys := []) ha (fun b' (hb' : b' < B) => ⟨by omega, fun e => by have := (hlo b' e).1; omega⟩) (by omega) (by decide) hsr ?_
      intro v2 w2 hown2 hg2 hat2
      have hb2' := hbw.grown hg2 hsr (fun j hj => (hlo j hj).1)
      have hlo2 := hown2.own_lt
      have hs2 := hb2'.size
      have hbl := hb.frame (w' := w2) pstS (fun b' (hb' : b' < B) => hg2.block b' (by omega) (fun e => by have := (hlo b' e.symm).1; omega))
      obtain ⟨Ap, np, cp, rfl, hnp⟩ := own_form pstS hown2
      have hL2 : (o ++ []).length + (b).length ≤ 4294967296 := by rw [List.length_append]; omega
      go_wp2_with (at_builtin; refine stop_intro ?_)
      refine stop_elim ?_
      refine wpList_append_rep rfl pstS pstE_ w.heap.size (.tmp 49) (.tmp 50) rfl rfl hown2 rfl (ys := b) hbl (fun b' (hb' : b' < B) => ⟨by omega, fun e => by have := (hlo2 b' e).1; omega⟩) hL2 (by decide) hs2 ?_
      intro v3 w3 hown3 hg3 hat3
      have hb3' := hb2'.grown hg3 hs2 (fun j hj => (hlo2 j hj).1)
      rw [← HN.out] at hown3
      obtain ⟨Aq, nq, cq, rfl, hnq⟩ := own_form pstS hown3
      go_wp2
      go_ret
      exact ⟨_, rfl, hown3, hb3'⟩
    · rcases b with _ | ⟨y, b⟩
      · have HN := Lib.hid (show mergeP xs ys = (o ++ (x :: a)) ++ [] by rw [hh.out, mergeP_nil_right, List.append_nil])
        obtain ⟨Aa, ca, rfl, ha1, ha2, -⟩ := id ha
        obtain ⟨Ab, cb, rfl, hb1, hb2, -⟩ := id hb
        obtain ⟨Ao, no, co, rfl, hno⟩ := own_form pstS ho
        have hoL : o.length + ((x :: a)).length + ([] : List Post).length ≤ 1000000 := by omega
        clear hh
        go_wp2_with (at_builtin; refine stop_intro ?_)
        refine stop_elim ?_
        refine wpList_append_rep rfl pstS pstE_ w.heap.size (.tmp 47) (.tmp 48) rfl rfl ho rfl (ys := (x :: a)) ha (fun b' (hb' : b' < B) => ⟨by omega, fun e => by have := (hlo b' e).1; omega⟩) (by omega) (by decide) hsr ?_
        intro v2 w2 hown2 hg2 hat2
        have hb2' := hbw.grown hg2 hsr (fun j hj => (hlo j hj).1)
        have hlo2 := hown2.own_lt
        have hs2 := hb2'.size
        have hbl := hb.frame (w' := w2) pstS (fun b' (hb' : b' < B) => hg2.block b' (by omega) (fun e => by have := (hlo b' e.symm).1; omega))
        obtain ⟨Ap, np, cp, rfl, hnp⟩ := own_form pstS hown2
        have hL2 : (o ++ (x :: a)).length + ([] : List Post).length ≤ 4294967296 := by rw [List.length_append]; omega
        go_wp2_with (at_builtin; refine stop_intro ?_)
        refine stop_elim ?_
        refine wpList_append_rep rfl pstS pstE_ w.heap.size (.tmp 49) (.tmp 50) rfl rfl hown2 rfl (ys := []) hbl (fun b' (hb' : b' < B) => ⟨by omega, fun e => by have := (hlo2 b' e).1; omega⟩) hL2 (by decide) hs2 ?_
        intro v3 w3 hown3 hg3 hat3
        have hb3' := hb2'.grown hg3 hs2 (fun j hj => (hlo2 j hj).1)
        rw [← HN.out] at hown3
        obtain ⟨Aq, nq, cq, rfl, hnq⟩ := own_form pstS hown3
        go_wp2
        go_ret
        exact ⟨_, rfl, hown3, hb3'⟩
      · obtain ⟨Aa, na, ca, rfl, hna⟩ := sl_form ha
        obtain ⟨Ab, nb, cb, rfl, hnb⟩ := sl_form hb
        obtain ⟨b1, o1, rfl, hbB1, p0, p1, p2, p3⟩ := Posts.at_ ha (show (x :: a)[0]? = some x from rfl)
        obtain ⟨b2, o2, rfl, hbB2, q0, q1, q2, q3⟩ := Posts.at_ hb (show (y :: b)[0]? = some y from rfl)
        have hbw1 : b1 < wr.heap.size := by have : b1 < B := hbB1; omega
        have hbw2 : b2 < wr.heap.size := by have : b2 < B := hbB2; omega
        rw [Nat.zero_mul, Nat.add_zero] at p0 p1 p2 p3 q0 q1 q2 q3
        obtain ⟨Ao, no, co, rfl, hno⟩ := own_form pstS ho
        have KEEP := Lib.hid (fun (W : World) (hW : Below wr.heap.size wr W) => (⟨(hW.cell (p := ⟨b1, o1, none⟩) hbw1).trans p0, (hW.cell (p := ⟨b1, o1 + 1, none⟩) hbw1).trans p1, (hW.cell (p := ⟨b1, o1 + 2, none⟩) hbw1).trans p2, (hW.cell (p := ⟨b1, o1 + 3, none⟩) hbw1).trans p3, (hW.cell (p := ⟨b2, o2, none⟩) hbw2).trans q0, (hW.cell (p := ⟨b2, o2 + 1, none⟩) hbw2).trans q1, (hW.cell (p := ⟨b2, o2 + 2, none⟩) hbw2).trans q2, (hW.cell (p := ⟨b2, o2 + 3, none⟩) hbw2).trans q3⟩ : W.cell? ⟨b1, o1, none⟩ = some (.string x.word) ∧ W.cell? ⟨b1, o1 + 1, none⟩ = some (.int .i64 x.unit) ∧ W.cell? ⟨b1, o1 + 2, none⟩ = some (.int .i64 x.field) ∧ W.cell? ⟨b1, o1 + 3, none⟩ = some (.int .i64 x.place) ∧ W.cell? ⟨b2, o2, none⟩ = some (.string y.word) ∧ W.cell? ⟨b2, o2 + 1, none⟩ = some (.int .i64 y.unit) ∧ W.cell? ⟨b2, o2 + 2, none⟩ = some (.int .i64 y.field) ∧ W.cell? ⟨b2, o2 + 3, none⟩ = some (.int .i64 y.place)))
        have hbX : Below wr.heap.size wr wr.drew := (Below.refl _ _).drew
        have HCM := Lib.hid (fun (W : World) => compare_b x y W)
        have hle := pcmp_le x y
        have HST := Lib.hid (mergeP_step x a y b)
        generalize pcmp x y = z at *
        obtain ⟨n1, rfl⟩ : ∃ n1, na = n1 + 1 := ⟨a.length, hna.out.1⟩
        obtain ⟨n2, rfl⟩ : ∃ n2, nb = n2 + 1 := ⟨b.length, hnb.out.1⟩
        have hk3 : n1 + 1 ≤ ca := hna.out.2.1
        have hk5 : (1 : Int) ≤ (n1 : Int) + 1 := by omega
        have hk6 : (1 : Int) ≤ (n2 : Int) + 1 := by omega
        obtain ⟨P1, hP1⟩ : ∃ P1 : Option Addr, (if ca = 1 then some ⟨b1, o1, none⟩ else some ⟨b1, o1 + 4, none⟩) = P1 := ⟨_, rfl⟩
        obtain ⟨P2, hP2⟩ : ∃ P2 : Option Addr, (if cb = 1 then some ⟨b2, o2, none⟩ else some ⟨b2, o2 + 4, none⟩) = P2 := ⟨_, rfl⟩
        have HTA := Lib.hid (show SlRep 4 (flat Post.enc) wr (fun b => b < B) a (.slice P1 n1 (ca - 1)) by
          have e : n1 = a.length := by have := hna.out.1; rw [List.length_cons] at this; omega
          rw [e, ← hP1]
          exact ha.tail)
        have HTB := Lib.hid (show SlRep 4 (flat Post.enc) wr (fun b => b < B) b (.slice P2 n2 (cb - 1)) by
          have e : n2 = b.length := by have := hnb.out.1; rw [List.length_cons] at this; omega
          rw [e, ← hP2]
          exact hb.tail)
        have HA := Lib.hid ha
        have HB := Lib.hid hb
        have hk4 : n2 + 1 ≤ cb := hnb.out.2.1
        go_wp2
        go_region_held3 (fun W => W.cell? ⟨b1, o1, none⟩ = some (.string x.word) ∧ W.cell? ⟨b1, o1 + 1, none⟩ = some (.int .i64 x.unit) ∧ W.cell? ⟨b1, o1 + 2, none⟩ = some (.int .i64 x.field) ∧ W.cell? ⟨b1, o1 + 3, none⟩ = some (.int .i64 x.place) ∧ W.cell? ⟨b2, o2, none⟩ = some (.string y.word) ∧ W.cell? ⟨b2, o2 + 1, none⟩ = some (.int .i64 y.unit) ∧ W.cell? ⟨b2, o2 + 2, none⟩ = some (.int .i64 y.field) ∧ W.cell? ⟨b2, o2 + 3, none⟩ = some (.int .i64 y.place)) (with_reducible exact KEEP.out _ hbX) (first
          | (go_at_call 54; (with_reducible refine (HCM.out _).mono ?_); rintro e w2 ⟨rfl, hb2⟩; have hbX := bnd_call hbX (Nat.le_refl _) hb2))
        cases hlt : pltB y x
        · have HN := Lib.hid (show mergeP xs ys = (o ++ [x]) ++ mergeP a (y :: b) by rw [hh.out, HST.out, if_neg (by rw [hlt]; simp), List.append_assoc]; rfl)
          have hz : z ≤ 0 := hle.2 hlt
          clear hle hlt hh HST p0 p1 p2 p3 q0 q1 q2 q3
          have hs2 := hbX.size
          have hsd : wr.heap.size ≤ w2.drew.heap.size := hs2
          have hbX1 := hbX.drew
          obtain ⟨p0, p1, p2, p3, q0, q1, q2, q3⟩ := KEEP.out _ hbX1
          have hbA := hbX1.alloc hsd (pstC x)
          have hA := ho.below pstS hbA
          have kS : SlRep 4 (flat Post.enc) (w2.drew.alloc (pstC x)) (fun b => False ∨ b = w2.drew.heap.size) [x] (.slice (some ⟨w2.drew.heap.size, 0, none⟩) 1 1) := SlRep.one_new pstS (w := w2.drew) (F := fun _ => False) (x := x) (cs := Post.enc x) rfl rfl (fun _ hb => hb.elim)
          have kF : ∀ b, (False ∨ b = w2.drew.heap.size) → b < (w2.drew.alloc (pstC x)).heap.size ∧ Value.ownBlock (.slice Ao no co) ≠ some b := fun b hb => by
            rcases hb with hb | rfl
            · exact hb.elim
            · exact ⟨by simp, fun e => by have := (hlo _ e).2; omega⟩
          have kN : o.length + [x].length ≤ 4294967296 := by simp only [List.length_cons, List.length_nil]; omega
          have kB : w.heap.size ≤ (w2.drew.alloc (pstC x)).heap.size := Nat.le_trans hsr hbA.size
          go_wp2
          go_region_law (first
            | (refine step_append_rep rfl pstS pstE_ _ (.tmp 31) (.tmp 35) rfl rfl hA rfl (ys := [x]) kS kF kN (by decide) kB ?_; intro v6 w6 hown6 hg6 hat6; have fr6 := fun (b' : Nat) (hb' : b' < B) => (hg6.block b' (Nat.lt_of_lt_of_le hb' (Nat.le_trans hB kB)) (fun e => Nat.lt_irrefl _ (Nat.lt_of_lt_of_le (Nat.lt_of_lt_of_le hb' hB) (hlo b' e.symm).1))).trans (hbA.block b' (Nat.lt_of_lt_of_le hb' (Nat.le_trans hB hsr))); have hb6 := (hbw.trans (hbA.mono hsr)).grown hg6 kB (fun j hj => (hlo j hj).1); obtain ⟨A6, n6, c6, rfl, hn6⟩ := own_form pstS hown6))
          go_wp2
          go_roundw
          case rel => (repeat apply Exists.intro); exact ⟨⟨a, y :: b, o ++ [x], HTA.out.frame pstS fr6, HB.out.frame pstS fr6, hown6, HN, by simp only [List.length_append, List.length_cons, List.length_nil] at hl ⊢; omega, hb6⟩, rfl⟩
          case measure => (show sliLen (.slice P1 n1 (ca - 1)) + sliLen (.slice (some ⟨b2, o2, none⟩) (n2 + 1) cb) < sliLen (.slice (some ⟨b1, o1, none⟩) (n1 + 1) ca) + sliLen (.slice (some ⟨b2, o2, none⟩) (n2 + 1) cb)); simp [sliLen]
        · have HN := Lib.hid (show mergeP xs ys = (o ++ [y]) ++ mergeP (x :: a) b by rw [hh.out, HST.out, if_pos hlt, List.append_assoc]; rfl)
          have hz : ¬ z ≤ 0 := fun e => by have := hle.1 e; rw [hlt] at this; cases this
          clear hle hlt hh HST p0 p1 p2 p3 q0 q1 q2 q3
          have hs2 := hbX.size
          have hsd : wr.heap.size ≤ w2.drew.heap.size := hs2
          have hbX1 := hbX.drew
          obtain ⟨p0, p1, p2, p3, q0, q1, q2, q3⟩ := KEEP.out _ hbX1
          have hbA := hbX1.alloc hsd (pstC y)
          have hA := ho.below pstS hbA
          have kS : SlRep 4 (flat Post.enc) (w2.drew.alloc (pstC y)) (fun b => False ∨ b = w2.drew.heap.size) [y] (.slice (some ⟨w2.drew.heap.size, 0, none⟩) 1 1) := SlRep.one_new pstS (w := w2.drew) (F := fun _ => False) (x := y) (cs := Post.enc y) rfl rfl (fun _ hb => hb.elim)
          have kF : ∀ b, (False ∨ b = w2.drew.heap.size) → b < (w2.drew.alloc (pstC y)).heap.size ∧ Value.ownBlock (.slice Ao no co) ≠ some b := fun b hb => by
            rcases hb with hb | rfl
            · exact hb.elim
            · exact ⟨by simp, fun e => by have := (hlo _ e).2; omega⟩
          have kN : o.length + [y].length ≤ 4294967296 := by simp only [List.length_cons, List.length_nil]; omega
          have kB : w.heap.size ≤ (w2.drew.alloc (pstC y)).heap.size := Nat.le_trans hsr hbA.size
          go_wp2
          go_region_law (first
            | (refine step_append_rep rfl pstS pstE_ _ (.tmp 39) (.tmp 43) rfl rfl hA rfl (ys := [y]) kS kF kN (by decide) kB ?_; intro v6 w6 hown6 hg6 hat6; have fr6 := fun (b' : Nat) (hb' : b' < B) => (hg6.block b' (Nat.lt_of_lt_of_le hb' (Nat.le_trans hB kB)) (fun e => Nat.lt_irrefl _ (Nat.lt_of_lt_of_le (Nat.lt_of_lt_of_le hb' hB) (hlo b' e.symm).1))).trans (hbA.block b' (Nat.lt_of_lt_of_le hb' (Nat.le_trans hB hsr))); have hb6 := (hbw.trans (hbA.mono hsr)).grown hg6 kB (fun j hj => (hlo j hj).1); obtain ⟨A6, n6, c6, rfl, hn6⟩ := own_form pstS hown6))
          go_wp2
          go_roundw
          case rel => (repeat apply Exists.intro); exact ⟨⟨x :: a, b, o ++ [y], HA.out.frame pstS fr6, HTB.out.frame pstS fr6, hown6, HN, by simp only [List.length_append, List.length_cons, List.length_nil] at hl ⊢; omega, hb6⟩, rfl⟩
          case measure => (show sliLen (.slice (some ⟨b1, o1, none⟩) (n1 + 1) ca) + sliLen (.slice P2 n2 (cb - 1)) < sliLen (.slice (some ⟨b1, o1, none⟩) (n1 + 1) ca) + sliLen (.slice (some ⟨b2, o2, none⟩) (n2 + 1) cb)); simp [sliLen]
end Go.Proofs.YtpfngehledgkiaaGreat
