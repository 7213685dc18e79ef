/- The reference of chapter 55: Build. -/
import Derived.Test.YtpfngehledgkiaaGreatRqB
import Derived.Test.YtpfngehledgkiaaGreatLbQ
import Derived.Test.YtpfngehledgkiaaGreatWdQ
import Derived.Test.YtpfngehledgkiaaGreatRaQ
import Derived.Test.YtpfngehledgkiaaGreatBld
namespace Go.Proofs.YtpfngehledgkiaaGreat
open Go.RowKit

theorem rin5_c (l : List Int) (u : Int) (v : Value) (w : World) (h : SlRep 1 (flat intEnc) w (fun _ => True) l v) :
    Calls Tryz.prog 68 #[v, .int .i64 u] w fun e w' => e = .returned (.bool (decide (u ∈ l))) ∧ w = w' := by
  obtain ⟨A, c, rfl, hc1, hc2, _⟩ := id h
  have HE := Lib.hid (show decide (u ∈ l) = (l.drop 0).any (fun x => decide (x = u)) by rw [Bool.eq_iff_iff, decide_eq_true_iff, List.any_eq_true]; simp)
  go_enter Tryz.func68, Tryz.ntmps68
  go_wp2
  go_loop [5] (fun i => ∃ k : Nat, k ≤ l.length ∧ i = .int .i64 k ∧ Hid (decide (u ∈ l) = (l.drop k).any (fun x => decide (x = u)))) (fun i => l.length - (intOf i).toNat)
  case atStart => exact ⟨0, Nat.zero_le _, rfl, HE⟩
  case round =>
    clear HE
    obtain ⟨k, hk, rfl, HS⟩ := hrel
    by_cases hlt : k < l.length
    · obtain ⟨x, hx⟩ := get_at l hlt
      have HD := Lib.hid (drop_at hx)
      obtain ⟨b, off, rfl, hbB, g0⟩ := Ints.at_ h hx
      clear hx
      by_cases hxm : x = u
      · have he2 : (x == u) = true := by simp [hxm]
        have HX := Lib.hid (show decide (u ∈ l) = true by rw [HS.out, HD.out]; simp [hxm])
        clear hxm
        go_wp2
        go_ret
        exact ⟨ret_bool HX.out.symm, rfl⟩
      · have he2 : (x == u) = false := by simp [hxm]
        have HX := Lib.hid (show decide (u ∈ l) = (l.drop (k + 1)).any (fun x => decide (x = u)) by rw [HS.out, HD.out]; simp [hxm])
        clear hxm
        go_wp2
        go_round
        case rel => exact ⟨k + 1, by omega, by go_num, HX⟩
        case measure => simp [intOf]; omega
    · have HX := Lib.hid (show decide (u ∈ l) = false by rw [HS.out, List.drop_of_length_le (by omega)]; rfl)
      go_wp2
      go_ret
      exact ⟨ret_bool HX.out.symm, rfl⟩
theorem insP_eq : ∀ (l : List Post) (p : Post), insP l p = l.takeWhile (fun x => pltB x p) ++ p :: l.dropWhile (fun x => pltB x p)
  | [], p => rfl
  | x :: l, p => by
    unfold insP
    rw [List.takeWhile_cons, List.dropWhile_cons]
    by_cases h : pltB x p = true
    · rw [if_pos h, if_pos h, if_pos h, insP_eq l p, List.cons_append]
    · rw [if_neg h, if_neg h, if_neg h, List.nil_append]
theorem insP_cons (x : Post) (l : List Post) (p : Post) : insP (x :: l) p = if pltB x p then x :: insP l p else p :: x :: l := rfl
theorem nil_any {α : Type} {k : Nat} {R : CRep α} {w : World} {F : Nat → Prop} {A : Option Addr} {c : Nat} (hc : c ≤ 9223372036854775807) : SlRep k R w F ([] : List α) (.slice A 0 c) := ⟨A, c, rfl, Nat.zero_le _, hc, fun i x hx => by simp at hx⟩
theorem SlRep.drop_ {α : Type} {k : Nat} {R : CRep α} {w : World} {F : Nat → Prop} {xs : List α} {b o n c i : Nat} (h : SlRep k R w F xs (.slice (some ⟨b, o, none⟩) n c)) (hi : i ≤ xs.length) : SlRep k R w F (xs.drop i) (.slice (if c = i then some ⟨b, o, none⟩ else some ⟨b, o + i * k, none⟩) (n - i) (c - i)) := by
  obtain ⟨A, c', e, h1, h2, h3⟩ := h
  injection e with e1 e2 e3
  subst e1 e3 e2
  refine ⟨_, c - i, by rw [List.length_drop], by rw [List.length_drop]; omega, by omega, fun j y hy => ?_⟩
  have hj := lt_of_at hy
  rw [List.length_drop] at hj
  rw [List.getElem?_drop] at hy
  obtain ⟨b', off, cs, hA, hF, hr, hc⟩ := h3 (i + j) y hy
  injection hA with hA
  injection hA with e4 e5
  subst e4 e5
  have hc1 : ¬ c = i := by omega
  rw [if_neg hc1]
  refine ⟨b, o + i * k, cs, rfl, hF, hr, fun t u hu => ?_⟩
  have := hc t u hu
  rw [show o + i * k + j * k + t = o + (i + j) * k + t by rw [Nat.add_mul]; omega]
  exact this
set_option maxRecDepth 100000 in
set_option maxHeartbeats 4000000 in
theorem radd5_c (l : List Post) (p : Post) (v : Value) (w : World) (B : Nat) (hB : B ≤ w.heap.size) (h : Posts w B l v) (hn : l.length ≤ 100000000) :
    Calls Tryz.prog 57 #[v, pstV p] w fun e w' => ∃ v', e = .returned v' ∧ OwnRep 4 (flat Post.enc) 43 w.heap.size w' (insP l p) v' ∧ Below w.heap.size w w' := by
  obtain ⟨A, c, rfl, hc1, hc2, _⟩ := id h
  have HF := Lib.hid (show insP l p = l.take 0 ++ insP (l.drop 0) p from rfl)
  have HX := Lib.hid (fun (i : Nat) (x : Post) (hx : l[i]? = some x) (W : World) (hW : Below w.heap.size w W) => Posts.at_ (h.below pstS (hW.mono hB)) hx)
  have hb0 : Below (w.heap.size + 1) (w.alloc (pstC p)) (w.alloc (pstC p)) := Below.refl _ _
  have b1 : Below w.heap.size w (w.alloc (pstC p)) := (Below.refl _ _).alloc (Nat.le_refl _) _
  have KP := Lib.hid (fun (W : World) (hW : Below (w.heap.size + 1) (w.alloc (pstC p)) W) => (⟨(hW.cell (p := ⟨w.heap.size, 0, none⟩) (by simp)).trans (by simp), (hW.cell (p := ⟨w.heap.size, 1, none⟩) (by simp)).trans (by simp), (hW.cell (p := ⟨w.heap.size, 2, none⟩) (by simp)).trans (by simp), (hW.cell (p := ⟨w.heap.size, 3, none⟩) (by simp)).trans (by simp)⟩ : W.cell? ⟨w.heap.size, 0, none⟩ = some (.string p.word) ∧ W.cell? ⟨w.heap.size, 1, none⟩ = some (.int .i64 p.unit) ∧ W.cell? ⟨w.heap.size, 2, none⟩ = some (.int .i64 p.field) ∧ W.cell? ⟨w.heap.size, 3, none⟩ = some (.int .i64 p.place)))
  go_enter Tryz.func57, Tryz.ntmps57
  go_wp2
  go_loopw [5] (fun i wr => ∃ k : Nat, k ≤ l.length ∧ i = .int .i64 k ∧ Hid (insP l p = l.take k ++ insP (l.drop k) p) ∧ Below (w.heap.size + 1) (w.alloc (pstC p)) wr) (fun i _ => l.length - (intOf i).toNat)
  case atStart => exact ⟨0, Nat.zero_le _, rfl, HF, hb0⟩
  case round =>
    clear HF
    obtain ⟨k, hk, rfl, HS, hbX0⟩ := hrel
    have hs0 := hbX0.size
    simp at hs0
    obtain ⟨y0, y1, y2, y3⟩ := KP.out _ hbX0
    by_cases hlt : k < l.length
    · obtain ⟨x, hx⟩ := get_at l hlt
      obtain ⟨b, off, rfl, hbB, g0, g1, g2, g3⟩ := HX.out _ _ hx _ (b1.trans (hbX0.mono (Nat.le_succ _)))
      have hbw : b < wr.heap.size := by have : b < B := hbB; omega
      have hki : (k : Int) < (l.length : Int) := by omega
      have hd := drop_at hx
      have htk := take_at hx
      have HBF := Lib.hid (fun (W : World) => rbefore5_c x p W)
      have hbX : Below wr.heap.size wr wr.drew := (Below.refl _ _).drew
      have hql : w.heap.size < wr.heap.size := by omega
      have KEEP := Lib.hid (fun (W : World) (hW : Below wr.heap.size wr W) => (⟨(hW.cell (p := ⟨w.heap.size, 0, none⟩) hql).trans y0, (hW.cell (p := ⟨w.heap.size, 1, none⟩) hql).trans y1, (hW.cell (p := ⟨w.heap.size, 2, none⟩) hql).trans y2, (hW.cell (p := ⟨w.heap.size, 3, none⟩) hql).trans y3, (hW.cell (p := ⟨b, off + k * 4, none⟩) hbw).trans g0, (hW.cell (p := ⟨b, off + k * 4 + 1, none⟩) hbw).trans g1, (hW.cell (p := ⟨b, off + k * 4 + 2, none⟩) hbw).trans g2, (hW.cell (p := ⟨b, off + k * 4 + 3, none⟩) hbw).trans g3⟩ : W.cell? ⟨w.heap.size, 0, none⟩ = some (.string p.word) ∧ W.cell? ⟨w.heap.size, 1, none⟩ = some (.int .i64 p.unit) ∧ W.cell? ⟨w.heap.size, 2, none⟩ = some (.int .i64 p.field) ∧ W.cell? ⟨w.heap.size, 3, none⟩ = some (.int .i64 p.place) ∧ W.cell? ⟨b, off + k * 4, none⟩ = some (.string x.word) ∧ W.cell? ⟨b, off + k * 4 + 1, none⟩ = some (.int .i64 x.unit) ∧ W.cell? ⟨b, off + k * 4 + 2, none⟩ = some (.int .i64 x.field) ∧ W.cell? ⟨b, off + k * 4 + 3, none⟩ = some (.int .i64 x.place)))
      cases hp : pltB x p
      · have HE := Lib.hid (show insP l p = l.take k ++ ([p] ++ l.drop k) by rw [HS.out, hd, insP_cons, if_neg (by rw [hp]; simp)]; rfl)
        have HSL := Lib.hid (h.take_ hk)
        have HSD := Lib.hid (show SlRep 4 (flat Post.enc) w (fun b => b < B) (l.drop k) (.slice (some ⟨b, off + k * 4, none⟩) (l.length - k) (c - k)) by
          have := SlRep.drop_ h hk
          rwa [if_neg (show ¬ c = k by omega)] at this)
        rw [hp] at HBF
        clear hd htk hx hp HS
        go_wp2
        go_region_held3 (fun W => W.cell? ⟨w.heap.size, 0, none⟩ = some (.string p.word) ∧ W.cell? ⟨w.heap.size, 1, none⟩ = some (.int .i64 p.unit) ∧ W.cell? ⟨w.heap.size, 2, none⟩ = some (.int .i64 p.field) ∧ W.cell? ⟨w.heap.size, 3, none⟩ = some (.int .i64 p.place) ∧ W.cell? ⟨b, off + k * 4, none⟩ = some (.string x.word) ∧ W.cell? ⟨b, off + k * 4 + 1, none⟩ = some (.int .i64 x.unit) ∧ W.cell? ⟨b, off + k * 4 + 2, none⟩ = some (.int .i64 x.field) ∧ W.cell? ⟨b, off + k * 4 + 3, none⟩ = some (.int .i64 x.place)) (with_reducible exact KEEP.out _ hbX) (first
          | (go_at_call 100; (with_reducible refine (HBF.out _).mono ?_); rintro e w2 ⟨rfl, hb2⟩; have hbX := bnd_call hbX (Nat.le_refl _) hb2))
        have hbY := hbX0.trans (hbX.mono hs0)
        have hsY := hbY.size
        simp at hsY
        have hb1Y := b1.trans (hbY.mono (Nat.le_succ _))
        clear KEEP g0 g1 g2 g3
        go_wp2_with (at_builtin; refine stop_intro ?_)
        refine stop_elim ?_
        refine wpList_append_rep rfl pstS pstE_ (w.heap.size + 1) (.tmp 21) (.tmp 24) rfl rfl OwnRep.nil_ rfl (ys := l.take k) (HSL.out.below pstS (hb1Y.mono hB)) (fun b' (hb' : b' < B) => ⟨by omega, fun e => by cases e⟩) (by rw [List.length_take]; simp only [List.length_nil]; omega) (by decide) hsY ?_
        intro v3 w3 hown3 hg3 hat3
        rw [List.nil_append] at hown3
        have hb3 := below_of_grown hg3 hbY.size (fun j hj => by cases hj)
        have hbZ := hbY.trans (hb3.mono (by simp))
        obtain ⟨y0, y1, y2, y3⟩ := KP.out _ hbZ
        have hs3 := hbZ.size
        simp at hs3
        have hlo3 := hown3.own_lt
        have bx : Below w3.heap.size w3 (w3.alloc (pstC p)) := (Below.refl _ _).alloc (Nat.le_refl _) _
        have hownx := hown3.below pstS bx
        have hl3 : (l.take k).length ≤ 100000000 := by first | (rw [List.length_take]; omega) | omega
        obtain ⟨A3, n3, c3, rfl, hn3⟩ := own_form pstS hown3
        go_wp2_with (at_builtin; refine stop_intro ?_)
        refine stop_elim ?_
        refine wpList_append_rep rfl pstS pstE_ (w.heap.size + 1) (.tmp 26) (.tmp 28) rfl rfl hownx rfl (ys := [p]) (SlRep.one_new pstS (w := w3) (F := fun _ => False) (x := p) (cs := Post.enc p) rfl rfl (fun _ hb => hb.elim)) (fun b' hb' => by
          rcases hb' with hb' | rfl
          · exact hb'.elim
          · exact ⟨by simp, fun e => by have := (hlo3 _ e).2; omega⟩) (by simp only [List.length_cons, List.length_nil]; omega) (by decide) (by simp; omega) ?_
        intro v4 w4 hown4 hg4 hat4
        have hb4 := (hbZ.trans (bx.mono hs3)).grown hg4 (by simp; omega) (fun j hj => (hlo3 j hj).1)
        have hlo4 := hown4.own_lt
        obtain ⟨A4, n4, c4, rfl, hn4⟩ := own_form pstS hown4
        go_wp2_with (at_builtin; refine stop_intro ?_)
        refine stop_elim ?_
        have hs4 := hb4.size
        simp at hs4
        have hb1W := b1.trans (hb4.mono (Nat.le_succ _))
        refine wpList_append_rep rfl pstS pstE_ (w.heap.size + 1) (.tmp 30) (.tmp 33) rfl rfl hown4 rfl (ys := l.drop k) (HSD.out.below pstS (hb1W.mono hB)) (fun b' (hb' : b' < B) => ⟨by omega, fun e => by have := (hlo4 b' e).1; omega⟩) (by rw [List.length_append]; simp only [List.length_cons, List.length_nil, List.length_drop]; omega) (by decide) hs4 ?_
        intro v5 w5 hown5 hg5 hat5
        have hb5 := hb4.grown hg5 hs4 (fun j hj => (hlo4 j hj).1)
        rw [List.append_assoc, ← HE.out] at hown5
        obtain ⟨A5, n5, c5, rfl, hn5⟩ := own_form pstS hown5
        go_wp2
        go_ret
        exact ⟨_, rfl, hown5.base_le (Nat.le_succ _), b1.trans (hb5.mono (Nat.le_succ _))⟩
      · have HN := Lib.hid (show insP l p = l.take (k + 1) ++ insP (l.drop (k + 1)) p by rw [HS.out, hd, htk, insP_cons, if_pos hp]; simp)
        rw [hp] at HBF
        clear hd htk hx hp HS
        go_wp2
        go_region_held3 (fun W => W.cell? ⟨w.heap.size, 0, none⟩ = some (.string p.word) ∧ W.cell? ⟨w.heap.size, 1, none⟩ = some (.int .i64 p.unit) ∧ W.cell? ⟨w.heap.size, 2, none⟩ = some (.int .i64 p.field) ∧ W.cell? ⟨w.heap.size, 3, none⟩ = some (.int .i64 p.place) ∧ W.cell? ⟨b, off + k * 4, none⟩ = some (.string x.word) ∧ W.cell? ⟨b, off + k * 4 + 1, none⟩ = some (.int .i64 x.unit) ∧ W.cell? ⟨b, off + k * 4 + 2, none⟩ = some (.int .i64 x.field) ∧ W.cell? ⟨b, off + k * 4 + 3, none⟩ = some (.int .i64 x.place)) (with_reducible exact KEEP.out _ hbX) (first
          | (go_at_call 100; (with_reducible refine (HBF.out _).mono ?_); rintro e w2 ⟨rfl, hb2⟩; have hbX := bnd_call hbX (Nat.le_refl _) hb2))
        go_wp2
        go_roundw
        case rel => exact ⟨k + 1, by omega, by go_num, HN, hbX0.trans (hbX.mono hs0)⟩
        case measure => simp [intOf]; omega
    · have hkl : k = l.length := by omega
      have HE := Lib.hid (show insP l p = l ++ ([p] ++ []) by rw [HS.out, List.drop_of_length_le (by omega), List.take_of_length_le (by omega)]; rfl)
      clear HS
      go_wp2
      go_quiet (fail)
      have hbY := below_drewN hbX0 nq
      have hb1Y := b1.trans (hbY.mono (Nat.le_succ _))
      have hsY := hbY.size
      simp at hsY
      go_wp2_with (at_builtin; refine stop_intro ?_)
      refine stop_elim ?_
      refine wpList_append_rep rfl pstS pstE_ (w.heap.size + 1) (.tmp 21) (.tmp 24) rfl rfl OwnRep.nil_ rfl (ys := l) (h.below pstS (hb1Y.mono hB)) (fun b' (hb' : b' < B) => ⟨by show b' < wr.heap.size; omega, fun e => by cases e⟩) (by simp only [List.length_nil]; omega) (by decide) hsY ?_
      intro v3 w3 hown3 hg3 hat3
      rw [List.nil_append] at hown3
      have hb3 := below_of_grown hg3 hbY.size (fun j hj => by cases hj)
      have hbZ := hbY.trans (hb3.mono (by simp))
      obtain ⟨y0, y1, y2, y3⟩ := KP.out _ hbZ
      have hs3 := hbZ.size
      simp at hs3
      have hlo3 := hown3.own_lt
      have bx : Below w3.heap.size w3 (w3.alloc (pstC p)) := (Below.refl _ _).alloc (Nat.le_refl _) _
      have hownx := hown3.below pstS bx
      have hl3 : (l).length ≤ 100000000 := by first | (rw [List.length_take]; omega) | omega
      obtain ⟨A3, n3, c3, rfl, hn3⟩ := own_form pstS hown3
      go_wp2_with (at_builtin; refine stop_intro ?_)
      refine stop_elim ?_
      refine wpList_append_rep rfl pstS pstE_ (w.heap.size + 1) (.tmp 26) (.tmp 28) rfl rfl hownx rfl (ys := [p]) (SlRep.one_new pstS (w := w3) (F := fun _ => False) (x := p) (cs := Post.enc p) rfl rfl (fun _ hb => hb.elim)) (fun b' hb' => by
        rcases hb' with hb' | rfl
        · exact hb'.elim
        · exact ⟨by simp, fun e => by have := (hlo3 _ e).2; omega⟩) (by simp only [List.length_cons, List.length_nil]; omega) (by decide) (by simp; omega) ?_
      intro v4 w4 hown4 hg4 hat4
      have hb4 := (hbZ.trans (bx.mono hs3)).grown hg4 (by simp; omega) (fun j hj => (hlo3 j hj).1)
      have hlo4 := hown4.own_lt
      obtain ⟨A4, n4, c4, rfl, hn4⟩ := own_form pstS hown4
      go_wp2_with (at_builtin; refine stop_intro ?_)
      all_goals
        refine stop_elim ?_
        have hs4 := hb4.size
        simp at hs4
        have hb1W := b1.trans (hb4.mono (Nat.le_succ _))
        refine wpList_append_rep rfl pstS pstE_ (w.heap.size + 1) (.tmp 30) (.tmp 33) rfl rfl hown4 rfl (ys := ([] : List Post)) (nil_any (by omega)) (fun b' (hb' : b' < B) => ⟨by omega, fun e => by have := (hlo4 b' e).1; omega⟩) (by rw [List.length_append]; simp only [List.length_cons, List.length_nil]; omega) (by decide) hs4 ?_
        intro v5 w5 hown5 hg5 hat5
        have hb5 := hb4.grown hg5 hs4 (fun j hj => (hlo4 j hj).1)
        rw [List.append_assoc, ← HE.out] at hown5
        obtain ⟨A5, n5, c5, rfl, hn5⟩ := own_form pstS hown5
        go_wp2
        go_ret
        exact ⟨_, rfl, hown5.base_le (Nat.le_succ _), b1.trans (hb5.mono (Nat.le_succ _))⟩

def lowR (c : UInt8) : Int := if plnB (lowB c) = true then ((lowB c).toNat : Int) else 0
theorem own_formW {e : TypeId} {base : Nat} {w : World} {xs : List ByteArray} {v : Value} (h : OwnRep 1 (flat strEnc) e base w xs v) : ∃ A n c, v = .slice A n c ∧ Hid (n = xs.length) := by
  obtain ⟨A, c, e1, -⟩ := h.toSl strS
  exact ⟨A, _, c, e1, Lib.hid rfl⟩
theorem low_nat {b : UInt8} (h : 65 ≤ b.toNat ∧ b.toNat ≤ 90) : (lowB b).toNat = b.toNat + 32 := by
  unfold lowB
  rw [if_pos h]
  have e : (b + 32).toNat = b.toNat + 32 := by rw [UInt8.toNat_add]; simp; omega
  exact e
theorem rlower_c (x : UInt8) (w : World) : Calls Tryz.prog 131 #[.int .u8 (x.toNat : Int)] w fun e w' => e = .returned (.int .u8 (lowR x)) ∧ w = w' := by
  have hx := x.toNat_lt
  by_cases hu : 65 ≤ x.toNat ∧ x.toNat ≤ 90
  · have hn := low_nat hu
    have HE := Lib.hid (show lowR x = (x.toNat : Int) + 32 by
      unfold lowR plnB
      rw [hn, if_pos (by simp; omega)]
      omega)
    have w1 : IntKind.u8.wrap ((x.toNat : Int) - 65) = (x.toNat : Int) - 65 := by simp [IntKind.wrap, IntKind.bits, IntKind.signed]; omega
    have w2 : IntKind.u8.wrap ((x.toNat : Int) - 65 + 97) = (x.toNat : Int) + 32 := by simp [IntKind.wrap, IntKind.bits, IntKind.signed]; omega
    have h1 : (65 : Int) ≤ (x.toNat : Int) := by omega
    have h2 : (x.toNat : Int) ≤ 90 := by omega
    clear hn hu
    go_enter Tryz.func131, Tryz.ntmps131
    go_wp2
    go_ret
    exact ⟨by rw [HE.out]; rfl, rfl⟩
  · have hl := low_no hu
    by_cases hp : plnB x = true
    · have HE := Lib.hid (show lowR x = (x.toNat : Int) by unfold lowR; rw [hl, if_pos hp])
      have hp' : (97 ≤ x.toNat ∧ x.toNat ≤ 122) ∨ (48 ≤ x.toNat ∧ x.toNat ≤ 57) := by
        unfold plnB at hp
        simpa using hp
      clear hp hl
      rcases hp' with ⟨h1, h2⟩ | ⟨h1, h2⟩
      · have h1' : (97 : Int) ≤ (x.toNat : Int) := by omega
        have h2' : (x.toNat : Int) ≤ 122 := by omega
        have h3 : (65 : Int) ≤ (x.toNat : Int) := by omega
        have h4 : ¬ (x.toNat : Int) ≤ 90 := by omega
        clear hu h1 h2
        go_enter Tryz.func131, Tryz.ntmps131
        go_wp2
        go_ret
        exact ⟨by rw [HE.out]; rfl, rfl⟩
      · have h1' : (48 : Int) ≤ (x.toNat : Int) := by omega
        have h2' : (x.toNat : Int) ≤ 57 := by omega
        have h3 : ¬ (65 : Int) ≤ (x.toNat : Int) := by omega
        have h4 : ¬ (97 : Int) ≤ (x.toNat : Int) := by omega
        clear hu h1 h2
        go_enter Tryz.func131, Tryz.ntmps131
        go_wp2
        go_ret
        exact ⟨by rw [HE.out]; rfl, rfl⟩
    · have HE := Lib.hid (show lowR x = 0 by unfold lowR; rw [hl, if_neg hp])
      have hp' : ¬ (97 ≤ x.toNat ∧ x.toNat ≤ 122) ∧ ¬ (48 ≤ x.toNat ∧ x.toNat ≤ 57) := by
        unfold plnB at hp
        simpa using hp
      clear hp hl
      obtain ⟨h1, h2⟩ := hp'
      rcases (show x.toNat < 48 ∨ (57 < x.toNat ∧ x.toNat < 65) ∨ (90 < x.toNat ∧ x.toNat < 97) ∨ 122 < x.toNat by omega) with h | ⟨h, h'⟩ | ⟨h, h'⟩ | h
      · have a1 : ¬ (65 : Int) ≤ (x.toNat : Int) := by omega
        have a2 : ¬ (97 : Int) ≤ (x.toNat : Int) := by omega
        have a3 : ¬ (48 : Int) ≤ (x.toNat : Int) := by omega
        clear hu h1 h2 h
        go_enter Tryz.func131, Tryz.ntmps131
        go_wp2
        go_ret
        exact ⟨by rw [HE.out]; rfl, rfl⟩
      · have a1 : ¬ (65 : Int) ≤ (x.toNat : Int) := by omega
        have a2 : ¬ (97 : Int) ≤ (x.toNat : Int) := by omega
        have a3 : (48 : Int) ≤ (x.toNat : Int) := by omega
        have a4 : ¬ (x.toNat : Int) ≤ 57 := by omega
        clear hu h1 h2 h h'
        go_enter Tryz.func131, Tryz.ntmps131
        go_wp2
        go_ret
        exact ⟨by rw [HE.out]; rfl, rfl⟩
      · have a1 : (65 : Int) ≤ (x.toNat : Int) := by omega
        have a0 : ¬ (x.toNat : Int) ≤ 90 := by omega
        have a2 : ¬ (97 : Int) ≤ (x.toNat : Int) := by omega
        have a3 : (48 : Int) ≤ (x.toNat : Int) := by omega
        have a4 : ¬ (x.toNat : Int) ≤ 57 := by omega
        clear hu h1 h2 h h'
        go_enter Tryz.func131, Tryz.ntmps131
        go_wp2
        go_ret
        exact ⟨by rw [HE.out]; rfl, rfl⟩
      · have a1 : (65 : Int) ≤ (x.toNat : Int) := by omega
        have a0 : ¬ (x.toNat : Int) ≤ 90 := by omega
        have a2 : (97 : Int) ≤ (x.toNat : Int) := by omega
        have a5 : ¬ (x.toNat : Int) ≤ 122 := by omega
        have a3 : (48 : Int) ≤ (x.toNat : Int) := by omega
        have a4 : ¬ (x.toNat : Int) ≤ 57 := by omega
        clear hu h1 h2 h
        go_enter Tryz.func131, Tryz.ntmps131
        go_wp2
        go_ret
        exact ⟨by rw [HE.out]; rfl, rfl⟩
theorem lowR_pln (x : UInt8) : (lowR x == 0) = !plnB (lowB x) := by
  unfold lowR
  by_cases h : plnB (lowB x) = true
  · rw [if_pos h, h, Bool.not_true, beq_eq_false_iff_ne]
    unfold plnB at h
    simp at h
    omega
  · rw [if_neg h]
    simp at h
    simp [h]
set_option maxRecDepth 100000 in
set_option maxHeartbeats 4000000 in
theorem rwords54_c (s : ByteArray) (w : World) (hs : s.size ≤ 1000000) :
    Calls Tryz.prog 101 #[.string s] w fun e w' => ∃ v, e = .returned v ∧ OwnRep 1 (flat strEnc) 9 w.heap.size w' (wordsF s) v ∧ Below w.heap.size w w' := by
  have H0 := Lib.hid (show wordsF s = [] ++ wordsG [] (s.data.toList.drop 0) from rfl)
  go_enter Tryz.func101, Tryz.ntmps101
  go_wp2
  go_loopw [3, 4, 5] (fun o d i wr => ∃ (k : Nat) (os : List ByteArray) (cur : List UInt8), k ≤ s.size ∧ i = .int .i64 k ∧ d = .string ⟨cur.toArray⟩ ∧ Hid (wordsF s = os ++ wordsG cur (s.data.toList.drop k)) ∧ OwnRep 1 (flat strEnc) 9 w.heap.size wr os o ∧ Below w.heap.size w wr ∧ os.length ≤ k ∧ cur.length ≤ k) (fun _ _ i _ => s.size - (intOf i).toNat)
  case atStart => exact ⟨0, [], [], Nat.zero_le _, rfl, rfl, H0, OwnRep.nil_, Below.refl _ _, Nat.zero_le _, Nat.zero_le _⟩
  case round =>
    clear H0
    obtain ⟨k, os, cur, hk, rfl, rfl, hR, ho, hbw, hol, hcl⟩ := hrel
    have hbs := hbw.size
    have hro := ho.own_lt
    have hcs : (⟨cur.toArray⟩ : ByteArray).size = cur.length := by show cur.toArray.size = _; rw [List.size_toArray]
    by_cases hlt : k < s.size
    · have hd := index_nat s k hlt
      rw [getD_nat s k hlt] at hd
      have HLO := Lib.hid (fun (W : World) => rlower_c s[k] W)
      have hks : (k : Int) < (s.size : Int) := by omega
      have hz := lowR_pln s[k]
      by_cases hp : plnB (lowB s[k]) = true
      · have HN := Lib.hid (show wordsF s = os ++ wordsG (cur ++ [lowB s[k]]) (s.data.toList.drop (k + 1)) by rw [hR.out, hd, wordsG, if_pos hp])
        have hv : lowR s[k] = ((lowB s[k]).toNat : Int) := by unfold lowR; rw [if_pos hp]
        rw [hv] at HLO hz
        rw [hp] at hz
        simp only [Bool.not_true] at hz
        generalize lowB s[k] = y at *
        clear hR hd hp hv
        have bx : Below wr.heap.size wr (wr.alloc (.cells #[.int .u8 (y.toNat : Int)] 5)) := (Below.refl _ _).alloc (Nat.le_refl _) _
        have hcv := str_of_bytes (l := [y]) (SlRep.one_new u8S (w := wr) (F := fun _ => False) (x := y) (cs := u8Enc y) (t := 5) rfl rfl (fun _ hb => hb.elim)) (by simp)
        have hcc : (⟨cur.toArray⟩ : ByteArray) ++ ⟨[y].toArray⟩ = ⟨(cur ++ [y]).toArray⟩ := by
          apply ByteArray.ext
          rw [ByteArray.data_append]
          simp
        have hys : (⟨[y].toArray⟩ : ByteArray).size = 1 := rfl
        have hox := ho.below strS bx
        obtain ⟨cb, hcb⟩ : ∃ cb : ByteArray, (⟨cur.toArray⟩ : ByteArray) = cb := ⟨_, rfl⟩
        obtain ⟨yb, hyb⟩ : ∃ yb : ByteArray, (⟨[y].toArray⟩ : ByteArray) = yb := ⟨_, rfl⟩
        have hcv' : (convert 140 9 (.slice (some ⟨wr.heap.size, 0, none⟩) 1 1)).run Tryz.prog (wr.alloc (.cells #[.int .u8 (y.toNat : Int)] 5)) = .ok (.string yb) (wr.alloc (.cells #[.int .u8 (y.toNat : Int)] 5)) := by rw [← hyb]; exact hcv
        rw [hcb] at hcs hcc
        rw [hyb] at hcc hys
        rw [hcb]
        have hq : ¬ 9223372036854775807 < cb.size + yb.size := by omega
        obtain ⟨on, hon⟩ : ∃ on, cur ++ [y] = on := ⟨_, rfl⟩
        have hol2 : on.length ≤ k + 1 := by rw [← hon, List.length_append, List.length_cons, List.length_nil]; omega
        rw [hon] at HN hcc
        have HCC := Lib.hid hcc
        clear hcv hcb hyb hon hcc hys
        go_wp2_with fail
        refine (HLO.out _).mono ?_
        rintro e w2 ⟨rfl, rfl⟩
        go_wp2
        go_roundw
        case rel => exact ⟨k + 1, os, on, by omega, by go_num, by rw [HCC.out], HN, hox, hbw.trans (bx.mono hbs), by omega, hol2⟩
        case measure => simp [intOf]; omega
      · have hp' : plnB (lowB s[k]) = false := by simpa using hp
        have HN := Lib.hid (show wordsF s = (os ++ endW cur) ++ wordsG [] (s.data.toList.drop (k + 1)) by rw [hR.out, hd, wordsG, if_neg hp, List.append_assoc])
        have hv : lowR s[k] = 0 := by unfold lowR; rw [if_neg hp]
        rw [hv] at HLO
        clear hR hd hp hp' hv hz
        by_cases hcu : cur = []
        · subst hcu
          rw [show endW [] = [] from rfl, List.append_nil] at HN
          go_wp2_with fail
          refine (HLO.out _).mono ?_
          rintro e w2 ⟨rfl, rfl⟩
          go_wp2
          go_roundw
          case rel => exact ⟨k + 1, os, [], by omega, by go_num, rfl, HN, ho, hbw, by omega, by simp⟩
          case measure => simp [intOf]; omega
        · have hcz : (⟨cur.toArray⟩ : ByteArray).size ≠ 0 := by
            rw [hcs]
            exact fun e => hcu (List.eq_nil_of_length_eq_zero e)
          have hse := str_empty (⟨cur.toArray⟩ : ByteArray)
          rw [decide_eq_false hcz] at hse
          rw [show endW cur = [⟨cur.toArray⟩] by unfold endW; rw [if_neg hcu]] at HN
          generalize (⟨cur.toArray⟩ : ByteArray) = cb at *
          have bx : Below wr.heap.size wr (wr.alloc (.cells #[.string cb] 9)) := (Below.refl _ _).alloc (Nat.le_refl _) _
          go_wp2_with fail
          refine (HLO.out _).mono ?_
          rintro e w2 ⟨rfl, rfl⟩
          obtain ⟨Ao, no, co, rfl, hno⟩ := own_formW ho
          go_wp2_with (at_builtin; refine stop_intro ?_)
          refine stop_elim ?_
          refine wpList_append_rep rfl strS strE_ w.heap.size (.tmp 26) (.tmp 28) rfl rfl (ho.below strS bx) rfl (ys := [cb]) (SlRep.one_new strS (w := wr) (F := fun _ => False) (x := cb) (cs := strEnc cb) rfl rfl (fun _ hb => hb.elim)) (fun b hb => by
            rcases hb with hb | rfl
            · exact hb.elim
            · exact ⟨by simp, fun e => by have := (hro _ e).2; omega⟩) (by simp only [List.length_cons, List.length_nil]; omega) (by decide) (Nat.le_trans hbs bx.size) ?_
          intro v6 w6 hown6 hg6 hat6
          have hb6 := (hbw.trans (bx.mono hbs)).grown hg6 (Nat.le_trans hbs bx.size) (fun j hj => (hro j hj).1)
          have hl6 : (os ++ [cb]).length ≤ k + 1 := by rw [List.length_append, List.length_cons, List.length_nil]; omega
          generalize os ++ [cb] = on at hown6 HN hl6
          obtain ⟨A6, n6, c6, rfl, hn6⟩ := own_formW hown6
          clear hg6 hat6 ho
          go_wp2
          go_roundw
          case rel => exact ⟨k + 1, on, [], by omega, by go_num, rfl, HN, hown6, hb6, hl6, by simp⟩
          case measure => simp [intOf]; omega
    · have HE := Lib.hid (show wordsF s = os ++ endW cur by rw [hR.out, List.drop_of_length_le (by rw [Array.length_toList]; show s.size ≤ k; omega), wordsG])
      clear hR
      by_cases hcu : cur = []
      · subst hcu
        rw [show endW [] = [] from rfl, List.append_nil] at HE
        rw [← HE.out] at ho
        obtain ⟨Ao, no, co, rfl, hno⟩ := own_formW ho
        go_wp2
        go_ret
        exact ⟨_, rfl, ho, hbw⟩
      · have hcz : (⟨cur.toArray⟩ : ByteArray).size ≠ 0 := by
          rw [hcs]
          exact fun e => hcu (List.eq_nil_of_length_eq_zero e)
        have hse := str_empty (⟨cur.toArray⟩ : ByteArray)
        rw [decide_eq_false hcz] at hse
        rw [show endW cur = [⟨cur.toArray⟩] by unfold endW; rw [if_neg hcu]] at HE
        generalize (⟨cur.toArray⟩ : ByteArray) = cb at *
        have bx : Below wr.heap.size wr (wr.alloc (.cells #[.string cb] 9)) := (Below.refl _ _).alloc (Nat.le_refl _) _
        obtain ⟨Ao, no, co, rfl, hno⟩ := own_formW ho
        go_wp2_with (at_builtin; refine stop_intro ?_)
        refine stop_elim ?_
        refine wpList_append_rep rfl strS strE_ w.heap.size (.tmp 32) (.tmp 34) rfl rfl (ho.below strS bx) rfl (ys := [cb]) (SlRep.one_new strS (w := wr) (F := fun _ => False) (x := cb) (cs := strEnc cb) rfl rfl (fun _ hb => hb.elim)) (fun b hb => by
          rcases hb with hb | rfl
          · exact hb.elim
          · exact ⟨by simp, fun e => by have := (hro _ e).2; omega⟩) (by simp only [List.length_cons, List.length_nil]; omega) (by decide) (Nat.le_trans hbs bx.size) ?_
        intro v6 w6 hown6 hg6 hat6
        have hb6 := (hbw.trans (bx.mono hbs)).grown hg6 (Nat.le_trans hbs bx.size) (fun j hj => (hro j hj).1)
        have hl6 : (os ++ [cb]).length ≤ k + 1 := by rw [List.length_append, List.length_cons, List.length_nil]; omega
        rw [← HE.out] at hown6
        obtain ⟨A6, n6, c6, rfl, hn6⟩ := own_formW hown6
        go_wp2
        go_ret
        exact ⟨_, rfl, hown6, hb6⟩

theorem addAll_len (l m : List Post) : (addAll l m).length = l.length + m.length := by
  rw [(addAll_perm m l).length_eq, List.length_append]
set_option maxRecDepth 100000 in
set_option maxHeartbeats 4000000 in
theorem rfield5_c (l : List Post) (u n : Int) (t : ByteArray) (v : Value) (w : World) (B : Nat) (hB : B ≤ w.heap.size) (h : Posts w B l v) (hn : l.length ≤ 10000000) (ht : t.size ≤ 1000000) :
    Calls Tryz.prog 59 #[v, .int .i64 u, .int .i64 n, .string t] w fun e w' => ∃ v', e = .returned v' ∧ Posts w' w'.heap.size (addAll l (putF u n t)) v' ∧ Below w.heap.size w w' := by
  have HW := Lib.hid (rwords54_c t w ht)
  have hwl := wordsF_len t
  have HPF := Lib.hid (show putF u n t = putG u n 0 (wordsF t) from rfl)
  have HF := Lib.hid (show addAll l (putF u n t) = addAll (addAll l ((putG u n 0 (wordsF t)).take 0)) ((putG u n 0 (wordsF t)).drop 0) by rw [HPF.out]; rfl)
  have HPL := Lib.hid (putG_len u n (wordsF t) 0)
  obtain ⟨A, c, rfl, hc1, hc2, _⟩ := id h
  go_enter Tryz.func59, Tryz.ntmps59
  go_wp2_with fail
  refine HW.out.mono ?_
  rintro e w1 ⟨vw, rfl, hown1, hb1⟩
  have hS1 := (h.below pstS (hb1.mono hB)).mono pstS (Nat.le_trans hB hb1.size)
  have hW1 := hown1.toSl strS
  obtain ⟨Aw, nw, cw, rfl, hnw⟩ := own_formW hown1
  generalize wordsF t = ws at *
  have HNW := Lib.hid hnw.out
  rw [hnw.out]
  go_wp2
  go_loopw [0, 10] (fun sl i wr => ∃ (k : Nat) (m : List Post) (v' : Value), k ≤ ws.length ∧ i = .int .i64 k ∧ sl = v' ∧ Hid (addAll l (putF u n t) = addAll m ((putG u n 0 ws).drop k)) ∧ Posts wr wr.heap.size m v' ∧ Hid (m.length = l.length + k) ∧ Below w1.heap.size w1 wr) (fun _ i _ => ws.length - (intOf i).toNat)
  case atStart => exact ⟨0, l, _, Nat.zero_le _, rfl, rfl, HF, hS1, Lib.hid rfl, Below.refl _ _⟩
  case round =>
    clear HF hS1
    obtain ⟨k, m, v', hk, rfl, hv', HS, hm, hml, hb⟩ := hrel
    subst hv'
    have hbs := hb.size
    by_cases hlt : k < ws.length
    · obtain ⟨y, hy⟩ := get_at ws hlt
      have hg := putG_at u n ws 0 k y hy
      rw [Nat.zero_add] at hg
      have HN := Lib.hid (show addAll l (putF u n t) = addAll (insP m ⟨y, u, n, (k : Int)⟩) ((putG u n 0 ws).drop (k + 1)) by rw [HS.out, drop_at hg, addAll_cons])
      obtain ⟨bw, ow, rfl, hbB, q0⟩ := Strs.at_ (hW1.below strS hb) hy
      have hbw : bw < wr.heap.size := by have : bw < w1.heap.size := hbB; omega
      have hki : (k : Int) < (ws.length : Int) := by omega
      have HAD := Lib.hid (radd5_c m ⟨y, u, n, (k : Int)⟩ _ wr wr.heap.size (Nat.le_refl _) hm (by have := hml.out; omega))
      obtain ⟨Am, cm, rfl, -⟩ := id hm
      have hl2 := Lib.hid (show (insP m ⟨y, u, n, (k : Int)⟩).length = l.length + (k + 1) by rw [(insP_perm _ _).length_eq, List.length_cons, hml.out]; omega)
      generalize insP m ⟨y, u, n, (k : Int)⟩ = m2 at *
      clear hg hy HS
      go_wp2_with fail
      refine HAD.out.mono ?_
      rintro e w2 ⟨v2, rfl, hown2, hb2⟩
      have hm2 := hown2.toSl pstS
      obtain ⟨A2, n2, c2, rfl, hn2⟩ := own_form pstS hown2
      go_wp2
      go_roundw
      case rel => exact ⟨k + 1, m2, _, by omega, by go_num, rfl, HN, hm2, hl2, hb.trans (hb2.mono hbs)⟩
      case measure => simp [intOf]; omega
    · have HE := Lib.hid (show addAll l (putF u n t) = m by
        have hgl := HPL.out
        rw [HS.out, List.drop_of_length_le (by omega)]
        rfl)
      rw [← HE.out] at hm
      clear HS HE
      obtain ⟨Am, cm, rfl, -⟩ := id hm
      go_wp2
      go_ret
      exact ⟨_, rfl, hm, hb1.trans (hb.mono hb1.size)⟩
theorem of_right {c : Cat} {s : ByteArray} {u : Int} : (if rightE c s = 0 then ofF c s u else []) = if catE c = 0 ∧ hasS c.langs s = true ∧ 0 ≤ shtIx c.sheets u then ofF c s u else [] := by
  by_cases h1 : catE c = 0
  · by_cases h2 : hasS c.langs s = true
    · have hr : rightE c s = 0 := by unfold rightE; rw [if_neg (show ¬ (catE c ≠ 0) from fun h => h h1), if_neg (show ¬ (hasS c.langs s = false) by rw [h2]; decide)]
      rw [if_pos hr]
      by_cases h3 : 0 ≤ shtIx c.sheets u
      · rw [if_pos ⟨h1, h2, h3⟩]
      · rw [if_neg (show ¬ (catE c = 0 ∧ hasS c.langs s = true ∧ 0 ≤ shtIx c.sheets u) from fun h => h3 h.2.2)]
        unfold ofF
        rw [raw_none (by omega)]
        rfl
    · have hr : rightE c s = 10 := by unfold rightE; rw [if_neg (show ¬ (catE c ≠ 0) from fun h => h h1), if_pos (show hasS c.langs s = false by simpa using h2)]
      rw [hr, if_neg (by decide), if_neg (show ¬ (catE c = 0 ∧ hasS c.langs s = true ∧ 0 ≤ shtIx c.sheets u) from fun h => h2 h.2.1)]
  · have hr : rightE c s = 1 := by unfold rightE; rw [if_pos h1]
    rw [hr, if_neg (by decide), if_neg (show ¬ (catE c = 0 ∧ hasS c.langs s = true ∧ 0 ≤ shtIx c.sheets u) from fun h => h1 h.1)]
theorem catW1_at {w W : World} {v1 v2 v3 : Value} (hW : Below (w.heap.size + 1) (w.alloc (catC v1 v2 v3)) W) : W.cell? ⟨w.heap.size, 0, none⟩ = some v1 ∧ W.cell? ⟨w.heap.size, 1, none⟩ = some v2 ∧ W.cell? ⟨w.heap.size, 2, none⟩ = some v3 ∧ w.heap.size < W.heap.size := catW_at hW
set_option maxRecDepth 100000 in
set_option maxHeartbeats 8000000 in
theorem rOf5_c (c : Cat) (s : ByteArray) (u : Int) (v1 v2 v3 : Value) (w : World) (B : Nat) (hB : B ≤ w.heap.size) (h : CatRep w B c v1 v2 v3) (hl : c.sheets.length ≤ 1000) (hl2 : c.langs.length ≤ 1000) :
    Calls Tryz.prog 14 #[.agg #[v1, v2, v3], .string s, .int .i64 u] w fun e w' => ∃ v', e = .returned v' ∧ Posts w' w'.heap.size (if rightE c s = 0 then ofF c s u else []) v' ∧ Below w.heap.size w w' := by
  rw [of_right]
  have b1 : Below w.heap.size w (w.alloc (catC v1 v2 v3)) := (Below.refl _ _).alloc (Nat.le_refl _) _
  have hb0 : Below (w.heap.size + 1) (w.alloc (catC v1 v2 v3)) (w.alloc (catC v1 v2 v3)) := Below.refl _ _
  have KC := Lib.hid (fun (W : World) (hW : Below (w.heap.size + 1) (w.alloc (catC v1 v2 v3)) W) => catW1_at hW)
  have HCK := Lib.hid (fun (W : World) (hW : Below w.heap.size w W) => rcheck47_c c v1 v2 v3 W B (Nat.le_trans hB hW.size) (h.below (hW.mono hB)) hl)
  have HHS := Lib.hid (fun (W : World) (hW : Below w.heap.size w W) => rhas_c c.langs s v1 W (fun b => b < B) (fun b hb => by have : b < B := hb; have := hW.size; omega) (h.langs.below strS (hW.mono hB)))
  have HIX := Lib.hid (fun (W : World) (hW : Below w.heap.size w W) => show Calls Tryz.prog 58 #[.agg #[v1, v2, v3], .int .i64 c.sheets.length, .int .i64 u] W fun e w' => e = .returned (.int .i64 (shtIx c.sheets u)) ∧ Below W.heap.size W w' by
    have := rindex_c c c.sheets.length u v1 v2 v3 W B (Nat.le_trans hB hW.size) (h.sheets.below shtS (hW.mono hB)) (Nat.le_refl _)
    rwa [List.take_of_length_le (Nat.le_refl _)] at this)
  obtain ⟨A1, c1, rfl, -⟩ := id h.langs
  obtain ⟨A2, c2, rfl, -⟩ := id h.labels
  obtain ⟨A3, c3, rfl, -⟩ := id h.sheets
  by_cases hc : catE c = 0
  · have HC0 := Lib.hid hc
    rw [hc] at HCK
    cases hh : hasS c.langs s
    · rw [hh] at HHS
      rw [if_neg (by simp)]
      clear hc hh
      go_enter Tryz.func14, Tryz.ntmps14
      go_wp2_with fail
      refine (HCK.out _ b1).mono ?_
      rintro e w1 ⟨rfl, hb1⟩
      have hbX := bnd_call hb0 (by simp) hb1
      obtain ⟨z0, z1, z2, zl⟩ := KC.out _ hbX
      go_wp2_with fail
      refine (HHS.out _ (b1.trans (hbX.mono (Nat.le_succ _)))).mono ?_
      rintro e w2 ⟨rfl, rfl⟩
      go_wp2
      go_ret
      exact ⟨_, rfl, SlRep.nil_, b1.trans (hbX.mono (Nat.le_succ _))⟩
    · rw [hh] at HHS
      rcases idxF_cases (fun x : Sheet => decide (x.unit = u)) c.sheets with ⟨h1, -⟩ | ⟨k, x, h1, h2, -, -⟩
      · have hi : shtIx c.sheets u = -1 := h1
        rw [hi] at HIX
        rw [if_neg (by rw [hi]; simp)]
        clear hc hh h1 hi
        go_enter Tryz.func14, Tryz.ntmps14
        go_wp2_with fail
        refine (HCK.out _ b1).mono ?_
        rintro e w1 ⟨rfl, hb1⟩
        have hbX := bnd_call hb0 (by simp) hb1
        obtain ⟨z0, z1, z2, zl⟩ := KC.out _ hbX
        go_wp2_with fail
        refine (HHS.out _ (b1.trans (hbX.mono (Nat.le_succ _)))).mono ?_
        rintro e w2 ⟨rfl, rfl⟩
        go_wp2_with fail
        refine (HIX.out _ (b1.trans (hbX.mono (Nat.le_succ _)))).mono ?_
        rintro e w3 ⟨rfl, hb3⟩
        have hbX := bnd_call hbX (by simp) hb3
        go_wp2
        go_ret
        exact ⟨_, rfl, SlRep.nil_, b1.trans (hbX.mono (Nat.le_succ _))⟩
      · have hi : shtIx c.sheets u = (k : Int) := h1
        rw [hi] at HIX
        rw [if_pos ⟨hc, rfl, by rw [hi]; omega⟩]
        have hkl := lt_of_at h2
        have hki0 : (0 : Int) ≤ (k : Int) := by omega
        have hki1 : (k : Int) < (c.sheets.length : Int) := by omega
        have hki2 : decide ((k : Int) < 0) = false := by simp
        obtain ⟨hc32, hcm⟩ := chosen_facts (s := s) hc hi h2
        have HRAW := Lib.hid (raw_at (s := s) hi h2)
        have HOF := Lib.hid (show ofF c s u = addAll [] (rawF c s u) from rfl)
        have htl := ((catE_zero hc).2.2.2 x (List.mem_of_getElem? h2)).2.1.2.2
        have HCH := Lib.hid (fun (W : World) (hW : Below w.heap.size w W) => rChoose_c c u s (.slice A1 c.langs.length c1) (.slice A2 c.labels.length c2) (.slice A3 c.sheets.length c3) W B (Nat.le_trans hB hW.size) (h.below (hW.mono hB)) hl hl2)
        have HX := Lib.hid (fun (W : World) (hW : Below w.heap.size w W) => Sheets.at_ (h.sheets.below shtS (hW.mono hB)) h2)
        have HPT := Lib.hid (fun (W : World) => rfield5_c [] u (-1) x.title (.slice none 0 0) W 0 (Nat.zero_le _) SlRep.nil_ (by simp) (by omega))
        generalize chooseR c u s = fs at *
        clear hc hh h1 hi h2
        go_enter Tryz.func14, Tryz.ntmps14
        go_wp2_with fail
        refine (HCK.out _ b1).mono ?_
        rintro e w1 ⟨rfl, hb1⟩
        have hbX := bnd_call hb0 (by simp) hb1
        obtain ⟨z0, z1, z2, zl⟩ := KC.out _ hbX
        go_wp2_with fail
        refine (HHS.out _ (b1.trans (hbX.mono (Nat.le_succ _)))).mono ?_
        rintro e w2 ⟨rfl, rfl⟩
        go_wp2_with fail
        refine (HIX.out _ (b1.trans (hbX.mono (Nat.le_succ _)))).mono ?_
        rintro e w3 ⟨rfl, hb3⟩
        have hbX := bnd_call hbX (by simp) hb3
        clear z0 z1 z2 zl hb1 hb3
        obtain ⟨z0, z1, z2, zl⟩ := KC.out _ hbX
        obtain ⟨b, off, vf, e9, hbB, g0, g1, g2, g3, g4, g5, hvf⟩ := HX.out _ (b1.trans (hbX.mono (Nat.le_succ _)))
        cases e9
        have hbt := b1.trans (hbX.mono (Nat.le_succ _))
        go_wp2_with fail
        refine (HPT.out _).mono ?_
        rintro e w4 ⟨vl, rfl, hl4, hb4⟩
        have hbX := bnd_call hbX (by simp) hb4
        have hbt := b1.trans (hbX.mono (Nat.le_succ _))
        have hs4 := hbt.size
        clear z0 z1 z2 zl g0 g1 g2 g3 g4 g5
        obtain ⟨z0, z1, z2, zl⟩ := KC.out _ hbX
        obtain ⟨Al, cl, rfl, -⟩ := id hl4
        go_wp2_with fail
        refine (HCH.out _ hbt).mono ?_
        rintro e w5 ⟨vfs, rfl, hown5, hb5⟩
        have hbX := bnd_call hbX (by simp) hb5
        have hbt := b1.trans (hbX.mono (Nat.le_succ _))
        have HFS := Lib.hid (hown5.toSl fctS)
        obtain ⟨Af, nf, cf, rfl, hnf⟩ := own_form fctS hown5
        have HNF := Lib.hid hnf.out
        have hb5' := hb5
        have hl5 := (hl4.below pstS hb5).mono pstS hb5.size
        have HL0 := Lib.hid (show addAll [] (rawF c s u) = addAll (addAll [] (putF u (-1) x.title)) ((fs.drop 0).flatMap fun f => putF u f.el f.text) by rw [HRAW.out, addAll_app, List.drop_zero])
        rw [hnf.out]
        clear hb4 hb5 hl4 z0 z1 z2 zl HPT
        have HM0 := Lib.hid (show (addAll [] (putF u (-1) x.title)).length ≤ 4096 + 0 * 4096 by
          rw [addAll_len, List.length_nil]
          have := putF_len u (-1) x.title
          omega)
        go_wp2
        go_loopw [8, 10] (fun sl i wr => ∃ (j : Nat) (m : List Post) (v' : Value), j ≤ fs.length ∧ i = .int .i64 j ∧ sl = v' ∧ Hid (addAll [] (rawF c s u) = addAll m ((fs.drop j).flatMap fun f => putF u f.el f.text)) ∧ Posts wr wr.heap.size m v' ∧ Hid (m.length ≤ 4096 + j * 4096) ∧ Below w5.heap.size w5 wr) (fun _ i _ => fs.length - (intOf i).toNat)
        case atStart => exact ⟨0, _, _, Nat.zero_le _, rfl, rfl, HL0, hl5, HM0, Below.refl _ _⟩
        case round =>
          clear hl5 HL0 HM0
          obtain ⟨j, m, v', hj, rfl, hv', HS, hm, hml, hb⟩ := hrel
          subst hv'
          have hbs := hb.size
          by_cases hlt : j < fs.length
          · obtain ⟨f, hf⟩ := get_at fs hlt
            have hft := (hcm f (List.mem_of_getElem? hf)).2.2.2
            have HN := Lib.hid (show addAll [] (rawF c s u) = addAll (addAll m (putF u f.el f.text)) ((fs.drop (j + 1)).flatMap fun f => putF u f.el f.text) by rw [HS.out, drop_at hf, List.flatMap_cons, addAll_app])
            have hl2 := Lib.hid (show (addAll m (putF u f.el f.text)).length ≤ 4096 + (j + 1) * 4096 by
              rw [addAll_len]
              have := putF_len u f.el f.text
              have := hml.out
              omega)
            obtain ⟨bw, ow, e9, hbB, q0, q1, q2⟩ := Facts.at_ (HFS.out.below fctS hb) hf
            subst e9
            have hbw : bw < wr.heap.size := by have : bw < w5.heap.size := hbB; omega
            have hki : (j : Int) < (fs.length : Int) := by omega
            obtain ⟨Am, cm, rfl, -⟩ := id hm
            have HAD := Lib.hid (fun (W : World) (hW : Below wr.heap.size wr W) => rfield5_c m u f.el f.text (.slice Am m.length cm) W W.heap.size (Nat.le_refl _) ((hm.below pstS hW).mono pstS hW.size) (by have := hml.out; omega) (by omega))
            have hbX : Below wr.heap.size wr wr.drew := (Below.refl _ _).drew
            have KEEP := Lib.hid (fun (W : World) (hW : Below wr.heap.size wr W) => (⟨(hW.cell (p := ⟨bw, ow + j * 3, none⟩) hbw).trans q0, (hW.cell (p := ⟨bw, ow + j * 3 + 2, none⟩) hbw).trans q2⟩ : W.cell? ⟨bw, ow + j * 3, none⟩ = some (.int .i64 f.el) ∧ W.cell? ⟨bw, ow + j * 3 + 2, none⟩ = some (.string f.text)))
            generalize addAll m (putF u f.el f.text) = m2 at *
            clear hf HS q0 q1 q2
            go_wp2
            go_region_held3 (fun W => W.cell? ⟨bw, ow + j * 3, none⟩ = some (.int .i64 f.el) ∧ W.cell? ⟨bw, ow + j * 3 + 2, none⟩ = some (.string f.text)) (with_reducible exact KEEP.out _ hbX) (first
              | (go_at_call 59; (with_reducible refine (HAD.out _ hbX).mono ?_); rintro e w6 ⟨v2, rfl, hm2, hb2⟩; have hbX := bnd_call hbX (Nat.le_refl _) hb2))
            obtain ⟨A2, c2, rfl, -⟩ := id hm2
            go_wp2
            go_roundw
            case rel => exact ⟨j + 1, m2, _, by omega, by go_num, rfl, HN, hm2, hl2, hb.trans (hbX.mono hbs)⟩
            case measure => simp [intOf]; omega
          · have HE := Lib.hid (show ofF c s u = m by
              rw [HOF.out, HS.out, List.drop_of_length_le (by omega)]
              rfl)
            rw [← HE.out] at hm
            clear HS HE
            obtain ⟨Am, cm, rfl, -⟩ := id hm
            go_wp2
            go_ret
            exact ⟨_, rfl, hm, hbt.trans (hb.mono hbt.size)⟩
  · rw [if_neg (fun h => hc h.1)]
    have hne : (catE c != 0) = true := by simpa using hc
    clear hc
    go_enter Tryz.func14, Tryz.ntmps14
    go_wp2_with fail
    refine (HCK.out _ b1).mono ?_
    rintro e w1 ⟨rfl, hb1⟩
    go_wp2
    go_ret
    exact ⟨_, rfl, SlRep.nil_, b1.trans (hb1.mono (by simp))⟩

set_option maxRecDepth 100000 in
set_option maxHeartbeats 8000000 in
theorem rBuild5_c (c : Cat) (s : ByteArray) (v1 v2 v3 : Value) (w : World) (B : Nat) (hB : B ≤ w.heap.size) (h : CatRep w B c v1 v2 v3) (hl : c.sheets.length ≤ 1000) (hl2 : c.langs.length ≤ 1000) :
    Calls Tryz.prog 11 #[.agg #[v1, v2, v3], .string s] w fun e w' => ∃ v', e = .returned (.tuple #[v', .int .i64 (buildE c s)]) ∧ Posts w' w'.heap.size (buildF c s) v' ∧ Below w.heap.size w w' := by
  have b1 : Below w.heap.size w (w.alloc (catC v1 v2 v3)) := (Below.refl _ _).alloc (Nat.le_refl _) _
  have hb0 : Below (w.heap.size + 1) (w.alloc (catC v1 v2 v3)) (w.alloc (catC v1 v2 v3)) := Below.refl _ _
  have KC := Lib.hid (fun (W : World) (hW : Below (w.heap.size + 1) (w.alloc (catC v1 v2 v3)) W) => catW1_at hW)
  have HCK := Lib.hid (fun (W : World) (hW : Below w.heap.size w W) => rcheck47_c c v1 v2 v3 W B (Nat.le_trans hB hW.size) (h.below (hW.mono hB)) hl)
  have HHS := Lib.hid (fun (W : World) (hW : Below w.heap.size w W) => rhas_c c.langs s v1 W (fun b => b < B) (fun b hb => by have : b < B := hb; have := hW.size; omega) (h.langs.below strS (hW.mono hB)))
  have HOF := Lib.hid (fun (u : Int) (W : World) (hW : Below w.heap.size w W) => rOf5_c c s u v1 v2 v3 W B (Nat.le_trans hB hW.size) (h.below (hW.mono hB)) hl hl2)
  obtain ⟨A1, c1, rfl, -⟩ := id h.langs
  obtain ⟨A2, c2, rfl, -⟩ := id h.labels
  obtain ⟨A3, c3, rfl, hd1, hd2, -⟩ := id h.sheets
  by_cases hc : catE c = 0
  · rw [hc] at HCK
    cases hh : hasS c.langs s
    · rw [hh] at HHS
      have hr : rightE c s = 10 := by unfold rightE; rw [if_neg (show ¬ (catE c ≠ 0) from fun h => h hc), if_pos hh]
      have HBB := Lib.hid (show buildE c s = 10 by unfold buildE; rw [if_pos (show rightE c s ≠ 0 by rw [hr]; decide), hr])
      have HBF := Lib.hid (show buildF c s = [] by unfold buildF; rw [if_neg (show ¬ (buildE c s = 0) by rw [HBB.out]; decide)])
      clear hc hh hr HOF
      go_enter Tryz.func11, Tryz.ntmps11
      go_wp2_with fail
      refine (HCK.out _ b1).mono ?_
      rintro e w1 ⟨rfl, hb1⟩
      have hbX := bnd_call hb0 (by simp) hb1
      obtain ⟨z0, z1, z2, zl⟩ := KC.out _ hbX
      go_wp2_with fail
      refine (HHS.out _ (b1.trans (hbX.mono (Nat.le_succ _)))).mono ?_
      rintro e w2 ⟨rfl, rfl⟩
      go_wp2
      go_ret2
      exact ⟨_, by rw [HBB.out]; rfl, by rw [HBF.out]; exact SlRep.nil_, b1.trans (hbX.mono (Nat.le_succ _))⟩
    · rw [hh] at HHS
      have hr : rightE c s = 0 := by unfold rightE; rw [if_neg (show ¬ (catE c ≠ 0) from fun h => h hc), if_neg (show ¬ (hasS c.langs s = false) by rw [hh]; decide)]
      have HBE := Lib.hid (show buildE c s = if 65536 < (allF c s).length then 8 else 0 by unfold buildE; rw [if_neg (by simpa using hr)])
      have HOL := Lib.hid (fun u => ofF_len s u hc)
      have hsl := (catE_zero hc).2.2.1
      have HOF := Lib.hid (fun (u : Int) (W : World) (hW : Below w.heap.size w W) => show Calls Tryz.prog 14 #[.agg #[.slice A1 c.langs.length c1, .slice A2 c.labels.length c2, .slice A3 c.sheets.length c3], .string s, .int .i64 u] W fun e w' => ∃ v', e = .returned v' ∧ Posts w' w'.heap.size (ofF c s u) v' ∧ Below W.heap.size W w' by
        have := HOF.out u W hW
        rwa [if_pos hr] at this)
      have HX := Lib.hid (fun (k : Nat) (x : Sheet) (hx : c.sheets[k]? = some x) (W : World) (hW : Below w.heap.size w W) => Sheets.at_ (h.sheets.below shtS (hW.mono hB)) hx)
      have HAL := Lib.hid (show sortP (allF c s) = addAll [] (c.sheets.flatMap (fun x => ofF c s x.unit)) from rfl)
      have HA0 := Lib.hid (show sortP (allF c s) = addAll [] ((c.sheets.drop 0).flatMap (fun x => ofF c s x.unit)) from rfl)
      clear hc hh hr
      go_enter Tryz.func11, Tryz.ntmps11
      go_wp2_with fail
      refine (HCK.out _ b1).mono ?_
      rintro e w1 ⟨rfl, hb1⟩
      have hbX := bnd_call hb0 (by simp) hb1
      obtain ⟨z0, z1, z2, zl⟩ := KC.out _ hbX
      go_wp2_with fail
      refine (HHS.out _ (b1.trans (hbX.mono (Nat.le_succ _)))).mono ?_
      rintro e w2 ⟨rfl, rfl⟩
      clear hb1
      go_wp2
      go_loopw [6, 7] (fun sl i wr => ∃ (k : Nat) (m : List Post) (v' : Value), k ≤ c.sheets.length ∧ i = .int .i64 k ∧ sl = v' ∧ Hid (sortP (allF c s) = addAll m ((c.sheets.drop k).flatMap fun x => ofF c s x.unit)) ∧ Posts wr wr.heap.size m v' ∧ Hid (m.length ≤ k * 200000) ∧ Below (w.heap.size + 1) (w.alloc (catC (.slice A1 c.langs.length c1) (.slice A2 c.labels.length c2) (.slice A3 c.sheets.length c3))) wr) (fun _ i _ => c.sheets.length - (intOf i).toNat)
      case atStart => exact ⟨0, [], _, Nat.zero_le _, rfl, rfl, HA0, SlRep.nil_, Lib.hid (Nat.zero_le _), hbX⟩
      case round =>
        clear hbX HA0 z0 z1 z2 zl
        obtain ⟨k, m, v', hk, rfl, hv', HS, hm, hml, hbX⟩ := hrel
        subst hv'
        obtain ⟨z0, z1, z2, zl⟩ := KC.out _ hbX
        have Br := b1.trans (hbX.mono (Nat.le_succ _))
        have hsr := Br.size
        obtain ⟨Am, cm, rfl, -⟩ := id hm
        by_cases hlt : k < c.sheets.length
        · obtain ⟨x, hx⟩ := get_at c.sheets hlt
          have HN := Lib.hid (show sortP (allF c s) = addAll (addAll m (ofF c s x.unit)) ((c.sheets.drop (k + 1)).flatMap fun x => ofF c s x.unit) by rw [HS.out, drop_at hx, List.flatMap_cons, addAll_app])
          have hpl := HOL.out x.unit
          have hl2 := Lib.hid (show (addAll m (ofF c s x.unit)).length ≤ (k + 1) * 200000 by
            rw [addAll_len]
            have := hml.out
            omega)
          have hmb : m.length + (ofF c s x.unit).length ≤ 100000000 := by
            have := hml.out
            have : k * 200000 ≤ 256 * 200000 := Nat.mul_le_mul_right _ (by omega)
            omega
          have HMB := Lib.hid hmb
          obtain ⟨b, off, vf, e9, hbB, g0, -, -, -, -, -, hvf⟩ := HX.out k x hx _ Br
          subst e9
          have hbw : b < wr.heap.size := by have : b < B := hbB; omega
          have hki : (k : Int) < (c.sheets.length : Int) := by omega
          have hbY : Below wr.heap.size wr wr.drew := (Below.refl _ _).drew
          have KEEP := Lib.hid (fun (W : World) (hW : Below wr.heap.size wr W) => (⟨(hW.cell (p := ⟨w.heap.size, 0, none⟩) zl).trans z0, (hW.cell (p := ⟨w.heap.size, 1, none⟩) zl).trans z1, (hW.cell (p := ⟨w.heap.size, 2, none⟩) zl).trans z2, (hW.cell (p := ⟨b, off + k * 6, none⟩) hbw).trans g0⟩ : W.cell? ⟨w.heap.size, 0, none⟩ = some (.slice A1 c.langs.length c1) ∧ W.cell? ⟨w.heap.size, 1, none⟩ = some (.slice A2 c.labels.length c2) ∧ W.cell? ⟨w.heap.size, 2, none⟩ = some (.slice (some ⟨b, off, none⟩) c.sheets.length c3) ∧ W.cell? ⟨b, off + k * 6, none⟩ = some (.int .i64 x.unit)))
          have HOX := Lib.hid (fun (W : World) (hW : Below wr.heap.size wr W) => HOF.out x.unit W (Br.trans (hW.mono hsr)))
          obtain ⟨ps, hps⟩ : ∃ ps, ofF c s x.unit = ps := ⟨_, rfl⟩
          rw [hps] at HOX HN hl2 HMB hpl
          clear hx HS hps hmb
          have HA1 := Lib.hid (show addAll m ps = addAll m (ps.drop 0) from rfl)
          go_wp2
          clear z0 z1 z2 g0
          go_region_held3 (fun W => W.cell? ⟨w.heap.size, 0, none⟩ = some (.slice A1 c.langs.length c1) ∧ W.cell? ⟨w.heap.size, 1, none⟩ = some (.slice A2 c.labels.length c2) ∧ W.cell? ⟨w.heap.size, 2, none⟩ = some (.slice (some ⟨b, off, none⟩) c.sheets.length c3) ∧ W.cell? ⟨b, off + k * 6, none⟩ = some (.int .i64 x.unit)) (with_reducible exact KEEP.out _ hbY) (first
            | (go_at_call 14; (with_reducible refine (HOX.out _ hbY).mono ?_); rintro e w5 ⟨vp, rfl, hp5, hb5⟩; have hbY := bnd_call hbY (Nat.le_refl _) hb5))
          have hm5 := (hm.below pstS hbY).mono pstS hbY.size
          have hbX5 := hbX.trans (hbY.mono (by have := hbX.size; simp at this; exact this))
          obtain ⟨Ap, cp, rfl, hq1, hq2, -⟩ := id hp5
          clear KEEP HOX hbw hbY hb5
          go_wp2
          obtain ⟨wo, rfl⟩ : ∃ wo : World, wo = wr := ⟨_, rfl⟩
          go_loopw [6, 9] (fun sl i wr => ∃ (j : Nat) (m' : List Post) (v'' : Value), j ≤ ps.length ∧ i = .int .i64 j ∧ sl = v'' ∧ Hid (addAll m ps = addAll m' (ps.drop j)) ∧ Posts wr wr.heap.size m' v'' ∧ Hid (m'.length ≤ m.length + j) ∧ Below w5.heap.size w5 wr) (fun _ i _ => ps.length - (intOf i).toNat)
          case atStart => exact ⟨0, m, _, Nat.zero_le _, rfl, rfl, HA1, hm5, Lib.hid (Nat.le_refl _), Below.refl _ _⟩
          case round =>
            clear hm5 HA1 hm
            obtain ⟨j, m', v'', hj, rfl, hv', HS, hm', hml', hb⟩ := hrel
            subst hv'
            have hbs := hb.size
            obtain ⟨An, cn, rfl, -⟩ := id hm'
            by_cases hlt2 : j < ps.length
            · obtain ⟨y, hy⟩ := get_at ps hlt2
              have HN2 := Lib.hid (show addAll m ps = addAll (insP m' y) (ps.drop (j + 1)) by rw [HS.out, drop_at hy, addAll_cons])
              have hl3 := Lib.hid (show (insP m' y).length ≤ m.length + (j + 1) by
                rw [(insP_perm _ _).length_eq, List.length_cons]
                have := hml'.out
                omega)
              obtain ⟨b2, off2, e9, hbB2, q0, q1, q2, q3⟩ := Posts.at_ (hp5.below pstS hb) hy
              subst e9
              have hbw2 : b2 < wr.heap.size := by have : b2 < w5.heap.size := hbB2; omega
              have hki2 : (j : Int) < (ps.length : Int) := by omega
              have HAD := Lib.hid (fun (W : World) (hW : Below wr.heap.size wr W) => radd5_c m' y (.slice An m'.length cn) W W.heap.size (Nat.le_refl _) ((hm'.below pstS hW).mono pstS hW.size) (by have := hml'.out; have := HMB.out; omega))
              generalize insP m' y = m2 at *
              clear hy HS
              go_wp2_with fail
              refine (HAD.out _ (Below.refl _ _)).mono ?_
              rintro e w6 ⟨v2, rfl, hown6, hbY⟩
              have hm2 := hown6.toSl pstS
              obtain ⟨A2, n2, c2, rfl, hn2⟩ := own_form pstS hown6
              go_wp2
              go_roundw
              case rel => exact ⟨j + 1, m2, _, by omega, by go_num, rfl, HN2, hm2, hl3, hb.trans (hbY.mono hbs)⟩
              case measure => simp [intOf]; omega
            · have HE := Lib.hid (show addAll m ps = m' by
                rw [HS.out, List.drop_of_length_le (by omega)]
                rfl)
              rw [HE.out] at HN hl2
              clear HS HE
              go_wp2
              go_roundw
              case rel => exact ⟨k + 1, m', _, by omega, by go_num, rfl, HN, hm', hl2, hbX5.trans (hb.mono (by have := hbX5.size; simp at this; exact this))⟩
              case measure => simp [intOf]; omega
        · have HE := Lib.hid (show sortP (allF c s) = m by
            rw [HS.out, List.drop_of_length_le (by omega)]
            rfl)
          have HLN := Lib.hid (show m.length = (allF c s).length by rw [← HE.out, sortP_len])
          have hki : ¬ (k : Int) < (c.sheets.length : Int) := by omega
          by_cases hbig : 65536 < (allF c s).length
          · have HBB := Lib.hid (show buildE c s = 8 by rw [HBE.out, if_pos hbig])
            have HBF := Lib.hid (show buildF c s = [] by unfold buildF; rw [if_neg (show ¬ (buildE c s = 0) by rw [HBB.out]; decide)])
            have hnb : (65536 : Int) < (m.length : Int) := by have := HLN.out; omega
            clear HE hbig HLN HS
            go_wp2
            go_ret2
            exact ⟨_, by rw [HBB.out]; rfl, by rw [HBF.out]; exact SlRep.nil_, Br⟩
          · have HBB := Lib.hid (show buildE c s = 0 by rw [HBE.out, if_neg hbig])
            have HBF := Lib.hid (show buildF c s = sortP (allF c s) by unfold buildF; rw [if_pos HBB.out])
            have hnb : ¬ (65536 : Int) < (m.length : Int) := by have := HLN.out; omega
            clear hbig HLN HS
            go_wp2
            go_ret2
            exact ⟨_, by rw [HBB.out]; rfl, by rw [HBF.out, HE.out]; exact hm, Br⟩
  · have hr : rightE c s = 1 := by unfold rightE; rw [if_pos hc]
    have HBB := Lib.hid (show buildE c s = 1 by unfold buildE; rw [if_pos (show rightE c s ≠ 0 by rw [hr]; decide), hr])
    have HBF := Lib.hid (show buildF c s = [] by unfold buildF; rw [if_neg (show ¬ (buildE c s = 0) by rw [HBB.out]; decide)])
    have hne : (catE c != 0) = true := by simpa using hc
    clear hc hr HOF
    go_enter Tryz.func11, Tryz.ntmps11
    go_wp2_with fail
    refine (HCK.out _ b1).mono ?_
    rintro e w1 ⟨rfl, hb1⟩
    go_wp2
    go_ret2
    exact ⟨_, by rw [HBB.out]; rfl, by rw [HBF.out]; exact SlRep.nil_, b1.trans (hb1.mono (by simp))⟩
end Go.Proofs.YtpfngehledgkiaaGreat
