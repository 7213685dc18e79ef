/- The reference of chapter 49: insert. -/
import Derived.Test.YtgnaknanpgfpnaaRefE
import Derived.Test.YtgnaknanpgfpnaaPlainC
namespace Go.Proofs.Ytgnaknanpgfpnaa
open Go.RowKit

section
variable {α : Type} {k : Nat} {R : CRep α} {w : World} {F : Nat → Prop} {xs : List α}
theorem SlRep.take_ {A : Option Addr} {n c j : Nat} (h : SlRep k R w F xs (.slice A n c)) (hj : j ≤ n) : SlRep k R w F (xs.take j) (.slice A j c) := by
  obtain ⟨A', c', e, h1, h2, h3⟩ := h
  injection e with e1 e2 e3
  subst e1 e2 e3
  refine ⟨A, c, by rw [List.length_take, Nat.min_eq_left hj], by rw [List.length_take]; omega, h2, fun i x hx => ?_⟩
  rw [List.getElem?_take] at hx
  split at hx
  · exact h3 i x hx
  · cases hx
theorem SlRep.drop_ {b off n c j : Nat} (h : SlRep k R w F xs (.slice (some ⟨b, off, none⟩) n c)) (hj : j ≤ n) : SlRep k R w F (xs.drop j) (.slice (some ⟨b, off + j * k, none⟩) (n - j) (c - j)) := by
  obtain ⟨A', c', e, h1, h2, h3⟩ := h
  injection e with e1 e2 e3
  subst e1 e2 e3
  refine ⟨_, c - j, by rw [List.length_drop], by rw [List.length_drop]; omega, by omega, fun i x hx => ?_⟩
  rw [List.getElem?_drop] at hx
  obtain ⟨b', off', cs, hA, hF, hr, hc⟩ := h3 (j + i) x hx
  injection hA with hA
  injection hA with hA1 hA2
  subst hA1 hA2
  refine ⟨b, _, cs, rfl, hF, hr, fun t u hu => ?_⟩
  have := hc t u hu
  rw [show off + j * k + i * k + t = off + (j + i) * k + t by rw [Nat.add_mul]; omega]
  exact this
theorem SlRep.none_left {A : Option Addr} {c : Nat} (hc : c ≤ 9223372036854775807) : SlRep k R w F ([] : List α) (.slice A 0 c) := ⟨A, c, rfl, by simp, hc, fun i x hx => by simp at hx⟩
theorem SlRep.gone {A : Option Addr} {c j : Nat} (hj : xs.length ≤ j) (hc : c ≤ 9223372036854775807) : SlRep k R w F (xs.drop j) (.slice A (xs.length - j) c) := by
  rw [List.drop_of_length_le hj, show xs.length - j = 0 by omega]
  exact SlRep.none_left hc
end

theorem insG_yes (y g : Given) (r : List Given) (h : ltG y g = true) : insG (y :: r) g = y :: insG r g := by rw [insG, if_pos h]
theorem insG_no (y g : Given) (r : List Given) (h : ltG y g = false) : insG (y :: r) g = g :: y :: r := by rw [insG, if_neg (by rw [h]; simp)]

set_option maxHeartbeats 2000000 in
theorem insert_c (g : Given) (xs : List Given) (v : Value) (base : Nat) (w : World) (h : OwnRep 4 (flat Given.enc) 38 base w xs v) (hl : xs.length ≤ 20000) :
    Calls Try.prog 46 #[v, .agg #[.string g.mark, .int .i64 g.unit, .int .i64 g.from_, .int .i64 g.until_]] w fun e w' => ∃ v', e = .returned v' ∧ OwnRep 4 (flat Given.enc) 38 w.heap.size w' (insG xs g) v' ∧ Below w.heap.size w w' := by
  have hsl := h.toSl giS
  obtain ⟨A, c, rfl, hc1, hc2, _⟩ := id hsl
  have hlt := h.own_lt
  have HS := Lib.hid (show insG xs g = xs.take 0 ++ insG (xs.drop 0) g by simp)
  have hbox : Below w.heap.size w (w.alloc (.cells #[.string g.mark, .int .i64 g.unit, .int .i64 g.from_, .int .i64 g.until_] 38)) := (Below.refl _ _).alloc (Nat.le_refl _) _
  go_enter Try.func46, Try.ntmps46
  go_wp2
  go_loopw [5] (fun i wr => ∃ k : Nat, k ≤ xs.length ∧ i = .int .i64 k ∧ Hid (insG xs g = xs.take k ++ insG (xs.drop k) g) ∧ ∃ n : Nat, wr = (w.alloc (.cells #[.string g.mark, .int .i64 g.unit, .int .i64 g.from_, .int .i64 g.until_] 38)).drewN n) (fun i _ => xs.length - (intOf i).toNat)
  case atStart => exact ⟨0, Nat.zero_le _, rfl, HS, 0, rfl⟩
  case round =>
    obtain ⟨k, hk, rfl, HS, n, rfl⟩ := hrel
    have key : (k < xs.length ∧ ∃ x, xs[k]? = some x ∧ ltG x g = true) ∨ (insG xs g = xs.take k ++ g :: xs.drop k ∧ (k = xs.length ∨ ∃ x, xs[k]? = some x ∧ ltG x g = false)) := by
      by_cases hklt : k < xs.length
      · obtain ⟨x, hx⟩ := get_at xs hklt
        cases hlx : ltG x g
        · exact .inr ⟨by rw [HS.out, drop_at hx, insG_no _ _ _ hlx], .inr ⟨x, hx, hlx⟩⟩
        · exact .inl ⟨hklt, x, hx, hlx⟩
      · exact .inr ⟨by rw [HS.out, List.drop_of_length_le (by omega)]; rfl, .inl (by omega)⟩
    rcases key with ⟨hklt, x, hx, hlx⟩ | ⟨hfin, hst⟩
    · have HN := Lib.hid (show insG xs g = xs.take (k + 1) ++ insG (xs.drop (k + 1)) g by rw [HS.out, drop_at hx, insG_yes _ _ _ hlx, take_at hx]; simp)
      obtain ⟨b, off, rfl, hbB, g0, g1, g2, g3⟩ := Givens.at_ hsl hx
      clear hx
      have hcs : Op.bytesLess x.mark.toList g.mark.toList = true ∨ (Op.bytesLess x.mark.toList g.mark.toList = false ∧ (x.mark.toList == g.mark.toList) = true ∧ x.from_ < g.from_) := by
        unfold ltG lessB at hlx
        cases hm : Op.bytesLess x.mark.toList g.mark.toList
        · rw [hm] at hlx
          simp at hlx
          exact .inr ⟨rfl, by rw [hlx.1]; simp, hlx.2⟩
        · exact .inl rfl
      clear hlx
      rcases hcs with hm | ⟨hm, hme, hfr⟩
      all_goals
        go_wp2
        go_quiet (fail)
        go_wp2
        go_roundw
        case rel => exact ⟨k + 1, by omega, by go_num, HN, _, rfl⟩
        case measure => simp [intOf]; omega
    · have HN := Lib.hid hfin
      clear hfin HS
      have hcs : k = xs.length ∨ ∃ x, xs[k]? = some x ∧ Op.bytesLess x.mark.toList g.mark.toList = false ∧ ((x.mark.toList == g.mark.toList) = false ∨ ((x.mark.toList == g.mark.toList) = true ∧ ¬ x.from_ < g.from_)) := by
        rcases hst with h0 | ⟨x, hx, hlx⟩
        · exact .inl h0
        · right
          refine ⟨x, hx, ?_⟩
          unfold ltG lessB at hlx
          rw [Bool.or_eq_false_iff] at hlx
          refine ⟨hlx.1, ?_⟩
          rw [str_eq]
          by_cases hm : x.mark = g.mark
          · right
            refine ⟨by simp [hm], ?_⟩
            simpa [hm] using hlx.2
          · left; simpa using hm
      clear hst
      have hb0 : ∀ m : Nat, Below w.heap.size w ((w.alloc (.cells #[.string g.mark, .int .i64 g.unit, .int .i64 g.from_, .int .i64 g.until_] 38)).drewN m) := fun m => below_drewN hbox m
      have hpre : (¬ k < xs.length) ∨ ∃ x b off, A = some ⟨b, off, none⟩ ∧ b < w.heap.size ∧ k < xs.length ∧ w.cell? ⟨b, off + k * 4, none⟩ = some (.string x) ∧ Op.bytesLess x.toList g.mark.toList = false ∧ ((x.toList == g.mark.toList) = false ∨ ((x.toList == g.mark.toList) = true ∧ ∃ f : Int, w.cell? ⟨b, off + k * 4 + 2, none⟩ = some (.int .i64 f) ∧ ¬ f < g.from_)) := by
        rcases hcs with h0 | ⟨x, hx, hm, hme⟩
        · left; omega
        · right
          obtain ⟨b, off, rfl, hbB, g0, g1, g2, g3⟩ := Givens.at_ hsl hx
          refine ⟨x.mark, b, off, rfl, hbB, lt_of_at hx, g0, hm, ?_⟩
          rcases hme with hme | ⟨hme, hf⟩
          · exact .inl hme
          · exact .inr ⟨hme, x.from_, g2, hf⟩
      clear hcs
      have hA : (A = none ∧ xs = [] ∧ c = 0) ∨ ∃ gb, A = some ⟨gb, 0, none⟩ := by
        rcases h.rows.2 with ⟨h1, h2⟩ | ⟨gb, cap, cur, h1, _⟩
        · injection h1 with e1 e2 e3
          exact .inl ⟨e1, List.eq_nil_of_length_eq_zero h2, e3⟩
        · injection h1 with e1
          exact .inr ⟨gb, e1⟩
      have hpre2 : (¬ k < xs.length ∧ A = none) ∨ (∃ gb, ¬ k < xs.length ∧ A = some ⟨gb, 0, none⟩) ∨ ∃ x b, A = some ⟨b, 0, none⟩ ∧ b < w.heap.size ∧ k < xs.length ∧ w.cell? ⟨b, k * 4, none⟩ = some (.string x) ∧ Op.bytesLess x.toList g.mark.toList = false ∧ ((x.toList == g.mark.toList) = false ∨ ((x.toList == g.mark.toList) = true ∧ ∃ f : Int, w.cell? ⟨b, k * 4 + 2, none⟩ = some (.int .i64 f) ∧ ¬ f < g.from_)) := by
        rcases hpre with hge | ⟨x, b, off, rfl, hbB, hklt, g0, hm, hme⟩
        · rcases hA with ⟨h1, _⟩ | ⟨gb, h1⟩
          · exact .inl ⟨hge, h1⟩
          · exact .inr (.inl ⟨gb, hge, h1⟩)
        · rcases hA with ⟨h1, _⟩ | ⟨gb, h1⟩
          · cases h1
          · injection h1 with h1
            injection h1 with e1 e2
            subst e1 e2
            simp only [Nat.zero_add] at g0 hme
            exact .inr (.inr ⟨x, b, rfl, hbB, hklt, g0, hm, hme⟩)
      have hc0 : A = none → xs = [] ∧ c = 0 := fun e => by
        rcases hA with ⟨_, h2, h3⟩ | ⟨gb, h1⟩
        · exact ⟨h2, h3⟩
        · rw [e] at h1; cases h1
      clear hpre hA
      have HSL := Lib.hid hsl
      clear hsl
      rcases hpre2 with ⟨hge, rfl⟩ | ⟨gb, hge, rfl⟩ | ⟨x, gb, rfl, hbB, hklt, g0, hm, hme⟩
      · obtain ⟨rfl, rfl⟩ := hc0 rfl
        obtain rfl : k = 0 := by simpa using hk
        clear hc0
        go_wp2
        go_quiet (fail)
        go_wp2_with (at_builtin; refine stop_intro ?_)
        refine stop_elim ?_
        refine wpList_append_rep rfl giS givenE_ w.heap.size (.tmp 43) (.tmp 46) rfl rfl OwnRep.nil_ rfl (ys := ([] : List Given)) (F := fun b => b < w.heap.size) ?_ ?_ ?_ (by decide) ?_ ?_
        · exact (HSL.out.take_ hk).below giS (hb0 _)
        · intro b' (hb' : b' < w.heap.size)
          exact ⟨by show b' < (w.alloc _).heap.size; simp; omega, fun he => by cases he⟩
        · simp; try omega
        · show _ ≤ (w.alloc _).heap.size; simp
        intro v1 w1 hown1 hg1 hat1
        rw [List.nil_append] at hown1
        change World.grownBy _ w1 none at hg1
        have hb1 : Below (w.heap.size + 1) (w.alloc (.cells #[.string g.mark, .int .i64 g.unit, .int .i64 g.from_, .int .i64 g.until_] 38)) w1 := (below_drewN (Below.refl _ _) _).grown hg1 (by show _ ≤ (w.alloc _).heap.size; simp) (fun k hk => by cases hk)
        have hs1 := hb1.size
        simp only [World.size_alloc] at hs1
        have c0 : w1.cell? ⟨w.heap.size, 0, none⟩ = some (.string g.mark) := (hb1.cell (p := ⟨w.heap.size, 0, none⟩) (by simp)).trans (by simp)
        have c1 : w1.cell? ⟨w.heap.size, 1, none⟩ = some (.int .i64 g.unit) := (hb1.cell (p := ⟨w.heap.size, 1, none⟩) (by simp)).trans (by simp)
        have c2 : w1.cell? ⟨w.heap.size, 2, none⟩ = some (.int .i64 g.from_) := (hb1.cell (p := ⟨w.heap.size, 2, none⟩) (by simp)).trans (by simp)
        have c3 : w1.cell? ⟨w.heap.size, 3, none⟩ = some (.int .i64 g.until_) := (hb1.cell (p := ⟨w.heap.size, 3, none⟩) (by simp)).trans (by simp)
        have B1 := hbox.trans (hb1.mono (Nat.le_succ _))
        have hlt1 := hown1.own_lt
        clear hg1 hat1
        go_wp2_with (at_builtin; refine stop_intro ?_)
        refine stop_elim ?_
        refine wpList_append_rep rfl giS givenE_ w.heap.size (.tmp 48) (.tmp 50) rfl rfl (hown1.alloc giS _) rfl (ys := [g]) (SlRep.one_new giS (F := fun _ => False) rfl (rfl : [Value.string g.mark, .int .i64 g.unit, .int .i64 g.from_, .int .i64 g.until_] = _) (fun _ h => h.elim)) ?_ ?_ (by decide) ?_ ?_
        · intro bb hbb
          rcases hbb with hbb | hbb
          · exact hbb.elim
          · subst hbb
            exact ⟨by simp, fun he => by have := hlt1 _ he; omega⟩
        · simp; try omega
        · simp; omega
        intro v2 w2 hown2 hg2 hat2
        have B2 := (B1.alloc (by omega) _).grown hg2 (by simp; omega) (fun k hk => (hlt1 k hk).1)
        have hs2 := B2.size
        have hlt2 := hown2.own_lt
        clear hg2 hat2
        go_wp2_with (at_builtin; refine stop_intro ?_)
        refine stop_elim ?_
        refine wpList_append_rep rfl giS givenE_ w.heap.size (.tmp 52) (.tmp 55) rfl rfl hown2 rfl (ys := ([] : List Given)) (F := fun b => b < w.heap.size) ?_ ?_ ?_ (by decide) (by omega) ?_
        · exact SlRep.nil_
        · intro b' (hb' : b' < w.heap.size)
          exact ⟨by omega, fun he => by have := hlt2 _ he; omega⟩
        · simp; try omega
        intro v3 w3 hown3 hg3 hat3
        have B3 := B2.grown hg3 (by omega) (fun k hk => (hlt2 k hk).1)
        go_wp2
        go_ret
        exact ⟨_, rfl, by simpa [insG] using hown3, B3⟩
      · clear hc0
        by_cases hck : c = k
        · subst hck
          go_wp2
          go_quiet (fail)
          go_wp2_with (at_builtin; refine stop_intro ?_)
          refine stop_elim ?_
          refine wpList_append_rep rfl giS givenE_ w.heap.size (.tmp 43) (.tmp 46) rfl rfl OwnRep.nil_ rfl (ys := xs.take c) (F := fun b => b < w.heap.size) ?_ ?_ ?_ (by decide) ?_ ?_
          · exact (HSL.out.take_ hk).below giS (hb0 _)
          · intro b' (hb' : b' < w.heap.size)
            exact ⟨by show b' < (w.alloc _).heap.size; simp; omega, fun he => by cases he⟩
          · simp; try omega
          · show _ ≤ (w.alloc _).heap.size; simp
          intro v1 w1 hown1 hg1 hat1
          rw [List.nil_append] at hown1
          change World.grownBy _ w1 none at hg1
          have hb1 : Below (w.heap.size + 1) (w.alloc (.cells #[.string g.mark, .int .i64 g.unit, .int .i64 g.from_, .int .i64 g.until_] 38)) w1 := (below_drewN (Below.refl _ _) _).grown hg1 (by show _ ≤ (w.alloc _).heap.size; simp) (fun k hk => by cases hk)
          have hs1 := hb1.size
          simp only [World.size_alloc] at hs1
          have c0 : w1.cell? ⟨w.heap.size, 0, none⟩ = some (.string g.mark) := (hb1.cell (p := ⟨w.heap.size, 0, none⟩) (by simp)).trans (by simp)
          have c1 : w1.cell? ⟨w.heap.size, 1, none⟩ = some (.int .i64 g.unit) := (hb1.cell (p := ⟨w.heap.size, 1, none⟩) (by simp)).trans (by simp)
          have c2 : w1.cell? ⟨w.heap.size, 2, none⟩ = some (.int .i64 g.from_) := (hb1.cell (p := ⟨w.heap.size, 2, none⟩) (by simp)).trans (by simp)
          have c3 : w1.cell? ⟨w.heap.size, 3, none⟩ = some (.int .i64 g.until_) := (hb1.cell (p := ⟨w.heap.size, 3, none⟩) (by simp)).trans (by simp)
          have B1 := hbox.trans (hb1.mono (Nat.le_succ _))
          have hlt1 := hown1.own_lt
          clear hg1 hat1
          go_wp2_with (at_builtin; refine stop_intro ?_)
          refine stop_elim ?_
          refine wpList_append_rep rfl giS givenE_ w.heap.size (.tmp 48) (.tmp 50) rfl rfl (hown1.alloc giS _) rfl (ys := [g]) (SlRep.one_new giS (F := fun _ => False) rfl (rfl : [Value.string g.mark, .int .i64 g.unit, .int .i64 g.from_, .int .i64 g.until_] = _) (fun _ h => h.elim)) ?_ ?_ (by decide) ?_ ?_
          · intro bb hbb
            rcases hbb with hbb | hbb
            · exact hbb.elim
            · subst hbb
              exact ⟨by simp, fun he => by have := hlt1 _ he; omega⟩
          · simp; try omega
          · simp; omega
          intro v2 w2 hown2 hg2 hat2
          have B2 := (B1.alloc (by omega) _).grown hg2 (by simp; omega) (fun k hk => (hlt1 k hk).1)
          have hs2 := B2.size
          have hlt2 := hown2.own_lt
          clear hg2 hat2
          go_wp2_with (at_builtin; refine stop_intro ?_)
          refine stop_elim ?_
          refine wpList_append_rep rfl giS givenE_ w.heap.size (.tmp 52) (.tmp 55) rfl rfl hown2 rfl (ys := xs.drop c) (F := fun b => b < w.heap.size) ?_ ?_ ?_ (by decide) (by omega) ?_
          · rw [List.drop_of_length_le (by omega)]; exact SlRep.none_left (by omega)
          · intro b' (hb' : b' < w.heap.size)
            exact ⟨by omega, fun he => by have := hlt2 _ he; omega⟩
          · simp; try omega
          intro v3 w3 hown3 hg3 hat3
          have B3 := B2.grown hg3 (by omega) (fun k hk => (hlt2 k hk).1)
          go_wp2
          go_ret
          exact ⟨_, rfl, by rw [HN.out]; simpa using hown3, B3⟩
        · have hck2 : k < c := by omega
          go_wp2
          go_quiet (fail)
          go_wp2_with (at_builtin; refine stop_intro ?_)
          refine stop_elim ?_
          refine wpList_append_rep rfl giS givenE_ w.heap.size (.tmp 43) (.tmp 46) rfl rfl OwnRep.nil_ rfl (ys := xs.take k) (F := fun b => b < w.heap.size) ?_ ?_ ?_ (by decide) ?_ ?_
          · exact (HSL.out.take_ hk).below giS (hb0 _)
          · intro b' (hb' : b' < w.heap.size)
            exact ⟨by show b' < (w.alloc _).heap.size; simp; omega, fun he => by cases he⟩
          · simp; try omega
          · show _ ≤ (w.alloc _).heap.size; simp
          intro v1 w1 hown1 hg1 hat1
          rw [List.nil_append] at hown1
          change World.grownBy _ w1 none at hg1
          have hb1 : Below (w.heap.size + 1) (w.alloc (.cells #[.string g.mark, .int .i64 g.unit, .int .i64 g.from_, .int .i64 g.until_] 38)) w1 := (below_drewN (Below.refl _ _) _).grown hg1 (by show _ ≤ (w.alloc _).heap.size; simp) (fun k hk => by cases hk)
          have hs1 := hb1.size
          simp only [World.size_alloc] at hs1
          have c0 : w1.cell? ⟨w.heap.size, 0, none⟩ = some (.string g.mark) := (hb1.cell (p := ⟨w.heap.size, 0, none⟩) (by simp)).trans (by simp)
          have c1 : w1.cell? ⟨w.heap.size, 1, none⟩ = some (.int .i64 g.unit) := (hb1.cell (p := ⟨w.heap.size, 1, none⟩) (by simp)).trans (by simp)
          have c2 : w1.cell? ⟨w.heap.size, 2, none⟩ = some (.int .i64 g.from_) := (hb1.cell (p := ⟨w.heap.size, 2, none⟩) (by simp)).trans (by simp)
          have c3 : w1.cell? ⟨w.heap.size, 3, none⟩ = some (.int .i64 g.until_) := (hb1.cell (p := ⟨w.heap.size, 3, none⟩) (by simp)).trans (by simp)
          have B1 := hbox.trans (hb1.mono (Nat.le_succ _))
          have hlt1 := hown1.own_lt
          clear hg1 hat1
          go_wp2_with (at_builtin; refine stop_intro ?_)
          refine stop_elim ?_
          refine wpList_append_rep rfl giS givenE_ w.heap.size (.tmp 48) (.tmp 50) rfl rfl (hown1.alloc giS _) rfl (ys := [g]) (SlRep.one_new giS (F := fun _ => False) rfl (rfl : [Value.string g.mark, .int .i64 g.unit, .int .i64 g.from_, .int .i64 g.until_] = _) (fun _ h => h.elim)) ?_ ?_ (by decide) ?_ ?_
          · intro bb hbb
            rcases hbb with hbb | hbb
            · exact hbb.elim
            · subst hbb
              exact ⟨by simp, fun he => by have := hlt1 _ he; omega⟩
          · simp; try omega
          · simp; omega
          intro v2 w2 hown2 hg2 hat2
          have B2 := (B1.alloc (by omega) _).grown hg2 (by simp; omega) (fun k hk => (hlt1 k hk).1)
          have hs2 := B2.size
          have hlt2 := hown2.own_lt
          clear hg2 hat2
          go_wp2_with (at_builtin; refine stop_intro ?_)
          refine stop_elim ?_
          refine wpList_append_rep rfl giS givenE_ w.heap.size (.tmp 52) (.tmp 55) rfl rfl hown2 rfl (ys := xs.drop k) (F := fun b => b < w.heap.size) ?_ ?_ ?_ (by decide) (by omega) ?_
          · exact SlRep.gone (by omega) (by omega)
          · intro b' (hb' : b' < w.heap.size)
            exact ⟨by omega, fun he => by have := hlt2 _ he; omega⟩
          · simp; try omega
          intro v3 w3 hown3 hg3 hat3
          have B3 := B2.grown hg3 (by omega) (fun k hk => (hlt2 k hk).1)
          go_wp2
          go_ret
          exact ⟨_, rfl, by rw [HN.out]; simpa using hown3, B3⟩
      · clear hc0
        have hck2 : k < c := by omega
        have hcs2 : ∀ W, Below w.heap.size w W → SlRep 4 (flat Given.enc) W (fun b => b < w.heap.size) (xs.drop k) (.slice (some ⟨gb, 0 + k * 4, none⟩) (xs.length - k) (c - k)) := fun W hW => (HSL.out.drop_ hk).below giS hW
        rw [Nat.zero_add] at hcs2
        have HCS := Lib.hid hcs2
        clear hcs2
        rcases hme with hme | ⟨hme, f, g2, hf⟩
        all_goals
          go_wp2
          go_quiet (fail)
          go_wp2_with (at_builtin; refine stop_intro ?_)
          refine stop_elim ?_
          refine wpList_append_rep rfl giS givenE_ w.heap.size (.tmp 43) (.tmp 46) rfl rfl OwnRep.nil_ rfl (ys := xs.take k) (F := fun b => b < w.heap.size) ?_ ?_ ?_ (by decide) ?_ ?_
          · exact (HSL.out.take_ hk).below giS (hb0 _)
          · intro b' (hb' : b' < w.heap.size)
            exact ⟨by show b' < (w.alloc _).heap.size; simp; omega, fun he => by cases he⟩
          · simp; try omega
          · show _ ≤ (w.alloc _).heap.size; simp
          intro v1 w1 hown1 hg1 hat1
          rw [List.nil_append] at hown1
          change World.grownBy _ w1 none at hg1
          have hb1 : Below (w.heap.size + 1) (w.alloc (.cells #[.string g.mark, .int .i64 g.unit, .int .i64 g.from_, .int .i64 g.until_] 38)) w1 := (below_drewN (Below.refl _ _) _).grown hg1 (by show _ ≤ (w.alloc _).heap.size; simp) (fun k hk => by cases hk)
          have hs1 := hb1.size
          simp only [World.size_alloc] at hs1
          have c0 : w1.cell? ⟨w.heap.size, 0, none⟩ = some (.string g.mark) := (hb1.cell (p := ⟨w.heap.size, 0, none⟩) (by simp)).trans (by simp)
          have c1 : w1.cell? ⟨w.heap.size, 1, none⟩ = some (.int .i64 g.unit) := (hb1.cell (p := ⟨w.heap.size, 1, none⟩) (by simp)).trans (by simp)
          have c2 : w1.cell? ⟨w.heap.size, 2, none⟩ = some (.int .i64 g.from_) := (hb1.cell (p := ⟨w.heap.size, 2, none⟩) (by simp)).trans (by simp)
          have c3 : w1.cell? ⟨w.heap.size, 3, none⟩ = some (.int .i64 g.until_) := (hb1.cell (p := ⟨w.heap.size, 3, none⟩) (by simp)).trans (by simp)
          have B1 := hbox.trans (hb1.mono (Nat.le_succ _))
          have hlt1 := hown1.own_lt
          clear hg1 hat1
          go_wp2_with (at_builtin; refine stop_intro ?_)
          refine stop_elim ?_
          refine wpList_append_rep rfl giS givenE_ w.heap.size (.tmp 48) (.tmp 50) rfl rfl (hown1.alloc giS _) rfl (ys := [g]) (SlRep.one_new giS (F := fun _ => False) rfl (rfl : [Value.string g.mark, .int .i64 g.unit, .int .i64 g.from_, .int .i64 g.until_] = _) (fun _ h => h.elim)) ?_ ?_ (by decide) ?_ ?_
          · intro bb hbb
            rcases hbb with hbb | hbb
            · exact hbb.elim
            · subst hbb
              exact ⟨by simp, fun he => by have := hlt1 _ he; omega⟩
          · simp; try omega
          · simp; omega
          intro v2 w2 hown2 hg2 hat2
          have B2 := (B1.alloc (by omega) _).grown hg2 (by simp; omega) (fun k hk => (hlt1 k hk).1)
          have hs2 := B2.size
          have hlt2 := hown2.own_lt
          clear hg2 hat2
          go_wp2_with (at_builtin; refine stop_intro ?_)
          refine stop_elim ?_
          refine wpList_append_rep rfl giS givenE_ w.heap.size (.tmp 52) (.tmp 55) rfl rfl hown2 rfl (ys := xs.drop k) (F := fun b => b < w.heap.size) ?_ ?_ ?_ (by decide) (by omega) ?_
          · exact HCS.out _ B2
          · intro b' (hb' : b' < w.heap.size)
            exact ⟨by omega, fun he => by have := hlt2 _ he; omega⟩
          · simp; try omega
          intro v3 w3 hown3 hg3 hat3
          have B3 := B2.grown hg3 (by omega) (fun k hk => (hlt2 k hk).1)
          go_wp2
          go_ret
          exact ⟨_, rfl, by rw [HN.out]; simpa using hown3, B3⟩
end Go.Proofs.Ytgnaknanpgfpnaa
