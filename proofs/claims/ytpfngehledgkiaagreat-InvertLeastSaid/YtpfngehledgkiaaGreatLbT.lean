/- The closures of InvertRanges; slices.IndexFunc and ContainsFunc at texts and postings. -/
import Derived.Test.YtpfngehledgkiaaGreatRgP
import Derived.Test.YtpfngehledgkiaaGreatLib
import Derived.Test.YtpfngehledgkiaaGreatIvK
namespace Go.Proofs.YtpfngehledgkiaaGreat
open Go.RowKit

theorem dropW_head {α : Type} {q : α → Bool} : ∀ {l : List α} {x : α} {r : List α}, l.dropWhile q = x :: r → q x = false
  | [], x, r, h => by simp at h
  | y :: l, x, r, h => by
    rw [List.dropWhile_cons] at h
    split at h
    · exact dropW_head h
    · rename_i hy
      injection h with h1 h2
      subst h1
      simpa using hy
theorem rng_parts {p : Post → Bool} {l : List Post} (hl : SortedP l) (hcv : ∀ x y z, ple x y → ple y z → p x = true → p z = true → p y = true) :
    ∃ a b c, l = a ++ (b ++ c) ∧ (∀ x ∈ a, p x = false) ∧ (∀ x ∈ b, p x = true) ∧ (∀ x ∈ c, p x = false) ∧ rngF p l = if b = [] then (0, 0) else ((a.length : Int), b.length) := by
  have ha : ∀ x ∈ l.takeWhile (fun x => !p x), p x = false := fun x hx => by
    have := takeWhile_all x hx
    simpa using this
  have hb : ∀ x ∈ (l.dropWhile fun x => !p x).takeWhile p, p x = true := fun x hx => takeWhile_all x hx
  have hc : ∀ x ∈ (l.dropWhile fun x => !p x).dropWhile p, p x = false := by
    have hds : SortedP (l.dropWhile fun x => !p x) := hl.sublist (List.dropWhile_sublist _)
    cases hB : l.dropWhile (fun x => !p x) with
    | nil => intro x hx; simp at hx
    | cons y0 r0 =>
      have hy0 : p y0 = true := by simpa using dropW_head hB
      rw [hB] at hds
      have key : ∀ {C : List Post}, SortedP C → (∀ z ∈ C, ple y0 z) → ∀ x ∈ C.dropWhile p, p x = false := by
        intro C
        induction C with
        | nil => intro _ _ x hx; simp at hx
        | cons y r ih =>
          intro hs hle x hx
          have hs' := List.pairwise_cons.1 hs
          rw [List.dropWhile_cons] at hx
          split at hx
          · exact ih hs'.2 (fun z hz => hle z (List.mem_cons_of_mem _ hz)) x hx
          · rename_i hy
            have hy' : p y = false := by simpa using hy
            rcases List.mem_cons.1 hx with rfl | hx
            · exact hy'
            · cases hpx : p x
              · rfl
              · rw [hcv y0 y x (hle y List.mem_cons_self) (hs'.1 x hx) hy0 hpx] at hy'
                cases hy'
      have hs0 := List.pairwise_cons.1 hds
      intro x hx
      rw [List.dropWhile_cons, if_pos hy0] at hx
      exact key hs0.2 hs0.1 x hx
  have hl2 : l = l.takeWhile (fun x => !p x) ++ ((l.dropWhile fun x => !p x).takeWhile p ++ (l.dropWhile fun x => !p x).dropWhile p) := by
    rw [List.takeWhile_append_dropWhile, List.takeWhile_append_dropWhile]
  have hr := rngG_mid p _ _ hb hc _ 0 ha
  rw [← hl2, Nat.zero_add] at hr
  exact ⟨_, _, _, hl2, ha, hb, hc, hr⟩
theorem rng_at {p : Post → Bool} {l : List Post} (hl : SortedP l) (hcv : ∀ x y z, ple x y → ple y z → p x = true → p z = true → p y = true) :
    (∀ (i : Nat) x, l[i]? = some x → p x = (decide ((rngF p l).1 ≤ (i : Int)) && decide ((i : Int) < (rngF p l).1 + ((rngF p l).2 : Int)))) ∧ ((rngF p l).2 = 0 → (rngF p l).1 = 0) ∧ 0 ≤ (rngF p l).1 ∧ (rngF p l).1 + (rngF p l).2 ≤ l.length := by
  obtain ⟨a, b, c, rfl, ha, hb, hc, hr⟩ := rng_parts hl hcv
  rw [hr]
  by_cases hbe : b = []
  · subst hbe
    rw [if_pos rfl]
    refine ⟨fun i x hx => ?_, fun _ => rfl, by simp, by simp; omega⟩
    have hm := List.mem_of_getElem? hx
    have : p x = false := by
      rcases List.mem_append.1 hm with h | h
      · exact ha x h
      · exact hc x (by simpa using h)
    rw [this]
    symm
    simp only [Bool.and_eq_false_iff, decide_eq_false_iff_not]
    simp
  · rw [if_neg hbe]
    have hbl : 0 < b.length := List.length_pos_iff.2 hbe
    refine ⟨fun i x hx => ?_, fun h => by simp only at h; omega, by simp, by simp only [List.length_append]; omega⟩
    have hil := lt_of_at hx
    simp only [List.length_append] at hil
    simp only
    by_cases h1 : i < a.length
    · rw [List.getElem?_append_left h1] at hx
      rw [ha x (List.mem_of_getElem? hx)]
      symm
      rw [Bool.and_eq_false_iff]
      left
      simp only [decide_eq_false_iff_not]
      omega
    · rw [List.getElem?_append_right (by omega)] at hx
      by_cases h2 : i - a.length < b.length
      · rw [List.getElem?_append_left h2] at hx
        rw [hb x (List.mem_of_getElem? hx)]
        symm
        rw [Bool.and_eq_true]
        simp only [decide_eq_true_eq]
        omega
      · rw [List.getElem?_append_right (by omega)] at hx
        rw [hc x (List.mem_of_getElem? hx)]
        symm
        rw [Bool.and_eq_false_iff]
        right
        simp only [decide_eq_false_iff_not]
        omega
theorem word_cv (w : ByteArray) (x y z : Post) (h1 : ple x y) (h2 : ple y z) (hx : decide (x.word = w) = true) (hz : decide (z.word = w) = true) : decide (y.word = w) = true := by
  simp only [decide_eq_true_eq] at *
  have g1 := ple_word h1
  have g2 := ple_word h2
  rw [hx] at g1
  rw [hz] at g2
  rcases lessB_tri y.word w with g | g | g
  · rw [g1] at g; cases g
  · exact g
  · rw [g2] at g; cases g
theorem pfx_cv (w : ByteArray) (x y z : Post) (h1 : ple x y) (h2 : ple y z) (hx : pfxB w x.word = true) (hz : pfxB w z.word = true) : pfxB w y.word = true := by
  have g0 := pfx_less hx
  have g1 := ple_word h1
  have g2 := ple_word h2
  have gx : lessB x.word w = false := by
    unfold lessB
    rw [data_list, data_list]
    exact g0
  have g3 := less_le g1 gx
  unfold lessB at g3 g2
  rw [data_list, data_list] at g3 g2
  exact pfx_mid g3 g2 hz
theorem find_at {l : List Post} (hl : SortedP l) (w : ByteArray) {fi : Int × Nat} (h : rngF (fun x : Post => decide (x.word = w)) l = fi) : (∀ (i : Nat) x, l[i]? = some x → decide (x.word = w) = (decide (fi.1 ≤ (i : Int)) && decide ((i : Int) < fi.1 + (fi.2 : Int)))) ∧ (fi.2 = 0 → fi.1 = 0) ∧ 0 ≤ fi.1 ∧ fi.1 + fi.2 ≤ l.length := by
  subst h
  exact rng_at hl (word_cv w)
theorem prefix_at {l : List Post} (hl : SortedP l) (w : ByteArray) {fi : Int × Nat} (h : rngF (fun x : Post => pfxB w x.word) l = fi) : (∀ (i : Nat) x, l[i]? = some x → pfxB w x.word = (decide (fi.1 ≤ (i : Int)) && decide ((i : Int) < fi.1 + (fi.2 : Int)))) ∧ (fi.2 = 0 → fi.1 = 0) ∧ 0 ≤ fi.1 ∧ fi.1 + fi.2 ≤ l.length := by
  subst h
  exact rng_at (p := fun x : Post => pfxB w x.word) hl (pfx_cv w)
open Go.RowKit

theorem isNaNS_c (x : ByteArray) (w : World) : Calls Tryz.prog 114 #[.string x] w fun e w' => e = .returned (.bool false) ∧ w = w' := by
  have he : (x.toList == x.toList) = true := by simp
  go_enter Tryz.func114, Tryz.ntmps114
  go_wp2
  go_ret
  exact ⟨rfl, rfl⟩
theorem isNaNI_c (x : Int) (w : World) : Calls Tryz.prog 110 #[.int .i64 x] w fun e w' => e = .returned (.bool false) ∧ w = w' := by
  have he : (x != x) = false := by simp
  go_enter Tryz.func110, Tryz.ntmps110
  go_wp2
  go_ret
  exact ⟨rfl, rfl⟩
theorem lessS_c (x y : ByteArray) (w : World) : Calls Tryz.prog 82 #[.string x, .string y] w fun e w' => e = .returned (.bool (lessB x y)) ∧ w = w' := by
  go_enter Tryz.func82, Tryz.ntmps82
  go_wp2_with fail
  refine (isNaNS_c x _).mono ?_
  rintro e w1 ⟨rfl, rfl⟩
  go_wp2
  go_ret
  exact ⟨rfl, rfl⟩
theorem lessI_c (x y : Int) (w : World) : Calls Tryz.prog 69 #[.int .i64 x, .int .i64 y] w fun e w' => e = .returned (.bool (decide (x < y))) ∧ w = w' := by
  go_enter Tryz.func69, Tryz.ntmps69
  go_wp2_with fail
  refine (isNaNI_c x _).mono ?_
  rintro e w1 ⟨rfl, rfl⟩
  go_wp2
  go_ret
  exact ⟨rfl, rfl⟩
theorem pw_at {α : Type} {R : α → α → Prop} {l : List α} (h : l.Pairwise R) {i : Nat} {x y : α} (hx : l[i]? = some x) (hy : l[i + 1]? = some y) : R x y := by
  have h1 := lt_of_at hx
  have h2 := lt_of_at hy
  rw [List.getElem?_eq_getElem h1] at hx
  rw [List.getElem?_eq_getElem h2] at hy
  injection hx with hx
  injection hy with hy
  rw [← hx, ← hy]
  exact List.pairwise_iff_getElem.1 h i (i + 1) h1 h2 (by omega)

set_option maxHeartbeats 1000000 in
theorem isSortedS_c (xs : List ByteArray) (v : Value) (w : World) (F : Nat → Prop) (hF : ∀ b, F b → b < w.heap.size) (h : SlRep 1 (flat strEnc) w F xs v) (hs : xs.Pairwise (fun a b => lessB a b = true)) :
    Calls Tryz.prog 33 #[v] w fun e w' => e = .returned (.bool true) ∧ ∃ n, w' = w.drewN n := by
  obtain ⟨A, c, rfl, hc1, hc2, _⟩ := id h
  go_enter Tryz.func33, Tryz.ntmps33
  go_wp2
  go_loopw [3] (fun i wr => ∃ k : Int, k < xs.length ∧ -1 ≤ k ∧ i = .int .i64 k ∧ ∃ n, wr = w.drewN n) (fun i _ => (intOf i).toNat)
  case atStart => exact ⟨_, by omega, by omega, rfl, 0, rfl⟩
  case round =>
    obtain ⟨k0, hk, hk0, rfl, nd, rfl⟩ := hrel
    by_cases hlt : 0 < k0
    · obtain ⟨j, rfl⟩ : ∃ j : Nat, k0 = (j : Int) + 1 := ⟨(k0 - 1).toNat, by omega⟩
      obtain ⟨x, hx⟩ := get_at xs (show j < xs.length by omega)
      obtain ⟨y, hy⟩ := get_at xs (show j + 1 < xs.length by omega)
      have hr := pw_at hs hx hy
      have HL := Lib.hid (fun (W : World) => show Calls Tryz.prog 82 #[.string y, .string x] W fun e w' => e = .returned (.bool false) ∧ W = w' by
        have := lessS_c y x W
        rwa [lessB_asymm hr] at this)
      obtain ⟨b, off, rfl, hbB, g0⟩ := Strs.at_ h hx
      obtain ⟨b', off', e9, hbB', q0⟩ := Strs.at_ h hy
      injection e9 with e9; injection e9 with e9 e10; subst e9 e10
      have hbw : b < w.heap.size := hF b hbB
      have hj1 : (j : Int) + 1 - 1 = (j : Int) := by omega
      have hj2 : (0 : Int) < (j : Int) + 1 := by omega
      have hjk : (((j + 1 : Nat) : Int)) = (j : Int) + 1 := by omega
      clear hx hy hr hs hk0
      go_wp2
      go_quiet ((go_at_call 82; refine (HL.out _).mono ?_; rintro e w1 ⟨rfl, rfl⟩; exact ⟨rfl, _, rfl⟩))
      go_wp2
      go_roundw
      case rel => exact ⟨j, by omega, by omega, by go_num, _, rfl⟩
      case measure => simp [intOf]
    · go_wp2
      go_ret
      exact ⟨rfl, _, rfl⟩
set_option maxHeartbeats 1000000 in
theorem compactS_c (xs : List ByteArray) (v : Value) (w : World) (F : Nat → Prop) (hF : ∀ b, F b → b < w.heap.size) (h : SlRep 1 (flat strEnc) w F xs v) (hs : xs.Pairwise (fun a b => lessB a b = true)) :
    Calls Tryz.prog 36 #[v] w fun e w' => e = .returned v ∧ ∃ n, w' = w.drewN n := by
  obtain ⟨A, c, rfl, hc1, hc2, _⟩ := id h
  by_cases h2 : xs.length < 2
  · have h2' : (xs.length : Int) < 2 := by omega
    go_enter Tryz.func36, Tryz.ntmps36
    go_wp2
    go_ret
    exact ⟨rfl, 0, rfl⟩
  · have h2' : ¬ (xs.length : Int) < 2 := by omega
    go_enter Tryz.func36, Tryz.ntmps36
    go_wp2
    go_loopw [3] (fun i wr => ∃ k : Nat, k + 1 ≤ xs.length ∧ i = .int .i64 ((k : Int) + 1) ∧ ∃ n, wr = w.drewN n) (fun i _ => xs.length - (intOf i).toNat)
    case atStart => exact ⟨0, by omega, rfl, 0, rfl⟩
    case round =>
      obtain ⟨j, hk, rfl, nd, rfl⟩ := hrel
      by_cases hlt : j + 1 < xs.length
      · obtain ⟨x, hx⟩ := get_at xs (show j < xs.length by omega)
        obtain ⟨y, hy⟩ := get_at xs hlt
        have hr := pw_at hs hx hy
        have hne : ¬ (y = x) := by
          intro e
          subst e
          rw [lessB_irrefl] at hr; cases hr
        have he1 : (y.toList == x.toList) = false := by rw [str_eq, decide_eq_false hne]
        obtain ⟨b, off, rfl, hbB, g0⟩ := Strs.at_ h hx
        obtain ⟨b', off', e9, hbB', q0⟩ := Strs.at_ h hy
        injection e9 with e9; injection e9 with e9 e10; subst e9 e10
        have hbw : b < w.heap.size := hF b hbB
        have hj1 : (j : Int) + 1 - 1 = (j : Int) := by omega
        have hj2 : (j : Int) + 1 < (xs.length : Int) := by omega
        have hjk : (((j + 1 : Nat) : Int)) = (j : Int) + 1 := by omega
        clear hx hy hr hs hne
        go_wp2
        go_quiet (fail)
        go_wp2
        go_roundw
        case rel => exact ⟨j + 1, by omega, by go_num, _, rfl⟩
        case measure => simp [intOf]; omega
      · have hj2 : ¬ (j : Int) + 1 < (xs.length : Int) := by omega
        go_wp2
        go_ret
        exact ⟨rfl, _, rfl⟩
theorem cloneS_c (xs : List ByteArray) (v : Value) (w : World) (B : Nat) (hB : B ≤ w.heap.size) (h : SlRep 1 (flat strEnc) w (fun b => b < B) xs v) (hn : xs.length ≤ 100000) :
    Calls Tryz.prog 37 #[v] w fun e w' => ∃ v', e = .returned v' ∧ OwnRep 1 (flat strEnc) 9 w.heap.size w' xs v' ∧ Below w.heap.size w w' := by
  obtain ⟨A, c, rfl, hc1, hc2, _⟩ := id h
  have HN := Lib.hid hn
  clear hn
  rcases A with _ | ad
  · obtain ⟨rfl, -⟩ := h.none_nil
    clear h
    have hq := fun (W : World) => Lib.run_eql_slice_nil (P := Tryz.prog) W 22 9 none 0 c 0 0 Tryz.underlying22
    go_enter Tryz.func37, Tryz.ntmps37
    go_wp2
    go_ret
    exact ⟨_, rfl, OwnRep.nil_, Below.refl _ _⟩
  · have hq := fun (W : World) => Lib.run_eql_slice_nil (P := Tryz.prog) W 22 9 (some ad) xs.length c 0 0 Tryz.underlying22
    go_enter Tryz.func37, Tryz.ntmps37
    go_wp2_with (at_builtin; refine stop_intro ?_)
    refine stop_elim ?_
    refine wpList_append_rep rfl strS strE_ w.heap.size (.tmp 5) (.tmp 6) rfl rfl (OwnRep.empty_new ?hg ?hb) rfl (ys := xs) (F := fun b => b < B) ?src ?F ?n (by decide) ?hbase ?_
    case hb => exact Nat.le_refl _
    case hg => rfl
    case src => exact h.below strS ((Below.refl _ _).alloc hB _)
    case F => intro b' (hb' : b' < B); exact ⟨by simp only [World.size_alloc]; omega, show some w.heap.size ≠ some b' by simp; omega⟩
    case hbase => simp only [World.size_alloc]; omega
    case n => have hn := HN.out; simp; omega
    intro v1 w1 hown1 hg1 hat1
    rw [List.nil_append] at hown1
    change World.grownBy _ w1 (some w.heap.size) at hg1
    have hb1 : Below w.heap.size w w1 := ((Below.refl _ _).alloc (Nat.le_refl _) _).grown hg1 (by simp only [World.size_alloc]; omega) (fun k hk => by injection hk; omega)
    go_wp2
    go_ret
    exact ⟨_, rfl, hown1, hb1⟩

set_option maxHeartbeats 1000000 in
theorem isSortedI_c (xs : List Int) (v : Value) (w : World) (F : Nat → Prop) (hF : ∀ b, F b → b < w.heap.size) (h : SlRep 1 (flat intEnc) w F xs v) (hs : xs.Pairwise (fun a b => a < b)) :
    Calls Tryz.prog 20 #[v] w fun e w' => e = .returned (.bool true) ∧ ∃ n, w' = w.drewN n := by
  obtain ⟨A, c, rfl, hc1, hc2, _⟩ := id h
  go_enter Tryz.func20, Tryz.ntmps20
  go_wp2
  go_loopw [3] (fun i wr => ∃ k : Int, k < xs.length ∧ -1 ≤ k ∧ i = .int .i64 k ∧ ∃ n, wr = w.drewN n) (fun i _ => (intOf i).toNat)
  case atStart => exact ⟨_, by omega, by omega, rfl, 0, rfl⟩
  case round =>
    obtain ⟨k0, hk, hk0, rfl, nd, rfl⟩ := hrel
    by_cases hlt : 0 < k0
    · obtain ⟨j, rfl⟩ : ∃ j : Nat, k0 = (j : Int) + 1 := ⟨(k0 - 1).toNat, by omega⟩
      obtain ⟨x, hx⟩ := get_at xs (show j < xs.length by omega)
      obtain ⟨y, hy⟩ := get_at xs (show j + 1 < xs.length by omega)
      have hr := pw_at hs hx hy
      have HL := Lib.hid (fun (W : World) => show Calls Tryz.prog 69 #[.int .i64 y, .int .i64 x] W fun e w' => e = .returned (.bool false) ∧ W = w' by
        have := lessI_c y x W
        rwa [decide_eq_false (by omega)] at this)
      obtain ⟨b, off, rfl, hbB, g0⟩ := Ints.at_ h hx
      obtain ⟨b', off', e9, hbB', q0⟩ := Ints.at_ h hy
      injection e9 with e9; injection e9 with e9 e10; subst e9 e10
      have hbw : b < w.heap.size := hF b hbB
      have hj1 : (j : Int) + 1 - 1 = (j : Int) := by omega
      have hj2 : (0 : Int) < (j : Int) + 1 := by omega
      have hjk : (((j + 1 : Nat) : Int)) = (j : Int) + 1 := by omega
      clear hx hy hr hs hk0
      go_wp2
      go_quiet ((go_at_call 69; refine (HL.out _).mono ?_; rintro e w1 ⟨rfl, rfl⟩; exact ⟨rfl, _, rfl⟩))
      go_wp2
      go_roundw
      case rel => exact ⟨j, by omega, by omega, by go_num, _, rfl⟩
      case measure => simp [intOf]
    · go_wp2
      go_ret
      exact ⟨rfl, _, rfl⟩
set_option maxHeartbeats 1000000 in
theorem compactI_c (xs : List Int) (v : Value) (w : World) (F : Nat → Prop) (hF : ∀ b, F b → b < w.heap.size) (h : SlRep 1 (flat intEnc) w F xs v) (hs : xs.Pairwise (fun a b => a < b)) :
    Calls Tryz.prog 21 #[v] w fun e w' => e = .returned v ∧ ∃ n, w' = w.drewN n := by
  obtain ⟨A, c, rfl, hc1, hc2, _⟩ := id h
  by_cases h2 : xs.length < 2
  · have h2' : (xs.length : Int) < 2 := by omega
    go_enter Tryz.func21, Tryz.ntmps21
    go_wp2
    go_ret
    exact ⟨rfl, 0, rfl⟩
  · have h2' : ¬ (xs.length : Int) < 2 := by omega
    go_enter Tryz.func21, Tryz.ntmps21
    go_wp2
    go_loopw [3] (fun i wr => ∃ k : Nat, k + 1 ≤ xs.length ∧ i = .int .i64 ((k : Int) + 1) ∧ ∃ n, wr = w.drewN n) (fun i _ => xs.length - (intOf i).toNat)
    case atStart => exact ⟨0, by omega, rfl, 0, rfl⟩
    case round =>
      obtain ⟨j, hk, rfl, nd, rfl⟩ := hrel
      by_cases hlt : j + 1 < xs.length
      · obtain ⟨x, hx⟩ := get_at xs (show j < xs.length by omega)
        obtain ⟨y, hy⟩ := get_at xs hlt
        have hr := pw_at hs hx hy
        have hne : ¬ (y = x) := by
          intro e
          subst e
          omega
        have he1 : (y == x) = false := by simpa using hne
        obtain ⟨b, off, rfl, hbB, g0⟩ := Ints.at_ h hx
        obtain ⟨b', off', e9, hbB', q0⟩ := Ints.at_ h hy
        injection e9 with e9; injection e9 with e9 e10; subst e9 e10
        have hbw : b < w.heap.size := hF b hbB
        have hj1 : (j : Int) + 1 - 1 = (j : Int) := by omega
        have hj2 : (j : Int) + 1 < (xs.length : Int) := by omega
        have hjk : (((j + 1 : Nat) : Int)) = (j : Int) + 1 := by omega
        clear hx hy hr hs hne
        go_wp2
        go_quiet (fail)
        go_wp2
        go_roundw
        case rel => exact ⟨j + 1, by omega, by go_num, _, rfl⟩
        case measure => simp [intOf]; omega
      · have hj2 : ¬ (j : Int) + 1 < (xs.length : Int) := by omega
        go_wp2
        go_ret
        exact ⟨rfl, _, rfl⟩
theorem cloneI_c (xs : List Int) (v : Value) (w : World) (B : Nat) (hB : B ≤ w.heap.size) (h : SlRep 1 (flat intEnc) w (fun b => b < B) xs v) (hn : xs.length ≤ 100000) :
    Calls Tryz.prog 22 #[v] w fun e w' => ∃ v', e = .returned v' ∧ OwnRep 1 (flat intEnc) 3 w.heap.size w' xs v' ∧ Below w.heap.size w w' := by
  obtain ⟨A, c, rfl, hc1, hc2, _⟩ := id h
  have HN := Lib.hid hn
  clear hn
  rcases A with _ | ad
  · obtain ⟨rfl, -⟩ := h.none_nil
    clear h
    have hq := fun (W : World) => Lib.run_eql_slice_nil (P := Tryz.prog) W 38 3 none 0 c 0 0 Tryz.underlying38
    go_enter Tryz.func22, Tryz.ntmps22
    go_wp2
    go_ret
    exact ⟨_, rfl, OwnRep.nil_, Below.refl _ _⟩
  · have hq := fun (W : World) => Lib.run_eql_slice_nil (P := Tryz.prog) W 38 3 (some ad) xs.length c 0 0 Tryz.underlying38
    go_enter Tryz.func22, Tryz.ntmps22
    go_wp2_with (at_builtin; refine stop_intro ?_)
    refine stop_elim ?_
    refine wpList_append_rep rfl intS intE_ w.heap.size (.tmp 5) (.tmp 6) rfl rfl (OwnRep.empty_new ?hg ?hb) rfl (ys := xs) (F := fun b => b < B) ?src ?F ?n (by decide) ?hbase ?_
    case hb => exact Nat.le_refl _
    case hg => rfl
    case src => exact h.below intS ((Below.refl _ _).alloc hB _)
    case F => intro b' (hb' : b' < B); exact ⟨by simp only [World.size_alloc]; omega, show some w.heap.size ≠ some b' by simp; omega⟩
    case hbase => simp only [World.size_alloc]; omega
    case n => have hn := HN.out; simp; omega
    intro v1 w1 hown1 hg1 hat1
    rw [List.nil_append] at hown1
    change World.grownBy _ w1 (some w.heap.size) at hg1
    have hb1 : Below w.heap.size w w1 := ((Below.refl _ _).alloc (Nat.le_refl _) _).grown hg1 (by simp only [World.size_alloc]; omega) (fun k hk => by injection hk; omega)
    go_wp2
    go_ret
    exact ⟨_, rfl, hown1, hb1⟩

theorem icontains_c (m : Int) (xs : List Int) (v : Value) (w : World) (F : Nat → Prop) (hF : ∀ b, F b → b < w.heap.size) (h : SlRep 1 (flat intEnc) w F xs v) :
    Calls Tryz.prog 28 #[v, .int .i64 m] w fun e w' => e = .returned (.bool (xs.any fun x => decide (x = m))) ∧ w = w' := by
  obtain ⟨A, c, rfl, hc1, hc2, _⟩ := id h
  have HE := Lib.hid (idx_any (fun x => decide (x = m)) xs)
  go_enter Tryz.func28, Tryz.ntmps28
  go_wp2_with fail
  refine (iindex_c m xs _ _ F hF h).mono ?_
  rintro e w1 ⟨rfl, rfl⟩
  go_wp2
  go_ret
  exact ⟨ret_bool (by rw [← HE.out]), rfl⟩
open Go.RowKit

set_option maxHeartbeats 2000000 in
theorem strIdx1_c (F : FuncId) (c0 : Value) (p : ByteArray → Bool) (xs : List ByteArray) (v : Value) (w : World) (B : Nat) (hB : B ≤ w.heap.size) (h : SlRep 1 (flat strEnc) w (fun b => b < B) xs v)
    (hF : ∀ (args : Array Value) (W : World), (callFunc F args).run Tryz.prog W = .ok (.enter F args) W)
    (hp : ∀ (x : ByteArray) (W : World), x ∈ xs → Below w.heap.size w W → (flat strEnc) W (fun b => b < B) x [.string x] → Calls Tryz.prog F #[(.string x), c0] W fun e w' => e = .returned (.bool (p x)) ∧ Below W.heap.size W w') :
    Calls Tryz.prog 85 #[v, .func (.func F) #[] #[c0]] w fun e w' => e = .returned (.int .i64 (idxF p xs)) ∧ Below w.heap.size w w' := by
  obtain ⟨A, c, rfl, hc1, hc2, _⟩ := id h
  have HP := Lib.hid hp
  clear hp
  have HF := Lib.hid (show idxF p xs = idxG p (xs.drop 0) 0 from rfl)
  go_enter Tryz.func85, Tryz.ntmps85
  go_wp2
  go_loopw [8] (fun i wr => ∃ k : Nat, k ≤ xs.length ∧ i = .int .i64 k ∧ Hid (idxF p xs = idxG p (xs.drop k) k) ∧ Below w.heap.size w wr) (fun i _ => xs.length - (intOf i).toNat)
  case atStart => exact ⟨0, Nat.zero_le _, rfl, HF, Below.refl _ _⟩
  case round =>
    obtain ⟨k, hk, rfl, HS, hb⟩ := hrel
    clear HF
    have hs := hb.size
    by_cases hlt : k < xs.length
    · obtain ⟨x, hx⟩ := get_at xs hlt
      have HD := Lib.hid (drop_at hx)
      obtain ⟨b, off, rfl, hbB, g0⟩ := Strs.at_ (h.below strS (hb.mono hB)) hx
      have hbw : b < wr.heap.size := by have : b < B := hbB; omega
      have HPX := Lib.hid (HP.out x  wr (List.mem_of_getElem? hx) hb  rfl)
      clear hx
      go_wp2_with fail
      refine HPX.out.mono ?_
      rintro e w1 ⟨rfl, hb1⟩
      cases hpx : p x
      · go_wp2
        go_roundw
        case rel => exact ⟨k + 1, by omega, by go_num, by show _ = _; rw [HS.out, HD.out]; simp [idxG, hpx], hb.trans (hb1.mono hs)⟩
        case measure => simp [intOf]; omega
      · go_wp2
        go_ret
        exact ⟨ret_int (by rw [HS.out, HD.out]; simp [idxG, hpx]), hb.trans (hb1.mono hs)⟩
    · go_wp2
      go_ret
      exact ⟨ret_int (by rw [HS.out, List.drop_of_length_le (by omega)]; rfl), hb⟩
theorem strIdx1_any (F : FuncId) (c0 : Value) (p : ByteArray → Bool) (xs : List ByteArray) (v : Value) (w : World) (B : Nat) (hB : B ≤ w.heap.size) (h : SlRep 1 (flat strEnc) w (fun b => b < B) xs v)
    (hF : ∀ (args : Array Value) (W : World), (callFunc F args).run Tryz.prog W = .ok (.enter F args) W)
    (hp : ∀ (x : ByteArray) (W : World), x ∈ xs → Below w.heap.size w W → (flat strEnc) W (fun b => b < B) x [.string x] → Calls Tryz.prog F #[(.string x), c0] W fun e w' => e = .returned (.bool (p x)) ∧ Below W.heap.size W w') :
    Calls Tryz.prog 38 #[v, .func (.func F) #[] #[c0]] w fun e w' => e = .returned (.bool (xs.any p)) ∧ Below w.heap.size w w' := by
  have HI := Lib.hid (strIdx1_c F c0 p xs v w B hB h hF hp)
  have HE := Lib.hid (idx_any p xs)
  obtain ⟨A, c, rfl, -⟩ := id h
  clear hp
  go_enter Tryz.func38, Tryz.ntmps38
  go_wp2_with fail
  refine HI.out.mono ?_
  rintro e w1 ⟨rfl, hb1⟩
  go_wp2
  go_ret
  exact ⟨ret_bool HE.out, hb1⟩
set_option maxHeartbeats 2000000 in
theorem pstCon1_c (F : FuncId) (c0 : Value) (p : Post → Bool) (xs : List Post) (v : Value) (w : World) (B : Nat) (hB : B ≤ w.heap.size) (h : SlRep 4 (flat Post.enc) w (fun b => b < B) xs v)
    (hF : ∀ (args : Array Value) (W : World), (callFunc F args).run Tryz.prog W = .ok (.enter F args) W)
    (hp : ∀ (x : Post) (W : World), x ∈ xs → Below w.heap.size w W → (flat Post.enc) W (fun b => b < B) x [.string x.word, .int .i64 x.unit, .int .i64 x.field, .int .i64 x.place] → Calls Tryz.prog F #[.agg #[.string x.word, .int .i64 x.unit, .int .i64 x.field, .int .i64 x.place], c0] W fun e w' => e = .returned (.bool (p x)) ∧ Below W.heap.size W w') :
    Calls Tryz.prog 86 #[v, .func (.func F) #[] #[c0]] w fun e w' => e = .returned (.int .i64 (idxF p xs)) ∧ Below w.heap.size w w' := by
  obtain ⟨A, c, rfl, hc1, hc2, _⟩ := id h
  have HP := Lib.hid hp
  clear hp
  have HF := Lib.hid (show idxF p xs = idxG p (xs.drop 0) 0 from rfl)
  go_enter Tryz.func86, Tryz.ntmps86
  go_wp2
  go_loopw [8] (fun i wr => ∃ k : Nat, k ≤ xs.length ∧ i = .int .i64 k ∧ Hid (idxF p xs = idxG p (xs.drop k) k) ∧ Below w.heap.size w wr) (fun i _ => xs.length - (intOf i).toNat)
  case atStart => exact ⟨0, Nat.zero_le _, rfl, HF, Below.refl _ _⟩
  case round =>
    obtain ⟨k, hk, rfl, HS, hb⟩ := hrel
    clear HF
    have hs := hb.size
    by_cases hlt : k < xs.length
    · obtain ⟨x, hx⟩ := get_at xs hlt
      have HD := Lib.hid (drop_at hx)
      obtain ⟨b, off, rfl, hbB, g0, g1, g2, g3⟩ := Posts.at_ (h.below pstS (hb.mono hB)) hx
      have hbw : b < wr.heap.size := by have : b < B := hbB; omega
      have HPX := Lib.hid (HP.out x  wr (List.mem_of_getElem? hx) hb  rfl)
      clear hx
      go_wp2_with fail
      refine HPX.out.mono ?_
      rintro e w1 ⟨rfl, hb1⟩
      cases hpx : p x
      · go_wp2
        go_roundw
        case rel => exact ⟨k + 1, by omega, by go_num, by show _ = _; rw [HS.out, HD.out]; simp [idxG, hpx], hb.trans (hb1.mono hs)⟩
        case measure => simp [intOf]; omega
      · go_wp2
        go_ret
        exact ⟨ret_int (by rw [HS.out, HD.out]; simp [idxG, hpx]), hb.trans (hb1.mono hs)⟩
    · go_wp2
      go_ret
      exact ⟨ret_int (by rw [HS.out, List.drop_of_length_le (by omega)]; rfl), hb⟩
theorem pstCon1_any (F : FuncId) (c0 : Value) (p : Post → Bool) (xs : List Post) (v : Value) (w : World) (B : Nat) (hB : B ≤ w.heap.size) (h : SlRep 4 (flat Post.enc) w (fun b => b < B) xs v)
    (hF : ∀ (args : Array Value) (W : World), (callFunc F args).run Tryz.prog W = .ok (.enter F args) W)
    (hp : ∀ (x : Post) (W : World), x ∈ xs → Below w.heap.size w W → (flat Post.enc) W (fun b => b < B) x [.string x.word, .int .i64 x.unit, .int .i64 x.field, .int .i64 x.place] → Calls Tryz.prog F #[.agg #[.string x.word, .int .i64 x.unit, .int .i64 x.field, .int .i64 x.place], c0] W fun e w' => e = .returned (.bool (p x)) ∧ Below W.heap.size W w') :
    Calls Tryz.prog 40 #[v, .func (.func F) #[] #[c0]] w fun e w' => e = .returned (.bool (xs.any p)) ∧ Below w.heap.size w w' := by
  have HI := Lib.hid (pstCon1_c F c0 p xs v w B hB h hF hp)
  have HE := Lib.hid (idx_any p xs)
  obtain ⟨A, c, rfl, -⟩ := id h
  clear hp
  go_enter Tryz.func40, Tryz.ntmps40
  go_wp2_with fail
  refine HI.out.mono ?_
  rintro e w1 ⟨rfl, hb1⟩
  go_wp2
  go_ret
  exact ⟨ret_bool HE.out, hb1⟩
theorem enter_rg1 (args : Array Value) (W : World) : (callFunc 39 args).run Tryz.prog W = .ok (.enter 39 args) W := by kernel_rfl
theorem enter_rg2 (args : Array Value) (W : World) : (callFunc 41 args).run Tryz.prog W = .ok (.enter 41 args) W := by kernel_rfl
theorem rg2_c (s : ByteArray) (g : Nat) (x : Post) (w : World) (h0 : w.cell? ⟨g, 0, none⟩ = some (.string s)) (hg : g < w.heap.size) :
    Calls Tryz.prog 41 #[pstV x, .pointer (some ⟨g, 0, none⟩)] w fun e w' => e = .returned (.bool (decide (x.word = s))) ∧ Below w.heap.size w w' := by
  have hb : ∀ o, Below w.heap.size w (w.alloc o) := fun o => (Below.refl _ _).alloc (Nat.le_refl _) o
  have h1 := fun o => (hb o).cell (p := ⟨g, 0, none⟩) hg |>.trans h0
  have HE := Lib.hid (show decide (x.word = s) = (x.word.toList == s.toList) by rw [str_eq])
  have h2 := h1 (pstC x)
  go_enter Tryz.func41, Tryz.ntmps41
  go_wp2
  go_ret
  exact ⟨ret_bool HE.out.symm, hb _⟩
set_option maxRecDepth 100000 in
theorem rg1_c (s : ByteArray) (l : List Post) (v : Value) (g : Nat) (w : World) (B : Nat) (hB : B ≤ w.heap.size) (h : Posts w B l v) (h0 : w.cell? ⟨g, 0, none⟩ = some v) (hg : g < w.heap.size) :
    Calls Tryz.prog 39 #[.string s, .pointer (some ⟨g, 0, none⟩)] w fun e w' => e = .returned (.bool (!(l.any fun x => decide (x.word = s)))) ∧ Below w.heap.size w w' := by
  have hb : Below w.heap.size w (w.alloc (.cells #[.string s] 9)) := (Below.refl _ _).alloc (Nat.le_refl _) _
  have h1 := hb.cell (p := ⟨g, 0, none⟩) hg |>.trans h0
  have HC := Lib.hid (pstCon1_any 41 (.pointer (some ⟨w.heap.size, 0, none⟩)) (fun x => decide (x.word = s)) l v (w.alloc (.cells #[.string s] 9)) B (Nat.le_trans hB hb.size) (h.below pstS (hb.mono hB)) enter_rg2 (fun x W _ hW _ => rg2_c s w.heap.size x W ((hW.cell (p := ⟨w.heap.size, 0, none⟩) (by simp)).trans (by simp)) (by have := hW.size; simp at this; omega)))
  obtain ⟨A, c, rfl, -⟩ := id h
  go_enter Tryz.func39, Tryz.ntmps39
  go_wp2_with fail
  refine HC.out.mono ?_
  rintro e w1 ⟨rfl, hb1⟩
  go_wp2
  go_ret
  exact ⟨rfl, hb.trans (hb1.mono hb.size)⟩
end Go.Proofs.YtpfngehledgkiaaGreat
