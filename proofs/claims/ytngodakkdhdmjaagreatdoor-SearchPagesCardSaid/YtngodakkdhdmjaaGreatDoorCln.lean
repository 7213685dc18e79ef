/- slices.Clone at hits and nodes; slices.Equal at hits; pages. -/
import Derived.Test.YtngodakkdhdmjaaGreatDoorScp
import Derived.Test.YtngodakkdhdmjaaGreatDoorFou
namespace Go.Proofs.YtngodakkdhdmjaaGreatDoor
open Go.RowKit

set_option maxRecDepth 100000 in
set_option maxHeartbeats 2000000 in
theorem cloneH_c (xs : List Hit) (v : Value) (w : World) (B : Nat) (hB : B ≤ w.heap.size) (h : SlRep 2 (flat Hit.enc) w (fun b => b < B) xs v) (hn : xs.length ≤ 100000) :
    Calls Tryz.prog 12 #[v] w fun e w' => ∃ v', e = .returned v' ∧ OwnRep 2 (flat Hit.enc) 30 w.heap.size w' xs v' ∧ Below w.heap.size w w' := by
  obtain ⟨A, c, rfl, hc1, hc2, _⟩ := id h
  have HN := Lib.hid hn
  clear hn
  rcases A with _ | ad
  · obtain ⟨rfl, -⟩ := h.none_nil
    clear h
    have hq := fun (W : World) => Lib.run_eql_slice_nil (P := Tryz.prog) W 22 30 none 0 c 0 0 Tryz.underlying22
    go_enter Tryz.func12, Tryz.ntmps12
    go_wp2
    go_ret
    exact ⟨_, rfl, OwnRep.nil_, Below.refl _ _⟩
  · have hq := fun (W : World) => Lib.run_eql_slice_nil (P := Tryz.prog) W 22 30 (some ad) xs.length c 0 0 Tryz.underlying22
    go_enter Tryz.func12, Tryz.ntmps12
    go_wp2_with (at_builtin; refine stop_intro ?_)
    refine stop_elim ?_
    refine wpList_append_rep rfl hitS hitE_ w.heap.size (.tmp 5) (.tmp 6) rfl rfl (OwnRep.empty_new ?hg ?hb) rfl (ys := xs) (F := fun b => b < B) ?src ?F ?n (by decide) ?hbase ?_
    case hb => exact Nat.le_refl _
    case hg => rfl
    case src => exact h.below hitS ((Below.refl _ _).alloc hB _)
    case F => intro b' (hb' : b' < B); exact ⟨by simp only [World.size_alloc]; omega, show some w.heap.size ≠ some b' by simp; omega⟩
    case hbase => simp only [World.size_alloc]; omega
    case n => have hn := HN.out; simp; omega
    intro v1 w1 hown1 hg1 hat1
    rw [List.nil_append] at hown1
    change World.grownBy _ w1 (some w.heap.size) at hg1
    have hb1 : Below w.heap.size w w1 := ((Below.refl _ _).alloc (Nat.le_refl _) _).grown hg1 (by simp only [World.size_alloc]; omega) (fun k hk => by injection hk; omega)
    go_wp2
    go_ret
    exact ⟨_, rfl, hown1, hb1⟩
set_option maxRecDepth 100000 in
set_option maxHeartbeats 2000000 in
theorem cloneA_c (xs : List Ask) (v : Value) (w : World) (B : Nat) (hB : B ≤ w.heap.size) (h : SlRep 4 (flat Ask.enc) w (fun b => b < B) xs v) (hn : xs.length ≤ 100000) :
    Calls Tryz.prog 23 #[v] w fun e w' => ∃ v', e = .returned v' ∧ OwnRep 4 (flat Ask.enc) 53 w.heap.size w' xs v' ∧ Below w.heap.size w w' := by
  obtain ⟨A, c, rfl, hc1, hc2, _⟩ := id h
  have HN := Lib.hid hn
  clear hn
  rcases A with _ | ad
  · obtain ⟨rfl, -⟩ := h.none_nil
    clear h
    have hq := fun (W : World) => Lib.run_eql_slice_nil (P := Tryz.prog) W 42 53 none 0 c 0 0 Tryz.underlying42
    go_enter Tryz.func23, Tryz.ntmps23
    go_wp2
    go_ret
    exact ⟨_, rfl, OwnRep.nil_, Below.refl _ _⟩
  · have hq := fun (W : World) => Lib.run_eql_slice_nil (P := Tryz.prog) W 42 53 (some ad) xs.length c 0 0 Tryz.underlying42
    go_enter Tryz.func23, Tryz.ntmps23
    go_wp2_with (at_builtin; refine stop_intro ?_)
    refine stop_elim ?_
    refine wpList_append_rep rfl askS askE_ w.heap.size (.tmp 5) (.tmp 6) rfl rfl (OwnRep.empty_new ?hg ?hb) rfl (ys := xs) (F := fun b => b < B) ?src ?F ?n (by decide) ?hbase ?_
    case hb => exact Nat.le_refl _
    case hg => rfl
    case src => exact h.below askS ((Below.refl _ _).alloc hB _)
    case F => intro b' (hb' : b' < B); exact ⟨by simp only [World.size_alloc]; omega, show some w.heap.size ≠ some b' by simp; omega⟩
    case hbase => simp only [World.size_alloc]; omega
    case n => have hn := HN.out; simp; omega
    intro v1 w1 hown1 hg1 hat1
    rw [List.nil_append] at hown1
    change World.grownBy _ w1 (some w.heap.size) at hg1
    have hb1 : Below w.heap.size w w1 := ((Below.refl _ _).alloc (Nat.le_refl _) _).grown hg1 (by simp only [World.size_alloc]; omega) (fun k hk => by injection hk; omega)
    go_wp2
    go_ret
    exact ⟨_, rfl, hown1, hb1⟩
theorem page_at {h : List Hit} {a : Nat} {n : Int} (ha : a < h.length) (hn : 1 ≤ n) : pageF h a n = (h.drop a).take (min n.toNat (h.length - a)) := by
  unfold pageF
  rw [if_neg (by omega), Int.toNat_natCast]
  rcases Nat.le_total n.toNat (h.length - a) with h1 | h1
  · rw [Nat.min_eq_left h1]
  · rw [Nat.min_eq_right h1, List.take_of_length_le (by rw [List.length_drop]; exact h1), List.take_of_length_le (by rw [List.length_drop]; exact Nat.le_refl _)]
set_option maxRecDepth 100000 in
set_option maxHeartbeats 4000000 in
theorem page_c (h : List Hit) (fr n : Int) (v : Value) (w : World) (B : Nat) (hB : B ≤ w.heap.size) (hh : Hits w B h v) (hl : h.length ≤ 100000) (hf : -9223372036854775808 ≤ fr ∧ fr ≤ 9223372036854775807) (hn : -9223372036854775808 ≤ n ∧ n ≤ 9223372036854775807) :
    Calls Tryz.prog 11 #[v, .int .i64 fr, .int .i64 n] w fun e w' => ∃ v', e = .returned v' ∧ OwnRep 2 (flat Hit.enc) 30 w.heap.size w' (pageF h fr n) v' ∧ Below w.heap.size w w' := by
  by_cases hbad : fr < 0 ∨ (h.length : Int) ≤ fr ∨ n < 1
  · have HX := Lib.hid (show pageF h fr n = [] by unfold pageF; rw [if_pos hbad])
    rw [HX.out]
    obtain ⟨A, c, rfl, -⟩ := id hh
    generalize h.length = m at *
    clear hh HX
    rcases (by omega : fr < 0 ∨ (¬ fr < 0 ∧ (m : Int) ≤ fr) ∨ (¬ fr < 0 ∧ ¬ (m : Int) ≤ fr ∧ n < 1)) with h1 | ⟨h1, h2⟩ | ⟨h1, h2, h3⟩
    all_goals
      clear hbad
      go_enter Tryz.func11, Tryz.ntmps11
      go_wp2
      go_ret
      exact ⟨_, rfl, OwnRep.nil_, Below.refl _ _⟩
  · obtain ⟨a, rfl⟩ : ∃ a : Nat, fr = (a : Int) := ⟨fr.toNat, by omega⟩
    obtain ⟨q, rfl⟩ : ∃ q : Nat, n = (q : Int) := ⟨n.toNat, by omega⟩
    have ha : a < h.length := by omega
    have hq : 1 ≤ q := by omega
    have HX := Lib.hid (page_at (h := h) (a := a) (n := (q : Int)) ha (by omega))
    obtain ⟨A, c, rfl, hc1, hc2, -⟩ := id hh
    obtain ⟨x, hx⟩ := get_at h ha
    obtain ⟨b, off, rfl, hbB, -⟩ := Hits.at_ hh hx
    obtain ⟨m, hm⟩ : ∃ m, min q (h.length - a) = m := ⟨_, rfl⟩
    have hm1 : 1 ≤ m := by omega
    have hm2 : a + m ≤ h.length := by omega
    have HC := Lib.hid (cloneH_c ((h.drop a).take m) (.slice (some ⟨b, off + a * 2, none⟩) m (c - a)) w B hB (hh.piece hm2) (by rw [List.length_take, List.length_drop]; omega))
    rw [Int.toNat_natCast, hm] at HX
    rw [HX.out]
    have hca : ¬ c = a := by omega
    have htn : ((a : Int) + (m : Int)).toNat - a = m := by omega
    have hc3 : (a : Int) ≤ (a : Int) + (m : Int) := by omega
    have hc4 : (a : Int) + (m : Int) ≤ (c : Int) := by omega
    have hc5 : (0 : Int) ≤ (a : Int) := by omega
    have hc6 : (0 : Int) ≤ (a : Int) + (m : Int) := by omega
    have hwr : IntKind.i64.wrap ((a : Int) + (m : Int)) = (a : Int) + (m : Int) := IntWalk.i64_in _ (by omega)
    have hws : IntKind.i64.wrap ((h.length : Int) - (a : Int)) = (h.length : Int) - (a : Int) := IntWalk.i64_in _ (by omega)
    have h1 : ¬ (a : Int) < 0 := by omega
    have h2 : ¬ (h.length : Int) ≤ (a : Int) := by omega
    have h3 : ¬ (q : Int) < 1 := by omega
    have hmi : min (q : Int) ((h.length : Int) - (a : Int)) = (m : Int) := by omega
    clear hx hh hbad hm hf hn
    generalize (h.drop a).take m = r at *
    go_enter Tryz.func11, Tryz.ntmps11
    go_wp2_with fail
    refine HC.out.mono ?_
    rintro e w1 ⟨v1, rfl, hown, b1⟩
    have HO := Lib.hid hown
    obtain ⟨A1, c1, rfl, -⟩ := id (hown.toSl hitS)
    clear hown
    go_wp2
    go_ret
    exact ⟨_, rfl, HO.out, b1⟩
theorem hit_neq (x : Hit) (w : World) : (binOp .neq 30 (.agg #[.int .i64 x.unit, .int .i64 x.score]) (.agg #[.int .i64 x.unit, .int .i64 x.score])).run Tryz.prog w = .ok (.bool false) w := by
  have hs : ∀ (d : Nat) (xs ys : Array Value), (Op.equalIn (d + 1) 30 (.agg xs) (.agg ys)).run Tryz.prog w = (Op.eqFields d xs ys (Tryz.prog.fieldsOf 30).toList).run Tryz.prog w := fun d xs ys => run_equalIn_struct w d 30 xs ys (by kernel_rfl) (by kernel_rfl)
  simp only [binOp]
  simp [Op.equal, Op.maxDepth, hs 9999, Program.fieldsOf, Tryz.underlying30, go_sem]
set_option maxRecDepth 100000 in
set_option maxHeartbeats 2000000 in
theorem same6_c (l : List Hit) (hn : l.length ≤ 100000) (v v' : Value) (w : World) (B : Nat) (hB : B ≤ w.heap.size) (h : Hits w B l v) (h' : Hits w B l v') :
    Calls Tryz.prog 10 #[v, v'] w fun e w' => e = .returned (.bool true) ∧ Below w.heap.size w w' := by
  have HR := Lib.hid (fun (W : World) (hW : Below w.heap.size w W) => And.intro (h.below hitS (hW.mono hB)) (h'.below hitS (hW.mono hB)))
  obtain ⟨A, ca, rfl, hc1, hc2, -⟩ := id h
  obtain ⟨A', ca', rfl, hd1, hd2, -⟩ := id h'
  clear h h'
  go_enter Tryz.func10, Tryz.ntmps10
  go_wp2
  go_loopw [5] (fun i wr => ∃ k : Nat, k ≤ l.length ∧ i = .int .i64 k ∧ Below w.heap.size w wr) (fun i _ => l.length - (intOf i).toNat)
  case atStart => exact ⟨0, Nat.zero_le _, rfl, Below.refl _ _⟩
  case round =>
    obtain ⟨k, hk, rfl, hb⟩ := hrel
    have hs := hb.size
    by_cases hlt : k < l.length
    · obtain ⟨x, hx⟩ := get_at l hlt
      obtain ⟨b, off, rfl, hbB, g0, g1⟩ := Hits.at_ (HR.out _ hb).1 hx
      obtain ⟨b', off', rfl, hbB', q0, q1⟩ := Hits.at_ (HR.out _ hb).2 hx
      have hbw : b < wr.heap.size := by have : b < B := hbB; omega
      have hbw' : b' < wr.heap.size := by have : b' < B := hbB'; omega
      have hkk : (k : Int) < (l.length : Int) := by omega
      have hwk : IntKind.i64.wrap ((k : Int) + 1) = (k : Int) + 1 := IntWalk.i64_in _ (by omega)
      have hne := fun W : World => hit_neq x W
      clear hx
      go_wp2
      go_quiet (fail)
      go_wp2
      go_roundw
      case rel => exact ⟨k + 1, by omega, by go_num, below_drewN hb _⟩
      case measure => simp [intOf]; omega
    · have hkk : ¬ (k : Int) < (l.length : Int) := by omega
      go_wp2
      go_ret
      exact ⟨rfl, hb⟩
set_option maxRecDepth 100000 in
set_option maxHeartbeats 2000000 in
theorem equalH_c (l : List Hit) (hn : l.length ≤ 100000) (v v' : Value) (w : World) (B : Nat) (hB : B ≤ w.heap.size) (h : Hits w B l v) (h' : Hits w B l v') :
    Calls Tryz.prog 35 #[v, v'] w fun e w' => e = .returned (.bool true) ∧ Below w.heap.size w w' := by
  have HR := Lib.hid (fun (W : World) (hW : Below w.heap.size w W) => And.intro (h.below hitS (hW.mono hB)) (h'.below hitS (hW.mono hB)))
  obtain ⟨A, ca, rfl, hc1, hc2, -⟩ := id h
  obtain ⟨A', ca', rfl, hd1, hd2, -⟩ := id h'
  clear h h'
  go_enter Tryz.func35, Tryz.ntmps35
  go_wp2
  go_loopw [13] (fun i wr => ∃ k : Nat, k ≤ l.length ∧ i = .int .i64 k ∧ Below w.heap.size w wr) (fun i _ => l.length - (intOf i).toNat)
  case atStart => exact ⟨0, Nat.zero_le _, rfl, Below.refl _ _⟩
  case round =>
    obtain ⟨k, hk, rfl, hb⟩ := hrel
    have hs := hb.size
    by_cases hlt : k < l.length
    · obtain ⟨x, hx⟩ := get_at l hlt
      obtain ⟨b, off, rfl, hbB, g0, g1⟩ := Hits.at_ (HR.out _ hb).1 hx
      obtain ⟨b', off', rfl, hbB', q0, q1⟩ := Hits.at_ (HR.out _ hb).2 hx
      have hbw : b < wr.heap.size := by have : b < B := hbB; omega
      have hbw' : b' < wr.heap.size := by have : b' < B := hbB'; omega
      have hkk : (k : Int) < (l.length : Int) := by omega
      have hwk : IntKind.i64.wrap ((k : Int) + 1) = (k : Int) + 1 := IntWalk.i64_in _ (by omega)
      have hne := fun W : World => hit_neq x W
      clear hx
      go_wp2
      go_quiet (fail)
      go_wp2
      go_roundw
      case rel => exact ⟨k + 1, by omega, by go_num, below_drewN hb _⟩
      case measure => simp [intOf]; omega
    · have hkk : ¬ (k : Int) < (l.length : Int) := by omega
      go_wp2
      go_ret
      exact ⟨rfl, hb⟩
theorem page_no {h : List Hit} {fr n : Int} (hb : fr < 0 ∨ (h.length : Int) ≤ fr ∨ n < 1) : pageF h fr n = [] := by unfold pageF; rw [if_pos hb]
theorem page_yes {h : List Hit} {fr n : Int} (h0 : ¬ fr < 0) (h1 : ¬ (h.length : Int) ≤ fr) (h2 : ¬ n < 1) : pageF h fr n = (h.drop fr.toNat).take n.toNat := by unfold pageF; rw [if_neg (by omega)]
/-- as the reference says it: of the first k hits -/
theorem page_step {h : List Hit} {fr n : Int} {k : Nat} {x : Hit} (hx : h[k]? = some x) : pageF (h.take (k + 1)) fr n = if 0 ≤ fr ∧ fr ≤ k ∧ ((pageF (h.take k) fr n).length : Int) < n then pageF (h.take k) fr n ++ [x] else pageF (h.take k) fr n := by
  have hk := lt_of_at hx
  have hl1 : (h.take (k + 1)).length = k + 1 := by rw [List.length_take]; omega
  have hl0 : (h.take k).length = k := by rw [List.length_take]; omega
  by_cases h0 : fr < 0 ∨ n < 1
  · rw [page_no (h := h.take (k + 1)) (by omega), page_no (h := h.take k) (by omega), if_neg (by rintro ⟨h1, -, h3⟩; simp at h3; omega)]
  by_cases h1 : ((k + 1 : Nat) : Int) ≤ fr
  · rw [page_no (h := h.take (k + 1)) (by rw [hl1]; omega), page_no (h := h.take k) (by rw [hl0]; omega), if_neg (by omega)]
  obtain ⟨a, rfl⟩ : ∃ a : Nat, fr = (a : Int) := ⟨fr.toNat, by omega⟩
  obtain ⟨q, rfl⟩ : ∃ q : Nat, n = (q : Int) := ⟨n.toNat, by omega⟩
  have e1 : pageF (h.take (k + 1)) a q = ((h.take k).drop a ++ [x]).take q := by
    rw [page_yes (by omega) (by rw [hl1]; omega) (by omega), Int.toNat_natCast, Int.toNat_natCast, take_at hx, List.drop_append_of_le_length (by rw [hl0]; omega)]
  have hld : ((h.take k).drop a).length = k - a := by rw [List.length_drop, hl0]
  rw [e1]
  by_cases h2 : (k : Int) ≤ (a : Int)
  · rw [page_no (h := h.take k) (by rw [hl0]; omega), if_pos ⟨by omega, by omega, by simp; omega⟩, List.drop_of_length_le (by rw [hl0]; omega), List.nil_append, List.take_of_length_le (by simp; omega)]
  · have e0 : pageF (h.take k) a q = ((h.take k).drop a).take q := by
      rw [page_yes (by omega) (by rw [hl0]; omega) (by omega), Int.toNat_natCast, Int.toNat_natCast]
    rw [e0]
    by_cases h3 : k - a < q
    · rw [List.take_of_length_le (l := (h.take k).drop a) (by rw [hld]; omega), if_pos ⟨by omega, by omega, by rw [hld]; omega⟩, List.take_of_length_le (by rw [List.length_append, hld]; simp; omega)]
    · rw [List.take_append_of_le_length (by rw [hld]; omega), if_neg (by rintro ⟨-, -, h4⟩; rw [List.length_take, hld] at h4; omega)]
theorem page_nil (fr n : Int) : pageF [] fr n = [] := by
  unfold pageF
  split
  · rfl
  · simp
theorem page_len (h : List Hit) (fr n : Int) : (pageF h fr n).length ≤ h.length := by
  unfold pageF
  split
  · simp
  · rw [List.length_take, List.length_drop]; omega
set_option maxRecDepth 100000 in
set_option maxHeartbeats 4000000 in
theorem rpage_c (h : List Hit) (fr n : Int) (v : Value) (w : World) (B : Nat) (hB : B ≤ w.heap.size) (hh : Hits w B h v) (hl : h.length ≤ 100000) :
    Calls Tryz.prog 13 #[v, .int .i64 fr, .int .i64 n] w fun e w' => ∃ v', e = .returned v' ∧ OwnRep 2 (flat Hit.enc) 30 w.heap.size w' (pageF h fr n) v' ∧ Below w.heap.size w w' := by
  have HR := Lib.hid (fun (W : World) (hW : Below w.heap.size w W) => (hh.below hitS (hW.mono hB) : Hits W B h v))
  obtain ⟨A, c, rfl, -⟩ := id hh
  have H0 := Lib.hid (show pageF (h.take 0) fr n = [] from page_nil fr n)
  clear hh
  go_enter Tryz.func13, Tryz.ntmps13
  go_wp2
  go_loopw [7, 8] (fun o i wr => ∃ (k : Nat) (os : List Hit), k ≤ h.length ∧ i = .int .i64 k ∧ Hid (pageF (h.take k) fr n = os) ∧ os.length ≤ k ∧ OwnRep 2 (flat Hit.enc) 30 w.heap.size wr os o ∧ Below w.heap.size w wr) (fun _ i _ => h.length - (intOf i).toNat)
  case atStart => exact ⟨0, [], Nat.zero_le _, rfl, H0, by simp, OwnRep.nil_, Below.refl _ _⟩
  case round =>
    clear H0
    obtain ⟨k, os, hk, rfl, HS, hol, hown, bw⟩ := hrel
    obtain ⟨Ao, co, rfl, -⟩ := id (hown.toSl hitS)
    by_cases hlt : k < h.length
    · obtain ⟨x, hx⟩ := get_at h hlt
      obtain ⟨b, off, rfl, hbB, q0, q1⟩ := Hits.at_ (HR.out _ bw) hx
      have hbw : b < wr.heap.size := by have : b < B := hbB; have := bw.size; omega
      have hki : (k : Int) < (h.length : Int) := by omega
      have hwk : IntKind.i64.wrap ((k : Int) + 1) = (k : Int) + 1 := IntWalk.i64_in _ (by omega)
      have HX := Lib.hid (show pageF (h.take (k + 1)) fr n = if 0 ≤ fr ∧ fr ≤ k ∧ (os.length : Int) < n then os ++ [x] else os by rw [page_step hx, HS.out])
      clear hx HS
      have hcs : (fr < 0 ∨ (¬ fr < 0 ∧ ¬ fr ≤ (k : Int)) ∨ (¬ fr < 0 ∧ fr ≤ (k : Int) ∧ ¬ (os.length : Int) < n)) ∨ (0 ≤ fr ∧ fr ≤ (k : Int) ∧ (os.length : Int) < n) := by omega
      rcases hcs with hc | ⟨h1, h2, h3⟩
      · have HX := Lib.hid (show pageF (h.take (k + 1)) fr n = os by rw [HX.out, if_neg (by omega)])
        rcases hc with h1 | ⟨h1, h2⟩ | ⟨h1, h2, h3⟩
        all_goals
          go_wp2
          all_goals
            go_roundw
            case rel => exact ⟨k + 1, os, by omega, by go_num, HX, by omega, hown, bw⟩
            case measure => simp [intOf]; omega
      · have HX := Lib.hid (show pageF (h.take (k + 1)) fr n = os ++ [x] by rw [HX.out, if_pos ⟨h1, h2, h3⟩])
        go_wp2_with (at_builtin; refine stop_intro ?_)
        refine stop_elim ?_
        refine wpList_app1 rfl hitS hitE_ w.heap.size (.tmp 28) (.tmp 33) rfl rfl hown (y := x) rfl rfl (by omega) (by decide) bw.size ?_
        intro v6 w6 hown6 hb6
        have b6 := hb6 _ _ (Nat.le_refl _) bw
        clear hown hb6
        obtain ⟨A6, c6, rfl, -⟩ := id (hown6.toSl hitS)
        rw [show (os ++ [x]).length = os.length + 1 by simp] at hown6 ⊢
        go_wp2
        go_roundw
        case rel => exact ⟨k + 1, os ++ [x], by omega, by go_num, HX, by simp; omega, hown6, b6⟩
        case measure => simp [intOf]; omega
    · have hki : ¬ (k : Int) < (h.length : Int) := by omega
      have HX := Lib.hid (show pageF h fr n = os by rw [← HS.out, List.take_of_length_le (by omega)])
      have HO := Lib.hid hown
      clear hown HS
      go_wp2
      go_ret
      exact ⟨_, rfl, by rw [HX.out]; exact HO.out, bw⟩
end Go.Proofs.YtngodakkdhdmjaaGreatDoor
