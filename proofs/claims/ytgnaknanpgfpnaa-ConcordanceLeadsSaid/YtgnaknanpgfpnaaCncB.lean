/- The program's concordance: above. -/
import Derived.Test.YtgnaknanpgfpnaaData
import Derived.Test.YtgnaknanpgfpnaaMaps
namespace Go.Proofs.Ytgnaknanpgfpnaa
open Go.RowKit

def pmap (xs : List Standing) : Int → Option Int := xs.foldl (fun f x => upd f x.unit x.parent) (upd (fun _ => none) 0 0)
theorem pmap_snoc (xs : List Standing) (x : Standing) : pmap (xs ++ [x]) = upd (pmap xs) x.unit x.parent := by simp [pmap]
def climbM (f : Int → Option Int) : Nat → Int → Int
  | n, p => if p = 0 then 0 else match f p with
    | none => 17
    | some q => match n with
      | 0 => 17
      | n + 1 => climbM f n q
theorem climbM_zero (f : Int → Option Int) (n : Nat) : climbM f n 0 = 0 := by unfold climbM; rw [if_pos rfl]
theorem climbM_none (f : Int → Option Int) (n : Nat) (p : Int) (hp : p ≠ 0) (h : f p = none) : climbM f n p = 17 := by unfold climbM; rw [if_neg hp, h]
theorem climbM_last (f : Int → Option Int) (p q : Int) (hp : p ≠ 0) (h : f p = some q) : climbM f 0 p = 17 := by unfold climbM; rw [if_neg hp, h]
theorem climbM_step (f : Int → Option Int) (n : Nat) (p q : Int) (hp : p ≠ 0) (h : f p = some q) : climbM f (n + 1) p = climbM f n q := by rw [climbM, if_neg hp, h]
def aboveE (f : Int → Option Int) : List Standing → Int
  | [] => 0
  | x :: r => if f x.parent = none then 7 else if climbM f 11 x.parent ≠ 0 then climbM f 11 x.parent else aboveE f r

abbrev IntMap (w : World) (b : Nat) (f : Int → Option Int) : Prop := MapF w b (fun n : Int => Value.int .i64 n) (fun n : Int => Value.int .i64 n) f
theorem intKind : KeyKind Try.prog 3 (fun n : Int => Value.int .i64 n) := int_kind Try.underlying3
theorem zeroInt (w : World) : (zeroValue 3).run Try.prog w = .ok (.int .i64 0) w := by kernel_rfl

set_option maxHeartbeats 2000000 in
theorem above_c (xs : List Standing) (v : Value) (w : World) (B : Nat) (hB : B ≤ w.heap.size) (h : Units w B xs v) :
    Calls Try.prog 36 #[v] w fun e w' => e = .returned (.int .i64 (aboveE (pmap xs) xs)) ∧ Below w.heap.size w w' := by
  obtain ⟨A, c, rfl, hc1, hc2, _⟩ := id h
  have hmm := @run_makeMap Try.prog
  go_enter Try.func36, Try.ntmps36
  go_wp2_with (with_reducible refine stop_insert ?_)
  refine stop_elim ?_
  refine wpList_mapPut rfl (.tmp 14) (.const (.int .i64 0)) (.const (.int .i64 0)) 79 (.inr rfl) intKind Try.underlying79 (MapF.new w _ _ rfl) rfl (0 : Int) rfl (0 : Int) rfl ?_
  intro w0 hm0 hg0
  have hb0 : Below w.heap.size w w0 := ((Below.refl _ _).alloc (Nat.le_refl _) _).grown hg0 (by simp) (fun k hk => by injection hk; omega)
  clear hmm hg0
  go_wp2
  go_loopw [18] (fun i wr => ∃ k : Nat, k ≤ xs.length ∧ i = .int .i64 k ∧ IntMap wr w.heap.size (pmap (xs.take k)) ∧ Below w.heap.size w wr) (fun i _ => xs.length - (intOf i).toNat)
  case atStart => exact ⟨0, Nat.zero_le _, rfl, hm0, hb0⟩
  case round =>
    obtain ⟨k, hk, rfl, hm, hb⟩ := hrel
    clear hm0 hb0
    have hml := hm.lt
    have hs := hb.size
    by_cases hlt : k < xs.length
    · obtain ⟨x, hx⟩ := get_at xs hlt
      have HT := Lib.hid (take_at hx)
      obtain ⟨b, off, rfl, hbB, g0, g1, g2, g3, g4⟩ := Units.at_ (h.below stS (hb.mono hB)) hx
      have hbw : b < wr.heap.size := by omega
      clear hx
      go_wp2_with (at_mapUpdate; refine stop_intro ?_)
      refine stop_elim ?_
      refine wpList_mapPut rfl (.tmp 22) (.tmp 24) (.tmp 26) 79 (.inl rfl) intKind Try.underlying79 (hm.below ((Below.refl _ _).alloc (Nat.le_refl _) _) hml) rfl x.unit rfl x.parent rfl ?_
      intro w1 hm1 hg1
      have hb1 : Below w.heap.size w w1 := (hb.alloc hs _).grown hg1 (by simp; omega) (fun k hk => by injection hk; omega)
      go_wp2
      go_roundw
      case rel => exact ⟨k + 1, by omega, by go_num, by rw [HT.out, pmap_snoc]; exact hm1, hb1⟩
      case measure => simp [intOf]; omega
    · rw [List.take_of_length_le (by omega)] at hm
      have HF := Lib.hid (show aboveE (pmap xs) xs = aboveE (pmap xs) (xs.drop 0) from rfl)
      go_wp2
      go_loopw [30] (fun i wr => ∃ k : Nat, k ≤ xs.length ∧ i = .int .i64 k ∧ Hid (aboveE (pmap xs) xs = aboveE (pmap xs) (xs.drop k)) ∧ IntMap wr w.heap.size (pmap xs) ∧ Below w.heap.size w wr) (fun i _ => xs.length - (intOf i).toNat)
      case atStart => exact ⟨0, Nat.zero_le _, rfl, HF, hm, hb⟩
      case round =>
        rename_i wq
        clear hm hb hml hs HF
        obtain ⟨k', hk', rfl, HS, hm, hb⟩ := hrel
        have hml := hm.lt
        have hs := hb.size
        by_cases hlt' : k' < xs.length
        · obtain ⟨x, hx⟩ := get_at xs hlt'
          have HD := Lib.hid (drop_at hx)
          obtain ⟨b, off, rfl, hbB, g0, g1, g2, g3, g4⟩ := Units.at_ (h.below stS (hb.mono hB)) hx
          have hbw : b < wr.heap.size := by omega
          clear hx
          have hx1 : Below wr.heap.size wr (wr.alloc (.cells #[.int .i64 x.unit, .int .i64 x.parent, .int .i64 x.level, .string x.mark, .string x.title] 46)) := (Below.refl _ _).alloc (Nat.le_refl _) _
          have hm1 := hm.below hx1 hml
          cases hpx : pmap xs x.parent with
          | none =>
            have HE := Lib.hid (show aboveE (pmap xs) xs = 7 by rw [HS.out, HD.out]; simp [aboveE, hpx])
            go_wp2_with (at_lookup; refine stop_intro ?_)
            refine stop_elim ?_
            refine wpList_look rfl (.tmp 35) (.tmp 37) 79 true rfl intKind Try.underlying79 (zeroInt _) hm1 rfl x.parent rfl (.tuple #[.int .i64 0, .bool false]) (by rw [hpx]; rfl) ?_
            clear hpx
            go_wp2
            go_ret
            exact ⟨ret_int HE.out.symm, hb.trans (hx1.mono hs)⟩
          | some q0 =>
            have HN : pmap xs x.parent ≠ none := by rw [hpx]; simp
            have HE := Lib.hid (show aboveE (pmap xs) xs = if climbM (pmap xs) 11 x.parent ≠ 0 then climbM (pmap xs) 11 x.parent else aboveE (pmap xs) (xs.drop (k' + 1)) by rw [HS.out, HD.out]; simp [aboveE, hpx])
            go_wp2_with (at_lookup; refine stop_intro ?_)
            refine stop_elim ?_
            refine wpList_look rfl (.tmp 35) (.tmp 37) 79 true rfl intKind Try.underlying79 (zeroInt _) hm1 rfl x.parent rfl (.tuple #[.int .i64 q0, .bool true]) (by rw [hpx]; rfl) ?_
            clear hpx HN HS
            go_wp2
            go_loop [10, 11] (fun n p => ∃ (m : Nat) (q : Int), m ≤ 11 ∧ n = .int .i64 m ∧ p = .int .i64 q ∧ Hid (climbM (pmap xs) 11 x.parent = climbM (pmap xs) (11 - m) q)) (fun n _ => 12 - (intOf n).toNat)
            case atStart => exact ⟨0, x.parent, by omega, rfl, rfl, by show _ = _; rfl⟩
            case round =>
              obtain ⟨m, q, hm2, rfl, rfl, HC⟩ := hrel
              by_cases hq : q = 0
              · subst hq
                have hz := Lib.hid (show climbM (pmap xs) 11 x.parent = 0 by rw [HC.out, climbM_zero])
                go_wp2
                go_roundw
                case rel => exact ⟨k' + 1, by omega, by go_num, by show _ = _; rw [HE.out, hz.out]; simp, hm1, hb.trans (hx1.mono hs)⟩
                case measure => simp [intOf]; omega
              · have hq1 : (q != 0) = true := by simpa using hq
                have hq2 : (q == 0) = false := by simpa using hq
                cases hfq : pmap xs q with
                | none =>
                  have hz := Lib.hid (show climbM (pmap xs) 11 x.parent = 17 by rw [HC.out, climbM_none _ _ _ hq hfq])
                  go_wp2_with (at_lookup; refine stop_intro ?_)
                  refine stop_elim ?_
                  refine wpList_look rfl (.tmp 50) (.tmp 51) 79 true rfl intKind Try.underlying79 (zeroInt _) hm1 rfl q rfl (.tuple #[.int .i64 0, .bool false]) (by rw [hfq]; rfl) ?_
                  clear hfq
                  go_wp2
                  go_ret
                  exact ⟨ret_int (by rw [HE.out, hz.out]; rfl), hb.trans (hx1.mono hs)⟩
                | some q1 =>
                  by_cases hm11 : m = 11
                  · subst hm11
                    have hz := Lib.hid (show climbM (pmap xs) 11 x.parent = 17 by rw [HC.out]; exact climbM_last _ _ _ hq hfq)
                    go_wp2_with (at_lookup; refine stop_intro ?_)
                    refine stop_elim ?_
                    refine wpList_look rfl (.tmp 50) (.tmp 51) 79 true rfl intKind Try.underlying79 (zeroInt _) hm1 rfl q rfl (.tuple #[.int .i64 q1, .bool true]) (by rw [hfq]; rfl) ?_
                    clear hfq
                    go_wp2
                    go_ret
                    exact ⟨ret_int (by rw [HE.out, hz.out]; rfl), hb.trans (hx1.mono hs)⟩
                  · have hz := Lib.hid (show climbM (pmap xs) 11 x.parent = climbM (pmap xs) (11 - (m + 1)) q1 by rw [HC.out, show 11 - m = (11 - (m + 1)) + 1 by omega, climbM_step _ _ _ _ hq hfq])
                    have hm12 : (m : Int) + 1 < 12 := by omega
                    go_wp2_with (at_lookup; refine stop_intro ?_)
                    refine stop_elim ?_
                    refine wpList_look rfl (.tmp 50) (.tmp 51) 79 true rfl intKind Try.underlying79 (zeroInt _) hm1 rfl q rfl (.tuple #[.int .i64 q1, .bool true]) (by rw [hfq]; rfl) ?_
                    clear hfq
                    go_wp2
                    go_round
                    case rel => exact ⟨m + 1, q1, by omega, by go_num, rfl, hz⟩
                    case measure => simp [intOf]; omega
        · go_wp2
          go_ret
          exact ⟨ret_int (by rw [HS.out, List.drop_of_length_le (by omega)]; rfl), hb⟩
end Go.Proofs.Ytgnaknanpgfpnaa
