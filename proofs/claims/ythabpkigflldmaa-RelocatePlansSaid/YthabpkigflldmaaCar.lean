/- carried of the program and with of the reference: a state with one box on another shelf. -/
import Derived.Test.YthabpkigflldmaaHld
namespace Go.Proofs.Ythabpkigflldmaa
open Go.RowKit

set_option maxRecDepth 10000 in
set_option maxHeartbeats 2000000 in
theorem carried_c (at_ : List Int) (va : Value) (i : Nat) (to_ : Int) (w : World) (B : Nat) (hB : B ≤ w.heap.size) (ha : Ints w B at_ va) (hi : i < at_.length) (hn : at_.length ≤ 100000) :
    Calls Try.prog 57 #[va, .int .i64 (i : Int), .int .i64 to_] w fun e w' => ∃ v', e = .returned v' ∧ OwnRep 1 (flat intEnc) 3 w.heap.size w' (at_.set i to_) v' ∧ Below w.heap.size w w' := by
  have HC := Lib.hid (cloneI_c at_ va w B hB ha hn)
  go_enter Try.func57, Try.ntmps57
  go_wp2_with fail
  refine HC.out.mono ?_
  rintro e w1 ⟨v1, rfl, hown, hb⟩
  obtain ⟨g, cap, rfl, h1, h2, h3, h4, h5, h6⟩ := hown.open_ inS (by omega)
  obtain ⟨x, hx⟩ := get_at at_ hi
  obtain ⟨p0, p1⟩ := Ints.own_at hown hx
  have hown2 := Ints.own_set hown hx to_
  have hb2 := hb.setCell (p := ⟨g, i, none⟩) (by simp; omega) (.int .i64 to_)
  have hi0 : (0 : Int) ≤ (i : Int) := by omega
  have hi1 : (i : Int) < (at_.length : Int) := by omega
  have hgl : g < w1.heap.size := (hown.own_lt g rfl).2
  clear hx h6 hown
  go_wp2
  go_ret
  exact ⟨_, rfl, hown2, hb2⟩
set_option maxRecDepth 10000 in
set_option maxHeartbeats 2000000 in
theorem with_c (at_ : List Int) (va : Value) (i : Nat) (to_ : Int) (w : World) (B : Nat) (hB : B ≤ w.heap.size) (ha : Ints w B at_ va) (hi : i < at_.length) (hn : at_.length ≤ 100000) :
    Calls Try.prog 65 #[va, .int .i64 (i : Int), .int .i64 to_] w fun e w' => ∃ v', e = .returned v' ∧ OwnRep 1 (flat intEnc) 3 w.heap.size w' (at_.set i to_) v' ∧ Below w.heap.size w w' := by
  obtain ⟨A, c, rfl, hc1, hc2, _⟩ := id ha
  go_enter Try.func65, Try.ntmps65
  go_wp2_with (at_builtin; refine stop_intro ?_)
  refine stop_elim ?_
  refine wpList_append_rep rfl inS intE_ w.heap.size (.tmp 8) (.tmp 9) rfl rfl (OwnRep.empty_new ?hg ?hb) rfl (ys := at_) (F := fun b => b < B) ?src ?F ?n (by decide) ?hbase ?_
  case hb => exact Nat.le_refl _
  case hg => rfl
  case src => exact ha.below inS ((Below.refl _ _).alloc (by omega) _)
  case F => intro b' (hb' : b' < B); exact ⟨by simp only [World.size_alloc]; omega, show some w.heap.size ≠ some b' by simp; omega⟩
  case hbase => simp only [World.size_alloc]; omega
  case n => simp; omega
  intro v1 w1 hown hg1 hat1
  rw [List.nil_append] at hown
  have hb : Below w.heap.size w w1 := ((Below.refl _ _).alloc (Nat.le_refl _) _).trans ((Below.refl _ _).grown hg1 (by simp) (fun k hk => by cases hk; exact Nat.le_refl _))
  clear hg1 hat1
  obtain ⟨g, cap, rfl, h1, h2, h3, h4, h5, h6⟩ := hown.open_ inS (by omega)
  obtain ⟨x, hx⟩ := get_at at_ hi
  obtain ⟨p0, p1⟩ := Ints.own_at hown hx
  have hown2 := Ints.own_set hown hx to_
  have hb2 := hb.setCell (p := ⟨g, i, none⟩) (by simp; omega) (.int .i64 to_)
  have hi0 : (0 : Int) ≤ (i : Int) := by omega
  have hi1 : (i : Int) < (at_.length : Int) := by omega
  have hgl : g < w1.heap.size := (hown.own_lt g rfl).2
  clear hx h6 hown
  go_wp2
  go_ret
  exact ⟨_, rfl, hown2, hb2⟩
end Go.Proofs.Ythabpkigflldmaa
