/- The reference of chapter 49: Few, Copy. -/
import Derived.Test.YtgnaknanpgfpnaaData
namespace Go.Proofs.Ytgnaknanpgfpnaa
open Go.RowKit

set_option maxHeartbeats 2000000 in
theorem copy_c (hs : List Shot) (v : Value) (w : World) (B : Nat) (hB : B ≤ w.heap.size) (h : Shots w B hs v) (hsm : hs.length ≤ 65) (hsu : ∀ s ∈ hs, s.units.length ≤ 12) :
    Calls Try.prog 13 #[v] w fun e w' => ∃ v', e = .returned v' ∧ OwnRep 2 shotR 61 w.heap.size w' hs v' ∧ Below w.heap.size w w' := by
  obtain ⟨A, c, rfl, hc1, hc2, _⟩ := id h
  have HU := Lib.hid hsu
  clear hsu
  go_enter Try.func13, Try.ntmps13
  go_wp2
  go_loopw [3, 4] (fun o i wr => ∃ k : Nat, k ≤ hs.length ∧ i = .int .i64 k ∧ OwnRep 2 shotR 61 w.heap.size wr (hs.take k) o ∧ Below w.heap.size w wr) (fun _ i _ => hs.length - (intOf i).toNat)
  case atStart => exact ⟨0, Nat.zero_le _, rfl, by simpa using OwnRep.nil_, Below.refl _ _⟩
  case round =>
    obtain ⟨k, hk, rfl, hown, hb⟩ := hrel
    have hsz := hb.size
    by_cases hlt : k < hs.length
    · obtain ⟨s, hx⟩ := get_at hs hlt
      have HT := Lib.hid (take_at hx)
      have hsl : s.units.length ≤ 12 := HU.out s (List.mem_of_getElem? hx)
      obtain ⟨b, off, v, rfl, hbB, g0, g1, hu⟩ := Shots.at_ (h.below shS (hb.mono hB)) hx
      obtain ⟨A', c', rfl, hd1, hd2, _⟩ := id hu
      have hbr : b < wr.heap.size := by omega
      clear hx
      go_wp2_with (at_builtin; refine stop_intro ?_)
      refine stop_elim ?_
      refine wpList_append_rep rfl stS standingE (wr.heap.size + 1) (.tmp 16) (.tmp 18) rfl rfl (OwnRep.empty_new ?hg ?hb) rfl (ys := s.units) (F := fun b => b < B) ?src ?F ?n (by decide) ?hbase ?_
      case hb => exact Nat.le_of_eq (World.size_alloc _ _).symm
      case hg => simp only [World.size_alloc]
      case src => exact hu.below stS ((((Below.refl _ _).alloc (by omega) _).alloc (by simp only [World.size_alloc]; omega) _))
      case F => intro b' (hb' : b' < B); exact ⟨by simp only [World.size_alloc]; omega, show some (wr.heap.size + 1) ≠ some b' by simp; omega⟩
      case hbase => simp only [World.size_alloc]; omega
      case n => simp; omega
      intro v1 w1 hown1 hg1 hat1
      rw [List.nil_append] at hown1
      change World.grownBy _ w1 (some (wr.heap.size + 1)) at hg1
      have hb1 : Below (wr.heap.size + 1) (wr.alloc (.cells #[.int .i64 s.day, .slice A' s.units.length c'] 61)) w1 := ((Below.refl _ _).alloc (by simp only [World.size_alloc]; omega) _).grown hg1 (by simp only [World.size_alloc]; omega) (fun k hk => by injection hk; omega)
      obtain ⟨A1, c1', rfl, -⟩ := id (hown1.toSl stS)
      have hs1 := hb1.size
      simp only [World.size_alloc] at hs1
      have c0 : w1.cell? ⟨wr.heap.size, 0, none⟩ = some (.int .i64 s.day) := (hb1.cell (p := ⟨wr.heap.size, 0, none⟩) (by simp)).trans (by simp)
      have c1 : w1.cell? ⟨wr.heap.size, 1, none⟩ = some (.slice A' s.units.length c') := (hb1.cell (p := ⟨wr.heap.size, 1, none⟩) (by simp)).trans (by simp)
      have c2 : w1.frozen? ⟨wr.heap.size, 1, none⟩ = false := (hb1.frozen (p := ⟨wr.heap.size, 1, none⟩) (by simp)).trans (by simp)
      go_wp2_with (at_builtin; refine stop_intro ?_)
      refine stop_elim ?_
      have hbw : Below wr.heap.size wr w1 := ((Below.refl _ _).alloc (Nat.le_refl _) _).trans (hb1.mono (Nat.le_succ _))
      have hlt1 := hown1.own_lt
      have hlt3 := hown.own_lt
      have hsl1 := (hown1.toFlat stS).frame (w' := w1.setCell ⟨wr.heap.size, 1, none⟩ (.slice A1 s.units.length c1')) stS (fun b hb => Below.heap_setCell _ _ _ _ (by have := hlt1 b hb; simp; omega))
      have hb2 : Below wr.heap.size wr (w1.setCell ⟨wr.heap.size, 1, none⟩ (.slice A1 s.units.length c1')) := hbw.setCell (Nat.le_refl _) _
      have hb3 := hb2.alloc (by simp; omega) (.cells #[.int .i64 s.day, .slice A1 s.units.length c1'] 61)
      refine wpList_append_rep rfl shS shotE_ w.heap.size (.tmp 21) (.tmp 23) rfl rfl (hown.below shS hb3) rfl (ys := [s]) (SlRep.one_new shS ?hg ⟨_, rfl, hsl1⟩ ?hF1) ?F ?n (by decide) ?hbase ?_
      case hg => simp
      case hF1 => intro b' hb'; have := hlt1 b' hb'; simp; omega
      case F =>
        intro b' hb'
        refine ⟨?_, fun he => ?_⟩
        · rcases hb' with hb' | hb'
          · have := hlt1 b' hb'; simp; omega
          · simp; omega
        · have h3 := hlt3 b' he
          rcases hb' with hb' | hb'
          · have := hlt1 b' hb'; omega
          · omega
      case hbase => simp; omega
      case n => simp; omega
      intro v2 w2 hown2 hg2 hat2
      change World.grownBy _ w2 u3.ownBlock at hg2
      have hb4 := ((hb.trans (hb3.mono hsz)).grown hg2 (by simp; omega) (fun k hk => (hlt3 k hk).1))
      go_wp2
      go_roundw
      case rel => exact ⟨k + 1, by omega, by go_num, by rw [HT.out]; exact hown2, hb4⟩
      case measure => simp [intOf]; omega
    · go_wp2
      go_ret
      refine ⟨_, rfl, ?_, hb⟩
      rw [List.take_of_length_le (by omega)] at hown
      exact hown
end Go.Proofs.Ytgnaknanpgfpnaa
