/- The reference of chapter 49: Table. -/
import Derived.Test.YtgnaknanpgfpnaaRefI
namespace Go.Proofs.Ytgnaknanpgfpnaa
open Go.RowKit

def lastMk (acc : List (ByteArray × ByteArray)) : Option ByteArray := (acc[acc.length - 1]?).map (·.1)
def rtabG (hs : List Shot) : List Given → List (ByteArray × ByteArray) → List (ByteArray × ByteArray)
  | [], acc => acc
  | g :: r, acc => if markAt hs ((hs.length : Int) - 1) g.unit = g.mark ∨ lastMk acc = some g.mark then rtabG hs r acc else rtabG hs r (acc ++ [(g.mark, markAt hs ((hs.length : Int) - 1) g.unit)])
def refTable (hs : List Shot) : List (ByteArray × ByteArray) := if refCheck hs ≠ 0 then [] else rtabG hs (refCollect hs) []
theorem rtable_bad (hs : List Shot) (v : Value) (w : World) (B : Nat) (hB : B ≤ w.heap.size) (h : Shots w B hs v) (hp : refCheck hs ≠ 0) :
    Calls Try.prog 20 #[v] w fun e w' => e = .returned (.tuple #[.slice none 0 0, .int .i64 1]) ∧ Below w.heap.size w w' := by
  have HC := Lib.hid (rcollect_bad hs _ _ B hB h hp)
  obtain ⟨A, c, rfl, hc1, hc2, _⟩ := id h
  go_enter Try.func20, Try.ntmps20
  go_wp2_with fail
  refine HC.out.mono ?_
  rintro e w1 ⟨rfl, hb1⟩
  go_wp2
  go_ret2
  exact ⟨rfl, hb1⟩

set_option maxRecDepth 100000 in
set_option maxHeartbeats 4000000 in
theorem rtable_ok (hs : List Shot) (v : Value) (w : World) (B : Nat) (hB : B ≤ w.heap.size) (h : Shots w B hs v) (hp : refCheck hs = 0) (hl64 : hs.length ≤ 64) (hfew : ∀ s ∈ hs, s.units.length ≤ 256) (hlen : (refCollect hs).length ≤ 16384) :
    Calls Try.prog 20 #[v] w fun e w' => ∃ v', e = .returned (.tuple #[v', .int .i64 0]) ∧ Pairs w' w'.heap.size (refTable hs) v' ∧ Below w.heap.size w w' := by
  have HC := Lib.hid (rcollect_ok hs _ _ B hB h hp hl64 hfew)
  have HE := Lib.hid (show refTable hs = rtabG hs ((refCollect hs).drop 0) [] by simp [refTable, hp])
  clear hp hfew
  obtain ⟨A, c, rfl, hc1, hc2, _⟩ := id h
  go_enter Try.func20, Try.ntmps20
  go_wp2_with fail
  refine HC.out.mono ?_
  rintro e w1 ⟨v1, rfl, hown, hb1⟩
  have hs1 := hb1.size
  have hsl := hown.toSl giS
  obtain ⟨A2, c2, rfl, hq1, hq2, -⟩ := id hsl
  clear HC
  go_wp2
  go_loopw [6, 7] (fun o i wr => ∃ (k : Nat) (acc : List (ByteArray × ByteArray)), k ≤ (refCollect hs).length ∧ i = .int .i64 k ∧ OwnRep 2 (flat pairEnc) 40 w1.heap.size wr acc o ∧ acc.length ≤ k ∧ Hid (refTable hs = rtabG hs ((refCollect hs).drop k) acc) ∧ Below w1.heap.size w1 wr) (fun _ i _ => (refCollect hs).length - (intOf i).toNat)
  case atStart => exact ⟨0, [], Nat.zero_le _, rfl, OwnRep.nil_, by simp, HE, Below.refl _ _⟩
  case round =>
    obtain ⟨k, acc, hk, rfl, hacc, hal, HS, hb⟩ := hrel
    clear HE
    have hsz := hb.size
    have hbw := hb1.trans (hb.mono (by omega))
    obtain ⟨A3, c3, ho3, hle3, hc3, -⟩ := id (hacc.toSl paS)
    subst ho3
    by_cases hlt : k < (refCollect hs).length
    · obtain ⟨g, hx⟩ := get_at (refCollect hs) hlt
      have HD := Lib.hid (drop_at hx)
      have hslr := hsl.below giS hb
      obtain ⟨b, off, rfl, hbB, g0, g1, g2, g3⟩ := Givens.at_ hslr hx
      have hbr : b < wr.heap.size := by omega
      clear hx
      have HM := Lib.hid (mark_any ((hs.length : Int) - 1) g.unit hs _ wr B (by omega) (h.below shS (hbw.mono hB)))
      obtain ⟨m, hm⟩ : ∃ m, m = markAt hs ((hs.length : Int) - 1) g.unit := ⟨_, rfl⟩
      have HR := Lib.hid (show refTable hs = if m = g.mark ∨ lastMk acc = some g.mark then rtabG hs ((refCollect hs).drop (k + 1)) acc else rtabG hs ((refCollect hs).drop (k + 1)) (acc ++ [(g.mark, m)]) by rw [HS.out, HD.out, hm]; rfl)
      rw [← hm] at HM
      clear hm
      go_wp2_with fail
      refine HM.out.mono ?_
      rintro e w3 ⟨rfl, hb3⟩
      have hs3 := hb3.size
      have hacc3 := hacc.below paS hb3
      have hbw3 := hb.trans (hb3.mono hsz)
      have q0 := (hb3.cell (p := ⟨b, off + k * 4, none⟩) hbr).trans g0
      have hbr3 : b < w3.heap.size := by omega
      clear g0 g1 g2 g3 HM
      have hcs : (m.toList == g.mark.toList) = true ∧ refTable hs = rtabG hs ((refCollect hs).drop (k + 1)) acc ∨
          (m.toList == g.mark.toList) = false ∧ ((∃ y b4 off4, A3 = some ⟨b4, off4, none⟩ ∧ 0 < acc.length ∧ w3.cell? ⟨b4, off4 + (acc.length - 1) * 2, none⟩ = some (.string y) ∧ (y.toList == g.mark.toList) = true) ∧ refTable hs = rtabG hs ((refCollect hs).drop (k + 1)) acc ∨
            ((acc.length = 0) ∨ ∃ y b4 off4, A3 = some ⟨b4, off4, none⟩ ∧ 0 < acc.length ∧ w3.cell? ⟨b4, off4 + (acc.length - 1) * 2, none⟩ = some (.string y) ∧ (y.toList == g.mark.toList) = false) ∧ refTable hs = rtabG hs ((refCollect hs).drop (k + 1)) (acc ++ [(g.mark, m)])) := by
        by_cases h1 : m = g.mark
        · exact .inl ⟨by simp [h1], by rw [HR.out, if_pos (.inl h1)]⟩
        · refine .inr ⟨by rw [str_eq]; simpa using h1, ?_⟩
          by_cases h0 : acc.length = 0
          · refine .inr ⟨.inl h0, ?_⟩
            have : lastMk acc = none := by rw [List.eq_nil_of_length_eq_zero h0]; rfl
            rw [HR.out, if_neg (by rintro (h | h); exact h1 h; rw [this] at h; cases h)]
          · obtain ⟨y, hy⟩ := get_at acc (show acc.length - 1 < acc.length by omega)
            obtain ⟨b4, off4, rfl, _, z0, -⟩ := Pairs.at_ (hacc3.toSl paS) hy
            have hl : lastMk acc = some y.1 := by unfold lastMk; rw [hy]; rfl
            by_cases h2 : y.1 = g.mark
            · exact .inl ⟨⟨y.1, b4, off4, rfl, by omega, z0, by simp [h2]⟩, by rw [HR.out, if_pos (.inr (by rw [hl, h2]))]⟩
            · exact .inr ⟨.inr ⟨y.1, b4, off4, rfl, by omega, z0, by rw [str_eq]; simpa using h2⟩, by rw [HR.out, if_neg (by rintro (h | h); exact h1 h; rw [hl] at h; injection h with h; exact h2 h)]⟩
      have hlta := hacc3.own_lt
      rcases hcs with ⟨hm1, hR2⟩ | ⟨hm1, ⟨⟨y, b4, off4, rfl, hpos, z0, hy⟩, hR2⟩ | ⟨hlst, hR2⟩⟩
      · have HR2 := Lib.hid hR2
        clear hR2
        go_wp2
        go_quiet (fail)
        go_wp2
        go_roundw
        case rel => exact ⟨k + 1, acc, by omega, by go_num, hacc3.below paS (below_drewN (Below.refl _ _) _), by omega, HR2, below_drewN hbw3 _⟩
        case measure => simp [intOf]; omega
      · have HR2 := Lib.hid hR2
        clear hR2
        have hpos1 : (1 : Int) ≤ acc.length := by omega
        go_wp2
        go_quiet (fail)
        go_wp2
        go_roundw
        case rel => exact ⟨k + 1, acc, by omega, by go_num, hacc3.below paS (below_drewN (Below.refl _ _) _), by omega, HR2, below_drewN hbw3 _⟩
        case measure => simp [intOf]; omega
      · have HR2 := Lib.hid hR2
        clear hR2
        rcases hlst with h0 | ⟨y, b4, off4, rfl, hpos, z0, hy⟩
        · obtain rfl : acc = [] := List.eq_nil_of_length_eq_zero h0
          clear h0
          go_wp2
          go_quiet (fail)
          go_wp2_with (at_builtin; refine stop_intro ?_)
          refine stop_elim ?_
          refine wpList_append_rep rfl paS pairE_ w1.heap.size (.tmp 60) (.tmp 68) rfl rfl ((hacc3.below paS (below_drewN (Below.refl _ _) _)).alloc paS _) rfl (ys := [(g.mark, m)]) (SlRep.one_new paS (F := fun _ => False) rfl (rfl : [Value.string g.mark, Value.string m] = _) (fun _ h => h.elim)) ?_ ?_ (by decide) ?_ ?_
          · intro bb hbb
            rcases hbb with hbb | hbb
            · exact hbb.elim
            · subst hbb
              exact ⟨by simp, fun he => by have := hlta _ he; omega⟩
          · simp
          · simp; omega
          intro v6 w6 hown6 hg6 hat6
          have hb6 := ((below_drewN hbw3 nq).alloc (by show _ ≤ w3.heap.size; omega) _).grown hg6 (by simp; omega) (fun k hk => (hlta k hk).1)
          go_wp2
          go_roundw
          case rel => exact ⟨k + 1, _, by omega, by go_num, hown6, by simp, HR2, hb6⟩
          case measure => simp [intOf]; omega
        · have hpos1 : (1 : Int) ≤ acc.length := by omega
          go_wp2
          go_quiet (fail)
          go_wp2_with (at_builtin; refine stop_intro ?_)
          refine stop_elim ?_
          refine wpList_append_rep rfl paS pairE_ w1.heap.size (.tmp 60) (.tmp 68) rfl rfl ((hacc3.below paS (below_drewN (Below.refl _ _) _)).alloc paS _) rfl (ys := [(g.mark, m)]) (SlRep.one_new paS (F := fun _ => False) rfl (rfl : [Value.string g.mark, Value.string m] = _) (fun _ h => h.elim)) ?_ ?_ (by decide) ?_ ?_
          · intro bb hbb
            rcases hbb with hbb | hbb
            · exact hbb.elim
            · subst hbb
              exact ⟨by simp, fun he => by have := hlta _ he; omega⟩
          · simp; omega
          · simp; omega
          intro v6 w6 hown6 hg6 hat6
          have hb6 := ((below_drewN hbw3 nq).alloc (by show _ ≤ w3.heap.size; omega) _).grown hg6 (by simp; omega) (fun k hk => (hlta k hk).1)
          go_wp2
          go_roundw
          case rel => exact ⟨k + 1, _, by omega, by go_num, hown6, by simp; omega, HR2, hb6⟩
          case measure => simp [intOf]; omega
    · go_wp2
      go_ret2
      refine ⟨_, rfl, ?_, hbw⟩
      rw [HS.out, List.drop_of_length_le (by omega)]
      exact hacc.toSl paS
end Go.Proofs.Ytgnaknanpgfpnaa
