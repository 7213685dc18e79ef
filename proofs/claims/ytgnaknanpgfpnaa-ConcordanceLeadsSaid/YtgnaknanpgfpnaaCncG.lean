/- The program's concordance: Marks. -/
import Derived.Test.YtgnaknanpgfpnaaCncF
import Derived.Test.YtgnaknanpgfpnaaLibS
namespace Go.Proofs.Ytgnaknanpgfpnaa
open Go.RowKit

def marksG (u : Int) : List Given → List ByteArray → List ByteArray
  | [], acc => acc
  | g :: r, acc => if g.unit = u ∧ hasB acc g.mark = false then marksG u r (acc ++ [g.mark]) else marksG u r acc
def progMarks (hs : List Shot) (u : Int) : List ByteArray := if progCheck hs ≠ 0 then [] else marksG u (givenP hs) []
set_option maxHeartbeats 2000000 in
theorem marks_p (u : Int) (hs : List Shot) (v : Value) (w : World) (B : Nat) (hB : B ≤ w.heap.size) (h : Shots w B hs v) :
    Calls Try.prog 28 #[v, .int .i64 u] w fun e w' => ∃ v', e = .returned v' ∧ Strs w' w'.heap.size (progMarks hs u) v' ∧ Below w.heap.size w w' := by
  have HC := Lib.hid (progCheck_c hs _ _ B hB h)
  obtain ⟨A, c, rfl, hc1, hc2, _⟩ := id h
  by_cases hp : progCheck hs = 0
  · have HE := Lib.hid (show progMarks hs u = marksG u ((givenP hs).drop 0) [] by simp [progMarks, hp])
    have hg := good_of hp
    have hfew := Lib.hid (good_few hs _ _ hg.2)
    have hlen := given_len hp
    rw [hp] at HC
    have hl64 := hg.1
    clear hp hg
    go_enter Try.func28, Try.ntmps28
    go_wp2_with fail
    refine HC.out.mono ?_
    rintro e w1 ⟨rfl, hb1⟩
    have hs1 := hb1.size
    go_wp2_with fail
    refine (given_c hs _ _ B (by omega) (h.below shS (hb1.mono hB)) hl64 hfew.out).mono ?_
    rintro e w2 ⟨v2, rfl, hown, hb2⟩
    have hs2 := hb2.size
    have hsl := hown.toSl giS
    obtain ⟨A2, c2, rfl, hq1, hq2, -⟩ := id hsl
    have hb12 := hb1.trans (hb2.mono hs1)
    go_wp2
    go_loopw [5, 14] (fun o i wr => ∃ (k : Nat) (acc : List ByteArray), k ≤ (givenP hs).length ∧ i = .int .i64 k ∧ OwnRep 1 (flat strEnc) 9 w2.heap.size wr acc o ∧ acc.length ≤ k ∧ Hid (progMarks hs u = marksG u ((givenP hs).drop k) acc) ∧ Below w2.heap.size w2 wr) (fun _ i _ => (givenP hs).length - (intOf i).toNat)
    case atStart => exact ⟨0, [], Nat.zero_le _, rfl, OwnRep.nil_, by simp, HE, Below.refl _ _⟩
    case round =>
      obtain ⟨k, acc, hk, rfl, hacc, hal, HS, hb⟩ := hrel
      clear HE
      have hsz := hb.size
      have hbw := hb12.trans (hb.mono (by omega))
      obtain ⟨A3, c3, ho3, hle3, hc3, -⟩ := id (hacc.toSl srS)
      subst ho3
      by_cases hlt : k < (givenP hs).length
      · obtain ⟨g, hx⟩ := get_at (givenP hs) hlt
        have HD := Lib.hid (drop_at hx)
        obtain ⟨b, off, rfl, hbB, g0, g1, g2, g3⟩ := Givens.at_ (hsl.below giS hb) hx
        have hbr : b < wr.heap.size := by omega
        clear hx
        have hx1 : Below wr.heap.size wr (wr.alloc (.cells #[.string g.mark, .int .i64 g.unit, .int .i64 g.from_, .int .i64 g.until_] 38)) := (Below.refl _ _).alloc (Nat.le_refl _) _
        have hacc1 := hacc.below srS hx1
        have hb3 := hb.trans (hx1.mono hsz)
        by_cases hgu : g.unit = u
        · have hu1 : (g.unit == u) = true := by simpa using hgu
          have HCn := Lib.hid (scontains_c g.mark acc _ _ (wr.heap.size + 1) (by simp) ((hacc1.toSl srS).mono srS (by simp)))
          cases hh : hasB acc g.mark
          · have HR := Lib.hid (show progMarks hs u = marksG u ((givenP hs).drop (k + 1)) (acc ++ [g.mark]) by rw [HS.out, HD.out]; simp [marksG, hgu, hh])
            rw [hh] at HCn
            clear hh hgu
            go_wp2_with fail
            refine HCn.out.mono ?_
            rintro e w4 ⟨rfl, rfl⟩
            have hlta := hacc.own_lt
            go_wp2_with (at_builtin; refine stop_intro ?_)
            refine stop_elim ?_
            refine wpList_append_rep rfl srS stringE_ w2.heap.size (.tmp 29) (.tmp 32) rfl rfl (hacc1.alloc srS _) rfl (ys := [g.mark]) (SlRep.one_new srS (F := fun _ => False) ?hg (rfl : [Value.string g.mark] = _) ?hF1) ?F ?n (by decide) ?hbase ?_
            case hg => simp
            case hF1 => exact fun _ h => h.elim
            case F =>
              intro bb hbb
              rcases hbb with hbb | hbb
              · exact hbb.elim
              · subst hbb
                exact ⟨by simp, fun he => by have := hacc.own_lt _ he; omega⟩
            case hbase => simp; omega
            case n => simp; omega
            intro v6 w6 hown6 hg6 hat6
            change World.grownBy _ w6 (Value.ownBlock (.slice A3 acc.length c3)) at hg6
            have hb6 := (hb3.alloc (by simp; omega) _).grown hg6 (by simp; omega) (fun k hk => (hlta k hk).1)
            go_wp2
            go_roundw
            case rel => exact ⟨k + 1, _, by omega, by go_num, hown6, by simp; omega, HR, hb6⟩
            case measure => simp [intOf]; omega
          · have HR := Lib.hid (show progMarks hs u = marksG u ((givenP hs).drop (k + 1)) acc by rw [HS.out, HD.out]; simp [marksG, hh])
            rw [hh] at HCn
            clear hh hgu
            go_wp2_with fail
            refine HCn.out.mono ?_
            rintro e w4 ⟨rfl, rfl⟩
            go_wp2
            go_roundw
            case rel => exact ⟨k + 1, acc, by omega, by go_num, hacc1, by omega, HR, hb3⟩
            case measure => simp [intOf]; omega
        · have hu1 : (g.unit == u) = false := by simpa using hgu
          have HR := Lib.hid (show progMarks hs u = marksG u ((givenP hs).drop (k + 1)) acc by rw [HS.out, HD.out]; simp [marksG, hgu])
          go_wp2
          go_roundw
          case rel => exact ⟨k + 1, acc, by omega, by go_num, hacc1, by omega, HR, hb3⟩
          case measure => simp [intOf]; omega
      · go_wp2
        go_ret
        refine ⟨_, rfl, ?_, hbw⟩
        rw [HS.out, List.drop_of_length_le (by omega)]
        exact hacc.toSl srS
  · have HE := Lib.hid (show progMarks hs u = [] by simp [progMarks, hp])
    have hp1 : (progCheck hs != 0) = true := by simpa using hp
    have hp2 : (progCheck hs == 0) = false := by simpa using hp
    go_enter Try.func28, Try.ntmps28
    go_wp2_with fail
    refine HC.out.mono ?_
    rintro e w1 ⟨rfl, hb1⟩
    go_wp2
    go_ret
    exact ⟨_, rfl, by rw [HE.out]; exact SlRep.nil_, hb1⟩
end Go.Proofs.Ytgnaknanpgfpnaa
