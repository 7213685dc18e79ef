/- The reference of chapter 49: Marks. -/
import Derived.Test.YtgnaknanpgfpnaaRefH
namespace Go.Proofs.Ytgnaknanpgfpnaa
open Go.RowKit

def rmarksG (u : Int) : List Shot → List ByteArray → List ByteArray
  | [], acc => acc
  | x :: r, acc => if (markIn x u).size ≠ 0 ∧ hasB acc (markIn x u) = false then rmarksG u r (acc ++ [markIn x u]) else rmarksG u r acc
def refMarks (hs : List Shot) (u : Int) : List ByteArray := if refCheck hs ≠ 0 then [] else rmarksG u hs []
set_option maxHeartbeats 2000000 in
theorem rmarks_c (u : Int) (hs : List Shot) (v : Value) (w : World) (B : Nat) (hB : B ≤ w.heap.size) (h : Shots w B hs v) (hl : hs.length ≤ 65) :
    Calls Try.prog 29 #[v, .int .i64 u] w fun e w' => ∃ v', e = .returned v' ∧ Strs w' w'.heap.size (refMarks hs u) v' ∧ Below w.heap.size w w' := by
  have HC := Lib.hid (refCheck_c hs _ _ B hB h)
  obtain ⟨A, c, rfl, hc1, hc2, _⟩ := id h
  by_cases hp : refCheck hs = 0
  · have HE := Lib.hid (show refMarks hs u = rmarksG u (hs.drop 0) [] by simp [refMarks, hp])
    rw [hp] at HC
    clear hp
    go_enter Try.func29, Try.ntmps29
    go_wp2_with fail
    refine HC.out.mono ?_
    rintro e w1 ⟨rfl, hb1⟩
    have hs1 := hb1.size
    go_wp2
    go_loopw [5, 6] (fun o i wr => ∃ (k : Nat) (acc : List ByteArray), k ≤ hs.length ∧ i = .int .i64 k ∧ OwnRep 1 (flat strEnc) 9 w.heap.size wr acc o ∧ acc.length ≤ k ∧ Hid (refMarks hs u = rmarksG u (hs.drop k) acc) ∧ Below w.heap.size w wr) (fun _ i _ => hs.length - (intOf i).toNat)
    case atStart => exact ⟨0, [], Nat.zero_le _, rfl, OwnRep.nil_, by simp, HE, hb1⟩
    case round =>
      obtain ⟨k, acc, hk, rfl, hacc, hal, HS, hb⟩ := hrel
      clear HE HC hb1 hs1
      have hsz := hb.size
      by_cases hlt : k < hs.length
      · obtain ⟨x, hx⟩ := get_at hs hlt
        have HD := Lib.hid (drop_at hx)
        have HM := Lib.hid (mark_in k u x hs _ wr B (by omega) (h.below shS (hb.mono hB)) hx)
        clear hx
        obtain ⟨m, hm⟩ : ∃ m, m = markIn x u := ⟨_, rfl⟩
        have HR := Lib.hid (show refMarks hs u = if m.size ≠ 0 ∧ hasB acc m = false then rmarksG u (hs.drop (k + 1)) (acc ++ [m]) else rmarksG u (hs.drop (k + 1)) acc by rw [HS.out, HD.out, hm]; rfl)
        rw [← hm] at HM
        clear hm
        go_wp2_with fail
        refine HM.out.mono ?_
        rintro e w3 ⟨rfl, hb3⟩
        have hs3 := hb3.size
        have hacc3 := hacc.below srS hb3
        have hbw3 := hb.trans (hb3.mono hsz)
        by_cases hm0 : m.size = 0
        · have hm1 : m.toList.isEmpty = true := by rw [str_empty]; simpa using hm0
          have hm2 : m.toList = [] := by simpa using hm1
          have HR2 := Lib.hid (show refMarks hs u = rmarksG u (hs.drop (k + 1)) acc by rw [HR.out, if_neg (fun e => e.1 hm0)])
          clear hm0
          go_wp2
          go_roundw
          case rel => exact ⟨k + 1, acc, by omega, by go_num, hacc3, by omega, HR2, hbw3⟩
          case measure => simp [intOf]; omega
        · have hm1 : m.toList.isEmpty = false := by rw [str_empty]; simpa using hm0
          have hm2 : ¬ m.toList = [] := by simpa using hm1
          have HCn := Lib.hid (rhas_c m acc _ w3 w3.heap.size (Nat.le_refl _) (hacc3.toSl srS))
          cases hh : hasB acc m
          · have HR2 := Lib.hid (show refMarks hs u = rmarksG u (hs.drop (k + 1)) (acc ++ [m]) by rw [HR.out, if_pos ⟨hm0, hh⟩])
            rw [hh] at HCn
            clear hh hm0
            go_wp2_with fail
            refine HCn.out.mono ?_
            rintro e w4 ⟨rfl, rfl⟩
            have hlta := hacc3.own_lt
            go_wp2_with (at_builtin; refine stop_intro ?_)
            refine stop_elim ?_
            refine wpList_append_rep rfl srS stringE_ w.heap.size (.tmp 29) (.tmp 31) rfl rfl (hacc3.alloc srS _) rfl (ys := [m]) (SlRep.one_new srS (F := fun _ => False) ?hg (rfl : [Value.string m] = _) ?hF1) ?F ?n (by decide) ?hbase ?_
            case hg => rfl
            case hF1 => exact fun _ h => h.elim
            case F =>
              intro bb hbb
              rcases hbb with hbb | hbb
              · exact hbb.elim
              · subst hbb
                exact ⟨by simp, fun he => by have := hlta _ he; omega⟩
            case hbase => simp; omega
            case n => simp; omega
            intro v6 w6 hown6 hg6 hat6
            have hb6 := (hbw3.alloc (by omega) _).grown hg6 (by simp; omega) (fun k hk => (hlta k hk).1)
            go_wp2
            go_roundw
            case rel => exact ⟨k + 1, _, by omega, by go_num, hown6, by simp; omega, HR2, hb6⟩
            case measure => simp [intOf]; omega
          · have HR2 := Lib.hid (show refMarks hs u = rmarksG u (hs.drop (k + 1)) acc by rw [HR.out, if_neg (fun e => by rw [hh] at e; cases e.2)])
            rw [hh] at HCn
            clear hh hm0
            go_wp2_with fail
            refine HCn.out.mono ?_
            rintro e w4 ⟨rfl, rfl⟩
            go_wp2
            go_roundw
            case rel => exact ⟨k + 1, acc, by omega, by go_num, hacc3, by omega, HR2, hbw3⟩
            case measure => simp [intOf]; omega
      · go_wp2
        go_ret
        refine ⟨_, rfl, ?_, hb⟩
        rw [HS.out, List.drop_of_length_le (by omega)]
        exact hacc.toSl srS
  · have HE := Lib.hid (show refMarks hs u = [] by simp [refMarks, hp])
    have hp1 : (refCheck hs != 0) = true := by simpa using hp
    have hp2 : (refCheck hs == 0) = false := by simpa using hp
    go_enter Try.func29, Try.ntmps29
    go_wp2_with fail
    refine HC.out.mono ?_
    rintro e w1 ⟨rfl, hb1⟩
    go_wp2
    go_ret
    exact ⟨_, rfl, by rw [HE.out]; exact SlRep.nil_, hb1⟩
end Go.Proofs.Ytgnaknanpgfpnaa
