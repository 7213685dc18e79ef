/- SearchPieces returns true. -/
import Derived.Test.YtngodakkdhdmjaaGreatDoorAw6
namespace Go.Proofs.YtngodakkdhdmjaaGreatDoor
open Go.RowKit

theorem pieces_page {h : List Hit} {f z : Nat} (hf : f < h.length) (hz : 1 ≤ z) : h.take f ++ pageF h f z = h.take (f + z) ∧ (pageF h f z).length ≤ z := by
  rw [page_yes (by omega) (by omega) (by omega), Int.toNat_natCast, Int.toNat_natCast]
  refine ⟨?_, by rw [List.length_take]; omega⟩
  rw [List.take_add]
set_option maxRecDepth 100000 in
set_option maxHeartbeats 8000000 in
theorem pieces_law (hs : List Hit) (n : Int) (v : Value) (w : World) (B : Nat) (hB : B ≤ w.heap.size) (hh : Hits w B hs v) (hV : VarOk w) (hn : 0 ≤ n ∧ n ≤ 255) :
    Calls Tryz.prog 6 #[v, .int .u8 n] w fun e w' => e = .returned (.bool true) ∧ Below w.heap.size w w' := by
  have HAW := Lib.hid (awake6_c w hV)
  have HHR := Lib.hid (fun (W : World) (hW : Below w.heap.size w W) => (hh.below hitS (hW.mono hB) : Hits W B hs v))
  obtain ⟨A, c, rfl, hc1, hc2, -⟩ := id hh
  clear hh hV
  obtain ⟨hn1, hn2⟩ := hn
  by_cases h40 : 40 < hs.length
  · have h40' : decide ((40 : Int) < (hs.length : Int)) = true := decide_eq_true (by omega)
    clear HHR
    go_enter Tryz.func6, Tryz.ntmps6
    go_wp2_with fail
    refine HAW.out.mono ?_
    rintro e w1 ⟨rfl, b1⟩
    go_wp2
    go_ret
    exact ⟨rfl, b1⟩
  · have h40' : decide ((40 : Int) < (hs.length : Int)) = false := decide_eq_false (by omega)
    have HC1 := Lib.hid (fun (W : World) (hW : Below w.heap.size w W) => cloneH_c hs _ W B (Nat.le_trans hB hW.size) (HHR.out W hW) (by omega))
    go_enter Tryz.func6, Tryz.ntmps6
    go_wp2_with fail
    refine HAW.out.mono ?_
    rintro e w1 ⟨rfl, b1⟩
    go_wp2
    obtain ⟨z, hz⟩ : ∃ z : Nat, 1 + n % 10 = (z : Int) := ⟨(1 + n % 10).toNat, by omega⟩
    have hz1 : 1 ≤ z := by omega
    have hz2 : z ≤ 10 := by omega
    rw [hz]
    clear hz
    have HPG := Lib.hid (fun (f : Nat) (v1 : Value) (W : World) (h1 : Hits W W.heap.size hs v1) (hf : f ≤ 100) => page_c hs f z v1 W W.heap.size (Nat.le_refl _) h1 (by omega) (by omega) (by omega))
    have HEQ := Lib.hid (fun (v1 : Value) (W : World) (hW : Below w.heap.size w W) (h1 : Hits W W.heap.size hs v1) => equalH_c hs (by omega) v1 _ W W.heap.size (Nat.le_refl _) h1 ((HHR.out W hW).mono hitS (Nat.le_trans hB hW.size)))
    have HPP := Lib.hid (fun (f : Nat) (hf : f < hs.length) => pieces_page hf hz1)
    have HPE := Lib.hid (show pageF hs (hs.length : Nat) z = [] from page_no (by omega))
    have hl40 : hs.length ≤ 40 := by omega
    clear HHR
    go_loopw [6, 7] (fun o i wr => ∃ f : Nat, f ≤ hs.length + 10 ∧ i = .int .i64 f ∧ OwnRep 2 (flat Hit.enc) 30 w1.heap.size wr (hs.take f) o ∧ Below w1.heap.size w1 wr) (fun _ i _ => hs.length + 10 - (intOf i).toNat)
    case atStart => exact ⟨0, by omega, rfl, by rw [List.take_zero]; exact OwnRep.nil_, Below.refl _ _⟩
    case round =>
      obtain ⟨f, hf, rfl, hown, bw⟩ := hrel
      have b2 := b1.trans (bw.mono b1.size)
      by_cases hlt : f < hs.length
      · have hfi : decide ((f : Int) < (hs.length : Int)) = true := decide_eq_true (by omega)
        obtain ⟨p1, p2⟩ := HPP.out f hlt
        have HP1 := Lib.hid p1
        have HP2 := Lib.hid p2
        have hwf : IntKind.i64.wrap ((f : Int) + (z : Int)) = (f : Int) + (z : Int) := IntWalk.i64_in _ (by omega)
        have HTL := Lib.hid (show (hs.take f).length ≤ 40 by rw [List.length_take]; omega)
        have hlo := hown.own_lt
        obtain ⟨Ao, no, co, rfl, -⟩ := own_form hitS hown
        have HPX := Lib.hid (fun v1 W h1 => HPG.out f v1 W h1 (by omega))
        clear p1 p2
        generalize pageF hs f z = P at *
        generalize hs.take f = T at *
        go_wp2_with fail
        refine (HC1.out _ b2).mono ?_
        rintro e w3 ⟨v3, rfl, h3, hb3⟩
        have HPY := Lib.hid (HPX.out v3 w3 (h3.toSl hitS))
        obtain ⟨A3, n3, c3, rfl, -⟩ := own_form hitS h3
        have bw3 := bw.trans (hb3.mono bw.size)
        have hown3 := hown.below hitS hb3
        have hs3 := hb3.size
        clear h3 HPX hown hb3
        go_wp2_with fail
        refine HPY.out.mono ?_
        rintro e w4 ⟨v4, rfl, h4, hb4⟩
        have bw4 := bw3.trans (hb4.mono bw3.size)
        have hown4 := hown3.below hitS hb4
        have hlo4 := h4.own_lt
        have hs4 := h4.toFlat hitS
        obtain ⟨A4, n4, c4, rfl, hn4⟩ := own_form hitS h4
        have hn4' : n4 = P.length := hn4.out
        have hzz : decide (z < n4) = false := decide_eq_false (by have := HP2.out; omega)
        have HPL := Lib.hid (show P.length ≤ 10 by have := HP2.out; omega)
        have hs34 := hb4.size
        have kF : ∀ b', Value.ownBlock (.slice A4 n4 c4) = some b' → b' < w4.heap.size ∧ Value.ownBlock (.slice Ao no co) ≠ some b' := fun b' hb' => ⟨(hlo4 b' hb').2, fun e => by
          have := (hlo4 b' hb').1
          have := (hlo b' e).2
          omega⟩
        have kN : T.length + P.length ≤ 4294967296 := by have := HPL.out; have := HTL.out; omega
        clear hn4' hown3 h4 hb4 HPY
        go_wp2_with (at_builtin; refine stop_intro ?_)
        refine stop_elim ?_
        refine wpList_append_rep rfl hitS hitE_ w1.heap.size (.tmp 34) (.tmp 35) rfl rfl hown4 rfl (ys := P) (F := fun b => Value.ownBlock (.slice A4 n4 c4) = some b) ?src ?F ?n (by decide) ?hbase ?_
        case src => exact hs4
        case F => exact kF
        case n => exact kN
        case hbase => exact bw4.size
        intro v6 w6 hown6 hg6 hat6
        have b6 := bw4.grown hg6 bw4.size (fun j hj => (hlo j hj).1)
        rw [HP1.out] at hown6
        obtain ⟨A6, n6, c6, rfl, -⟩ := own_form hitS hown6
        clear hg6 hat6 hown4
        go_wp2
        go_roundw
        case rel => exact ⟨f + z, by omega, by simp, hown6, b6⟩
        case measure => simp [intOf]; omega
      · have hfi : decide ((f : Int) < (hs.length : Int)) = false := decide_eq_false (by omega)
        rw [List.take_of_length_le (by omega)] at hown
        have HEX := Lib.hid (HEQ.out _ _ b2 (hown.toSl hitS))
        obtain ⟨Ao, no, co, rfl, -⟩ := own_form hitS hown
        have HPX := Lib.hid (fun v1 W h1 => HPG.out hs.length v1 W h1 (by omega))
        rw [HPE.out] at HPX
        clear hown HEQ
        go_wp2_with fail
        refine HEX.out.mono ?_
        rintro e w3 ⟨rfl, hb3⟩
        have b3 := b2.trans (hb3.mono b2.size)
        go_wp2_with fail
        refine (HC1.out _ b3).mono ?_
        rintro e w4 ⟨v4, rfl, h4, hb4⟩
        have b4 := b3.trans (hb4.mono b3.size)
        have HPY := Lib.hid (HPX.out v4 w4 (h4.toSl hitS))
        obtain ⟨A4, n4, c4, rfl, -⟩ := own_form hitS h4
        clear h4 HPX
        go_wp2_with fail
        refine HPY.out.mono ?_
        rintro e w5 ⟨v5, rfl, h5, hb5⟩
        obtain ⟨A5, n5, c5, rfl, hn5⟩ := own_form hitS h5
        have hn5' : n5 = 0 := hn5.out
        subst hn5'
        go_wp2
        go_ret
        exact ⟨rfl, b4.trans (hb5.mono b4.size)⟩
end Go.Proofs.YtngodakkdhdmjaaGreatDoor
