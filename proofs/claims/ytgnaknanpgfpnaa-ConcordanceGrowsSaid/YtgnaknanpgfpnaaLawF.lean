/- The statement ConcordanceGrows, walked. -/
import Derived.Test.YtgnaknanpgfpnaaLawB
import Derived.Test.YtgnaknanpgfpnaaClos
import Derived.Test.YtgnaknanpgfpnaaStep
namespace Go.Proofs.Ytgnaknanpgfpnaa
open Go.RowKit

set_option maxRecDepth 100000 in
set_option maxHeartbeats 4000000 in
theorem grows_c (hs : List Shot) (mo : Shot) (mu : Value) (v : Value) (w : World) (B : Nat) (hB : B ≤ w.heap.size) (h : Shots w B hs v) (hmu : Units w B mo.units mu) :
    Calls Try.prog 9 #[v, .agg #[.int .i64 mo.day, mu]] w fun e w' => e = .returned (.bool true) ∧ Below w.heap.size w w' := by
  obtain ⟨A, c, rfl, hc1, hc2, _⟩ := id h
  obtain ⟨Am, cm, rfl, hm1, hm2, _⟩ := id hmu
  have hbox : Below w.heap.size w (w.alloc (.cells #[.int .i64 mo.day, .slice Am mo.units.length cm] 61)) := (Below.refl _ _).alloc (Nat.le_refl _) _
  have KEEP := Lib.hid (fun (w' : World) (hW : Below (w.heap.size + 1) (w.alloc (.cells #[.int .i64 mo.day, .slice Am mo.units.length cm] 61)) w') => (⟨(hW.cell (p := ⟨w.heap.size, 0, none⟩) (by simp)).trans (by simp), (hW.cell (p := ⟨w.heap.size, 1, none⟩) (by simp)).trans (by simp)⟩ : w'.cell? ⟨w.heap.size, 0, none⟩ = some (.int .i64 mo.day) ∧ w'.cell? ⟨w.heap.size, 1, none⟩ = some (.slice Am mo.units.length cm)))
  go_enter Try.func9, Try.ntmps9
  go_wp2_with fail
  refine (awake_c _).mono ?_
  rintro e w1 ⟨rfl, hb1'⟩
  have hb1 : Below (w.heap.size + 1) (w.alloc (.cells #[.int .i64 mo.day, .slice Am mo.units.length cm] 61)) w1 := hb1'.mono (by simp)
  have hs1 := hb1.size
  simp only [World.size_alloc] at hs1
  have bw1 := hbox.trans (hb1.mono (Nat.le_succ _))
  have h1 := h.below shS (bw1.mono hB)
  obtain ⟨q0, q1⟩ := KEEP.out _ hb1
  have HF := Lib.hid (few_c hs _ w1 B (by omega) h1)
  clear hb1'
  go_wp2_with fail
  cases hf : fewE hs
  · rw [hf] at HF
    clear hf
    refine HF.out.mono ?_
    rintro e w2 ⟨rfl, rfl⟩
    go_wp2
    go_ret
    exact ⟨rfl, bw1⟩
  · rw [hf] at HF
    have hsm := (few_small hf).1
    have HSU := Lib.hid (few_small hf).2
    clear hf
    refine HF.out.mono ?_
    rintro e w2 ⟨rfl, rfl⟩
    clear HF
    have hmw := hmu.below stS (bw1.mono hB)
    have HF2 := Lib.hid (few_c [mo] (.slice (some ⟨w1.heap.size, 0, none⟩) 1 1) (w1.alloc (.cells #[.int .i64 mo.day, .slice Am mo.units.length cm] 61)) (w1.heap.size + 1) (by simp) ((SlRep.one_new shS (F := fun b => b < B) rfl ⟨_, rfl, hmw⟩ (fun b (hb : b < B) => by omega)).monoF shS (fun b hb => by rcases hb with hb | hb; exact (by omega : b < w1.heap.size + 1); exact (by omega : b < w1.heap.size + 1))))
    have bw2 := bw1.alloc (by omega) (.cells #[.int .i64 mo.day, .slice Am mo.units.length cm] 61)
    go_wp2_with fail
    cases hf2 : fewE [mo]
    · rw [hf2] at HF2
      clear hf2
      refine HF2.out.mono ?_
      rintro e w2 ⟨rfl, rfl⟩
      go_wp2
      go_ret
      exact ⟨rfl, bw2⟩
    · rw [hf2] at HF2
      clear hf2
      refine HF2.out.mono ?_
      rintro e w2 ⟨rfl, rfl⟩
      clear HF2
      by_cases hl11 : 11 < hs.length
      · have hl12 : (11 : Int) < hs.length := by omega
        go_wp2
        go_ret
        exact ⟨rfl, bw2⟩
      have hl12 : ¬ (11 : Int) < hs.length := by omega
      have hlt12 : decide ((11 : Int) < hs.length) = false := by simpa using hl12
      have hbz := hb1.alloc (by omega) (.cells #[.int .i64 mo.day, .slice Am mo.units.length cm] 61)
      clear q0 q1 h1 hmw
      go_upto_region 5 with fail
      generalize w1.alloc (.cells #[.int .i64 mo.day, .slice Am mo.units.length cm] 61) = wz at hbz bw2 ⊢
      obtain ⟨q0, q1⟩ := KEEP.out _ hbz
      have hsz := hbz.size
      simp only [World.size_alloc] at hsz
      have HCP := Lib.hid (fun (W : World) (hW : Below w.heap.size w W) => copy_c hs _ W B (by have := hW.size; omega) (h.below shS (hW.mono hB)) hsm HSU.out)
      have HMU := Lib.hid (fun (W : World) (hW : Below w.heap.size w W) => hmu.below stS (hW.mono hB))
      have kN : hs.length + [mo].length ≤ 4294967296 := by simp; omega
      go_cut [5] (fun s5 wx => Shots wx wx.heap.size (hs ++ [mo]) s5 ∧ Below (w.heap.size + 1) (w.alloc (.cells #[.int .i64 mo.day, .slice Am mo.units.length cm] 61)) wx)
      case first =>
        go_region_held3 (fun w' => w'.cell? ⟨w.heap.size, 0, none⟩ = some (.int .i64 mo.day) ∧ w'.cell? ⟨w.heap.size, 1, none⟩ = some (.slice Am mo.units.length cm)) (first | with_reducible exact KEEP.out _ hbz.drew | with_reducible exact KEEP.out _ (hbz.alloc (by omega) _).drew | with_reducible exact KEEP.out _ hb5 | with_reducible exact KEEP.out _ (hb5.alloc (by omega) _) | with_reducible exact KEEP.out _ hb6) (first
          | (go_at_call 13; (with_reducible refine (HCP.out _ bw2.drew).mono ?_); rintro e w5 ⟨v5, rfl, hown5, hb5'⟩; have hb5 := hbz.drew.trans (hb5'.mono (by simp; omega)); have hs5 := hb5.size; simp only [World.size_alloc] at hs5; have hlt5 := hown5.own_lt; simp only [World.size_drew] at hlt5; have hs5z := hb5'.size; simp only [World.size_drew] at hs5z; have kO := hown5.alloc shS (.cells #[.int .i64 mo.day, .slice Am mo.units.length cm] 61); have kS := SlRep.one_new shS (t := 61) (F := fun b => b < B) (w := w5) rfl ⟨_, rfl, HMU.out w5 (hbox.trans (hb5.mono (Nat.le_succ _)))⟩ (fun b (hb : b < B) => by omega); have kF : ∀ b, (b < B ∨ b = w5.heap.size) → b < (w5.alloc (.cells #[.int .i64 mo.day, .slice Am mo.units.length cm] 61)).heap.size ∧ v5.ownBlock ≠ some b := (fun b hb => ⟨by simp; omega, fun he => by have := hlt5 b he; omega⟩); have kB : wz.drew.heap.size ≤ (w5.alloc (.cells #[.int .i64 mo.day, .slice Am mo.units.length cm] 61)).heap.size := (by simp; omega); have kG := (hb5.alloc (by omega) (.cells #[.int .i64 mo.day, .slice Am mo.units.length cm] 61)); have kL : w.heap.size + 1 ≤ (w5.alloc (.cells #[.int .i64 mo.day, .slice Am mo.units.length cm] 61)).heap.size := (by simp; omega))
          | (go_at_call 13; (with_reducible refine (HCP.out _ (bw2.alloc (by omega) _).drew).mono ?_); rintro e w5 ⟨v5, rfl, hown5, hb5'⟩; have hb5 := (hbz.alloc (by omega) _).drew.trans (hb5'.mono (by simp; omega)); have hs5 := hb5.size; simp only [World.size_alloc] at hs5; have hlt5 := hown5.own_lt; simp only [World.size_drew, World.size_alloc] at hlt5; have hs5z := hb5'.size; simp only [World.size_drew, World.size_alloc] at hs5z; have kO := hown5; have kS := (SlRep.one_new shS (t := 61) (F := fun b => b < B) (w := wz) rfl ⟨_, rfl, HMU.out wz bw2⟩ (fun b (hb : b < B) => by omega)).frame shS (w' := w5) (fun b hb => hb5'.block b (by rcases hb with hb | hb; exact (by simp; omega); exact (by simp; omega))); have kF : ∀ b, (b < B ∨ b = wz.heap.size) → b < w5.heap.size ∧ v5.ownBlock ≠ some b := (fun b hb => ⟨by omega, fun he => by have := hlt5 b he; omega⟩); have kB : (wz.alloc (.cells #[.int .i64 mo.day, .slice Am mo.units.length cm] 61)).drew.heap.size ≤ w5.heap.size := (by simp; omega); have kG := hb5; have kL : w.heap.size + 1 ≤ w5.heap.size := hs5)
          | (refine step_append_rep rfl shS shotE_ _ (.tmp 31) (.tmp 33) rfl rfl kO rfl (ys := [mo]) kS kF kN (by decide) kB ?_; intro v6 w6 hown6 hg6 hat6; have hb6 := kG.grown hg6 kL (fun k hk => by have := (hlt5 k hk).1; omega)))
        all_goals (go_wp2_with fail; go_meet; exact ⟨hown6.toSl shS, hb6⟩)
      case rest =>
        obtain ⟨hlong, hbc⟩ := hcut
        obtain ⟨L, hL⟩ : ∃ L, L = hs ++ [mo] := ⟨_, rfl⟩
        rw [← hL] at hlong
        have HCL := Lib.hid (show progCheck L = 0 → progCheck hs = 0 from fun e => check_longer (by rw [← hL]; exact e))
        have HGL := Lib.hid (show progCheck L = 0 → ∀ g, g ∈ collectL hs → progHolder L g.mark = (g.unit, true) ∧ (collectL L).any (grownG g mo.day) = true from fun e g hg => by rw [hL]; exact grows_law (by rw [← hL]; exact e) hg)
        clear hL
        obtain ⟨A5, c5, hv5, -⟩ := id hlong
        subst hv5
        have bwc := hbox.trans (hbc.mono (Nat.le_succ _))
        have hsc := hbc.size
        simp only [World.size_alloc] at hsc
        clear q0 q1 hbz bw2 hsz HMU
        go_wp2_with fail
        refine (HCP.out _ bwc).mono ?_
        rintro e w7 ⟨v7, rfl, hown7, hb7'⟩
        have hs7 := hb7'.size
        have hb7 := hbc.trans (hb7'.mono (by omega))
        have hlong7 := (hlong.below shS hb7').mono shS hs7
        have hc7 := hown7.toSl shS
        clear hown7 hlong hb7'
        by_cases hp : progCheck hs = 0
        · have HP := Lib.hid hp
          have hlen := collect_len hp
          clear hp
          go_wp2_with fail
          refine (collect_ok hs _ w7 w7.heap.size (Nat.le_refl _) hc7 HP.out).mono ?_
          rintro e w8 ⟨v8, rfl, hown8, hb8'⟩
          have hs8 := hb8'.size
          have hb8 := hb7.trans (hb8'.mono (by omega))
          have hlong8 := (hlong7.below shS hb8').mono shS hs8
          have hl8 := hown8.toSl giS
          obtain ⟨A8, c8, rfl, hq1, hq2, -⟩ := id hl8
          clear hown8 hb8' hlong7 hc7
          by_cases hp2 : progCheck L = 0
          · have HP2 := Lib.hid hp2
            clear hp2
            go_wp2_with fail
            refine (collect_ok L _ w8 w8.heap.size (Nat.le_refl _) hlong8 HP2.out).mono ?_
            rintro e w9 ⟨v9, rfl, hown9, hb9'⟩
            have hs9 := hb9'.size
            have hb9 := hb8.trans (hb9'.mono (by omega))
            have hlong9 := (hlong8.below shS hb9').mono shS hs9
            have hl9 := (hl8.below giS hb9').mono giS hs9
            have hm9 := hown9.toSl giS
            obtain ⟨A9, c9, rfl, hq3, hq4, -⟩ := id hm9
            clear hown9 hb9' hlong8 hl8
            have hs9b := hb9.size
            simp only [World.size_alloc] at hs9b
            go_wp2
            go_loopw [60] (fun i wr => ∃ k : Nat, k ≤ (collectL hs).length ∧ i = .int .i64 k ∧ Below w9.heap.size w9 wr) (fun i _ => (collectL hs).length - (intOf i).toNat)
            case atStart => exact ⟨0, Nat.zero_le _, rfl, Below.refl _ _⟩
            case round =>
              obtain ⟨k, hk, rfl, hb⟩ := hrel
              have hsr := hb.size
              have hbr := hb9.trans (hb.mono (by omega))
              have bwr := hbox.trans (hbr.mono (Nat.le_succ _))
              by_cases hlt : k < (collectL hs).length
              · obtain ⟨g, hx⟩ := get_at (collectL hs) hlt
                obtain ⟨hho, hany⟩ := HGL.out HP2.out g (List.mem_of_getElem? hx)
                obtain ⟨b, off, rfl, hbB, g0, g1, g2, g3⟩ := Givens.at_ (hl9.below giS hb) hx
                have hbrw : b < wr.heap.size := by omega
                have hx1 : Below wr.heap.size wr (wr.alloc (.cells #[.string g.mark, .int .i64 g.unit, .int .i64 g.from_, .int .i64 g.until_] 38)) := (Below.refl _ _).alloc (Nat.le_refl _) _
                have b9x := hb.trans (hx1.mono (by omega))
                have KG := Lib.hid (fun (w' : World) (hW : Below (wr.heap.size + 1) (wr.alloc (.cells #[.string g.mark, .int .i64 g.unit, .int .i64 g.from_, .int .i64 g.until_] 38)) w') => (⟨(hW.cell (p := ⟨wr.heap.size, 0, none⟩) (by simp)).trans (by simp), (hW.cell (p := ⟨wr.heap.size, 1, none⟩) (by simp)).trans (by simp), (hW.cell (p := ⟨wr.heap.size, 2, none⟩) (by simp)).trans (by simp), (hW.cell (p := ⟨wr.heap.size, 3, none⟩) (by simp)).trans (by simp)⟩ : w'.cell? ⟨wr.heap.size, 0, none⟩ = some (.string g.mark) ∧ w'.cell? ⟨wr.heap.size, 1, none⟩ = some (.int .i64 g.unit) ∧ w'.cell? ⟨wr.heap.size, 2, none⟩ = some (.int .i64 g.from_) ∧ w'.cell? ⟨wr.heap.size, 3, none⟩ = some (.int .i64 g.until_)))
                have HHO := Lib.hid (holder_c g.mark L _ (wr.alloc (.cells #[.string g.mark, .int .i64 g.unit, .int .i64 g.from_, .int .i64 g.until_] 38)) w9.heap.size (by simp; omega) (hlong9.below shS b9x))
                rw [hho] at HHO
                have hne1 : (g.unit != g.unit) = false := by simp
                clear hho hx
                go_wp2_with fail
                refine HHO.out.mono ?_
                rintro e wH ⟨rfl, hbH'⟩
                have hbX : Below (wr.heap.size + 1) (wr.alloc (.cells #[.string g.mark, .int .i64 g.unit, .int .i64 g.from_, .int .i64 g.until_] 38)) wH := hbH'.mono (by simp)
                have hsH := hbX.size
                simp only [World.size_alloc] at hsH
                obtain ⟨x0, x1, x2, x3⟩ := KG.out _ hbX
                have b9H := b9x.trans (hbX.mono (by omega))
                have hbrH := (hbr.trans (hx1.mono (by omega))).trans (hbX.mono (by omega))
                have HCF := Lib.hid (containsGiW_c (.pointer (some ⟨wr.heap.size, 0, none⟩)) (.pointer (some ⟨w.heap.size, 0, none⟩)) (grownG g mo.day) (collectL L) _ wH w9.heap.size (by omega) (hm9.below giS b9H) (fun x W hW => by
                  obtain ⟨y0, y1, y2, y3⟩ := KG.out W (hbX.trans (hW.mono (by omega)))
                  have z0 := (KEEP.out W (hbrH.trans (hW.mono (by omega)))).1
                  exact grows1_c g mo.day wr.heap.size w.heap.size x W y0 y1 y2 y3 z0 (by have := hW.size; omega) (by have := hW.size; omega)))
                rw [hany] at HCF
                have hwH : wr.heap.size < wH.heap.size := by omega
                clear hany HHO
                go_wp2_with fail
                refine HCF.out.mono ?_
                rintro e wK ⟨rfl, hbK'⟩
                go_wp2
                go_roundw
                case rel => exact ⟨k + 1, by omega, by go_num, b9H.trans (hbK'.mono (by omega))⟩
                case measure => simp [intOf]; omega
              · go_wp2
                go_ret
                exact ⟨rfl, bwr⟩
          · go_wp2_with fail
            refine (collect_bad L _ w8 w8.heap.size (Nat.le_refl _) hlong8 hp2).mono ?_
            rintro e w9 ⟨rfl, hb9'⟩
            go_wp2
            go_ret
            exact ⟨rfl, hbox.trans ((hb8.trans (hb9'.mono (by omega))).mono (Nat.le_succ _))⟩
        · have hp2 : progCheck L ≠ 0 := fun e => hp (HCL.out e)
          have HP := Lib.hid hp
          have HP2 := Lib.hid hp2
          clear hp hp2
          go_wp2_with fail
          refine (collect_bad hs _ w7 w7.heap.size (Nat.le_refl _) hc7 HP.out).mono ?_
          rintro e w8 ⟨rfl, hb8'⟩
          have hs8 := hb8'.size
          have hb8 := hb7.trans (hb8'.mono (by omega))
          have hlong8 := (hlong7.below shS hb8').mono shS hs8
          clear hlong7 hc7
          go_wp2_with fail
          refine (collect_bad L _ w8 w8.heap.size (Nat.le_refl _) hlong8 HP2.out).mono ?_
          rintro e w9 ⟨rfl, hb9'⟩
          go_wp2
          go_ret
          exact ⟨rfl, hbox.trans ((hb8.trans (hb9'.mono (by omega))).mono (Nat.le_succ _))⟩
end Go.Proofs.Ytgnaknanpgfpnaa
