/- TransferParts returns true (written by gen_lwd.py). -/
import Derived.Test.YtenaifmkejmdaaaDoorLwS
import Derived.Test.YtenaifmkejmdaaaDoorPrQ
namespace Go.Proofs.YtenaifmkejmdaaaDoor
open Go.RowKit

theorem sumP_le2 : ∀ (l : List Item), (∀ x ∈ l, 1 ≤ x.pages ∧ x.pages ≤ 100000) → 0 ≤ sumP l ∧ sumP l ≤ 100000 * l.length
  | [], _ => by simp [sumP_nil]
  | x :: l, h => by
    have ih := sumP_le2 l (fun y hy => h y (by simp [hy]))
    have hx := h x (by simp)
    rw [show x :: l = [x] ++ l from rfl, sumP_app, sumP_one, List.length_append, List.length_singleton]
    omega
set_option maxRecDepth 100000 in
set_option maxHeartbeats 8000000 in
theorem parts_law (l : TL) (p : Int) (v : Value) (w : World) (B : Nat) (hB : B ≤ w.heap.size) (h : TLRep w B l v) (hV : VarOk w) :
    Calls Tryd.prog 4 #[tlV l v, .int .i64 p] w fun e w' => e = .returned (.bool true) ∧ Below w.heap.size w w' := by
  have b00 : Below w.heap.size w (w.alloc (tlC l v)) := (Below.refl _ _).alloc (Nat.le_refl _) _
  have hb0 : Below (w.heap.size + 1) (w.alloc (tlC l v)) (w.alloc (tlC l v)) := Below.refl _ _
  have KC := Lib.hid (fun (W : World) (hW : Below (w.heap.size + 1) (w.alloc (tlC l v)) W) => tlW_at hW)
  have HA := Lib.hid (fun (W : World) (hW : Below w.heap.size w W) => awake_c W (hV.below hW))
  have HFW := Lib.hid (fun (W : World) (hW : Below w.heap.size w W) => few_c l v W B (Nat.le_trans hB hW.size) (h.below itmS (hW.mono hB)))
  have HCP := Lib.hid (fun (hF : fewT l = true) (W : World) (hW : Below w.heap.size w W) => cp_c l v W B (Nat.le_trans hB hW.size) (h.below itmS (hW.mono hB)) (by have := few_len hF; omega))
  have HDV := Lib.hid (fun (v' : Value) (W : World) (hW : Below w.heap.size w W) (hr : TLRep W W.heap.size l v') => divide_c l v' p W _ (Nat.le_refl _) hr (hV.below hW))
  obtain ⟨A, c, rfl, hlc, -, -⟩ := id h
  have HIT := Lib.hid (fun (k : Nat) (x : Item) (hx : l.items[k]? = some x) (W : World) (hW : Below w.heap.size w W) => Items.at_ (h.below itmS (hW.mono hB)) hx)
  go_enter Tryd.func4, Tryd.ntmps4
  go_wp2_with fail
  refine (HA.out _ b00).mono ?_
  rintro e w1 ⟨rfl, hb1⟩
  have hbX := bnd_call hb0 (by simp) hb1
  obtain ⟨z0, z1, z2, z3, zl⟩ := KC.out _ hbX
  clear hb1
  go_wp2_with fail
  refine (HFW.out _ (up_box hbX)).mono ?_
  rintro e w2 ⟨rfl, hb2⟩
  have hbX := bnd_call hbX (by simp) hb2
  clear hb2 z0 z1 z2 z3 zl
  obtain ⟨z0, z1, z2, z3, zl⟩ := KC.out _ hbX
  cases hf : fewT l
  · clear hf
    go_wp2_with fail
    refine (HA.out _ (up_box hbX)).mono ?_
    rintro e w3 ⟨rfl, hb3⟩
    have hbX := bnd_call hbX (by simp) hb3
    go_wp2
    go_ret
    exact ⟨rfl, up_box hbX⟩
  · have HCP := Lib.hid (HCP.out hf)
    have hfl := few_len hf
    clear hf h
    go_wp2_with fail
    refine (HCP.out _ (up_box hbX)).mono ?_
    rintro e w3 ⟨v3, rfl, h3, hb3⟩
    have hbX := bnd_call hbX (by simp) hb3
    have h3 := h3.toSl itmS
    have HT := Lib.hid (HDV.out v3 _ (up_box hbX) h3)
    obtain ⟨A3, c3, rfl, -⟩ := h3
    clear hb3 z0 z1 z2 z3 zl
    go_wp2_with fail
    refine HT.out.mono ?_
    rintro e w4 ⟨vp, rfl, hp, hb4⟩
    have hbX := bnd_call hbX (by simp) hb4
    have hP := hp.toSl intS
    clear hb4 HT hp
    by_cases he : divE l p = 0
    · obtain ⟨gs, hgs, hend, hpt⟩ := parts_all he
      rw [hgs] at hP
      rw [he]
      have HPT := Lib.hid hpt
      have HEND := Lib.hid hend
      have HPI := Lib.hid (fun (x : Item) (hx : x ∈ l.items) => (show x.pages ≤ p ∧ 1 ≤ x.pages ∧ p ≤ 100000 by
        unfold divE at he
        split at he
        · cases he
        · split at he
          · cases he
          · split at he
            · cases he
            · rename_i h1 h2 h3
              have hr : rightB l = true := by simpa using h1
              have hpx := ((right_ok hr).item x hx).pages
              have h2' : inB p 1 100000 = true := by simpa using h2
              have h3' : ¬ p < x.pages := fun e => h3 (List.any_eq_true.2 ⟨x, hx, by simpa using e⟩)
              have := inB_iff.1 h2'
              omega))
      obtain ⟨A4, c4, rfl, hc3, hc4, -⟩ := id hP
      have HIN := Lib.hid (fun (k : Nat) (g : List Item) (hg : gs[k]? = some g) (W : World) (hW : Below w4.heap.size w4 W) => Ints.at_ (hP.below intS hW) (show (gs.map fun g => (g.length : Int))[k]? = some (g.length : Int) by rw [List.getElem?_map, hg]; rfl))
      rw [List.length_map] at hc3
      simp only [List.length_map]
      clear he hgs hpt hend
      have hgl : gs.length ≤ 9223372036854775807 := by omega
      clear hP hc3 hc4
      go_wp2
      go_loopw [7, 35] (fun a i wr => ∃ k : Nat, k ≤ gs.length ∧ i = .int .i64 k ∧ a = .int .i64 (offs gs k) ∧ Below w4.heap.size w4 wr) (fun _ i _ => gs.length - (intOf i).toNat)
      case atStart => exact ⟨0, Nat.zero_le _, rfl, rfl, Below.refl _ _⟩
      case round =>
        obtain ⟨k, hk, rfl, rfl, hbr⟩ := hrel
        obtain ⟨wo, hwo⟩ : ∃ wo : World, wo = wr := ⟨_, rfl⟩
        subst hwo
        have hbXr := hbX.trans (hbr.mono (by have := hbX.size; simp at this; omega))
        obtain ⟨z0, z1, z2, z3, zl⟩ := KC.out _ hbXr
        by_cases hlt : k < gs.length
        · obtain ⟨g, hg⟩ := get_at gs hlt
          have hpa := HPT.out k g hg
          obtain ⟨bp, op, rfl, hbp, q0⟩ := HIN.out k g hg _ hbr
          have hbpw : bp < wo.heap.size := by have : bp < w4.heap.size := hbp; have := hbr.size; omega
          have HPA := Lib.hid hpa
          obtain ⟨x0, hx0⟩ := get_at g (i := 0) hpa.pos
          obtain ⟨bi, oi, rfl, hbB, -⟩ := HIT.out _ x0 (hpa.item 0 x0 hx0) _ (up_box hbXr)
          have hbiw : bi < wo.heap.size := by have : bi < B := hbB; have := (up_box hbXr).size; omega
          have hps := hpa.pos
          have hle := hpa.le
          have hgn := Lib.hid hpa.next
          have hgl1 : g.length ≤ 129 := by omega
          have ho1 : offs gs k ≤ 129 := by omega
          have hki : (k : Int) < (gs.length : Int) := by omega
          have n1 : decide ((g.length : Int) < 1) = false := by simp; omega
          have hw1 : IntKind.i64.wrap ((offs gs k : Int) + (g.length : Int)) = ((offs gs k + g.length : Nat) : Int) := by rw [IntWalk.i64_in _ (by omega)]; omega
          have n2 : decide ((l.items.length : Int) < ((offs gs k + g.length : Nat) : Int)) = false := by simp; omega
          have n3 : decide (((offs gs k + g.length : Nat) : Int) > (l.items.length : Int)) = false := by simp; omega
          clear hg hpa hx0
          obtain ⟨o, ho⟩ : ∃ o, offs gs k = o := ⟨_, rfl⟩
          have HIG := Lib.hid (fun (j : Nat) (x : Item) (hx : g[j]? = some x) => (by have := HPA.out.item j x hx; rwa [ho] at this : l.items[o + j]? = some x))
          have HGN := Lib.hid (by have := hgn.out; rwa [ho] at this : offs gs (k + 1) = o + g.length)
          rw [ho] at hle ho1 hw1 n2 n3 ⊢
          have hoi : (o : Int) ≤ ((o + g.length : Nat) : Int) := by omega
          have hoc : ((o + g.length : Nat) : Int) ≤ (c : Int) := by omega
          have hco : ¬ c = o := by omega
          have HSB := Lib.hid (fun (j : Nat) => sumP_le2 (g.take j) (fun x hx => by
            obtain ⟨i, hi⟩ := List.getElem?_of_mem (List.mem_of_mem_take hx)
            have := HPI.out x (List.mem_of_getElem? (HIG.out i x hi))
            omega))
          clear ho hgn
          go_wp2
          go_loopw [10, 59] (fun sm j wr => ∃ i : Nat, i ≤ g.length ∧ j = .int .i64 i ∧ sm = .int .i64 (sumP (g.take i)) ∧ Below wo.heap.size wo wr) (fun _ j _ => g.length - (intOf j).toNat)
          case atStart => exact ⟨0, Nat.zero_le _, rfl, rfl, Below.refl _ _⟩
          case round =>
            obtain ⟨i, hi, rfl, rfl, hbs⟩ := hrel
            have hbXs := hbXr.trans (hbs.mono (by have := hbXr.size; simp at this; omega))
            have hbss := hbs.size
            clear z0 z1 z2 z3 zl
            obtain ⟨z0, z1, z2, z3, zl⟩ := KC.out _ hbXs
            by_cases hlt2 : i < g.length
            · obtain ⟨x, hx⟩ := get_at g hlt2
              obtain ⟨_, _, e9, _, g0, g1, g2, g3, g4, g5, g6⟩ := HIT.out (o + i) x (HIG.out i x hx) _ (up_box hbXs)
              cases e9
              rw [show oi + (o + i) * 7 = oi + o * 7 + i * 7 by omega] at g0 g1 g2 g3 g4 g5 g6
              have hpx := HPI.out x (List.mem_of_getElem? (HIG.out i x hx))
              have hsn := Lib.hid (sumP_snoc hx)
              have hsb := HSB.out i
              have htl : (g.take i).length ≤ 129 := by rw [List.length_take]; omega
              have hbw : bi < wr.heap.size := by omega
              have hii : (i : Int) < (g.length : Int) := by omega
              generalize sumP (g.take i) = sp at *
              have hwp : IntKind.i64.wrap (sp + x.pages) = sp + x.pages := IntWalk.i64_in _ (by omega)
              have HBN := Lib.hid (hbs.alloc hbss (itmC x))
              clear hx hsb htl hpx
              go_wp2
              go_roundw
              case rel => exact ⟨i + 1, by omega, by go_num, by rw [hsn.out], HBN.out⟩
              case measure => simp [intOf]; omega
            · have hi2 : i = g.length := by omega
              subst hi2
              rw [List.take_length]
              have hsb := HSB.out g.length
              rw [List.take_length] at hsb
              have hsp := HPA.out.sum
              have hii : ¬ (g.length : Int) < (g.length : Int) := by omega
              have n4 : decide (p < sumP g) = false := by simp; omega
              have hwl : IntKind.i64.wrap ((gs.length : Int) - 1) = (gs.length : Int) - 1 := IntWalk.i64_in _ (by omega)
              have HBN := Lib.hid (hbr.trans (hbs.mono hbr.size))
              by_cases hm : k + 1 < gs.length
              · obtain ⟨y, hy, hyp⟩ := HPA.out.more hm
                rw [HGN.out] at hy
                obtain ⟨_, _, e9, _, g0, g1, g2, g3, g4, g5, g6⟩ := HIT.out (o + g.length) y hy _ (up_box hbXs)
                cases e9
                have hpy := HPI.out y (List.mem_of_getElem? hy)
                have hyl := lt_of_at hy
                have n5 : decide ((k : Int) < (gs.length : Int) - 1) = true := by simp; omega
                have n6 : ¬ (l.items.length : Int) ≤ (o : Int) + (g.length : Int) := by omega
                have n6' : (o : Int) + (g.length : Int) < (l.items.length : Int) := by omega
                generalize sumP g = sg at *
                have hwy : IntKind.i64.wrap (sg + y.pages) = sg + y.pages := IntWalk.i64_in _ (by omega)
                have n7 : decide (sg + y.pages ≤ p) = false := by simp; omega
                have hbw : bi < wr.heap.size := by omega
                clear hy hyp hpy hsb hsp
                go_wp2
                go_roundw
                case rel => exact ⟨k + 1, by omega, by go_num, by rw [HGN.out]; congr 1, HBN.out⟩
                case measure => simp [intOf]; omega
              · have n5 : decide ((k : Int) < (gs.length : Int) - 1) = false := by simp; omega
                go_wp2
                go_roundw
                case rel => exact ⟨k + 1, by omega, by go_num, by rw [HGN.out]; congr 1, HBN.out⟩
                case measure => simp [intOf]; omega
        · have hk2 : k = gs.length := by omega
          subst hk2
          have hki : ¬ (gs.length : Int) < (gs.length : Int) := by omega
          rw [HEND.out]
          go_wp2
          go_ret
          exact ⟨rfl, up_box hbXr⟩
    · have hnil := divF_err he
      rw [hnil] at hP
      have hne : (divE l p != 0) = true := by simpa using he
      obtain ⟨A4, c4, rfl, -⟩ := hP
      clear he hnil
      go_wp2
      go_ret
      exact ⟨rfl, up_box hbX⟩
end Go.Proofs.YtenaifmkejmdaaaDoor
