/- AidDocuments returns true. -/
import Derived.Test.YtbmlnflacdockaaDoorRfB
import Derived.Test.YtbmlnflacdockaaDoorAwk
namespace Go.Proofs.YtbmlnflacdockaaDoor
open Go.RowKit

def fineS (x : Sect) : Prop := x.nodes.length ≤ 6 ∧ ∀ n ∈ x.nodes, n.tag.size ≤ 40
theorem fine_len : ∀ l : List Sect, (∀ x ∈ l, fineS x) → (nodesF l).length ≤ 6 * l.length
  | [], _ => Nat.le_refl _
  | x :: r, h => by
    have h1 := fine_len r (fun y hy => h y (List.mem_cons_of_mem _ hy))
    have h2 := (h x List.mem_cons_self).1
    have e : nodesF (x :: r) = x.nodes ++ nodesF r := by simp [nodesF]
    rw [e, List.length_append, List.length_cons]
    omega
theorem fine_tags {l : List Sect} (h : ∀ x ∈ l, fineS x) : ∀ n ∈ nodesF l, n.tag.size ≤ 4611686018427387904 := by
  intro n hn
  unfold nodesF at hn
  obtain ⟨ns, h1, h2⟩ := List.mem_flatten.1 hn
  obtain ⟨x, hx, rfl⟩ := List.mem_map.1 h1
  have := (h x hx).2 n h2
  omega
set_option maxRecDepth 100000 in
set_option maxHeartbeats 8000000 in
theorem documents_law (u : Int) (lang : ByteArray) (ss : List Sect) (v : Value) (w : World) (B : Nat) (hB : B ≤ w.heap.size) (h : Sects w B ss v) (hS : SynOk w) :
    Calls Tryd.prog 3 #[.agg #[.int .i64 u, .string lang, v]] w fun e w' => e = .returned (.bool true) ∧ Below w.heap.size w w' := by
  obtain ⟨A, ca, rfl, hc1, hc2, _⟩ := id h
  have HA := Lib.hid (fun (W : World) (hW : Below w.heap.size w W) => awake_c W (hS.below hS.1 hW))
  have b1 : Below w.heap.size w (w.alloc (aidO u lang (.slice A ss.length ca))) := (Below.refl _ _).alloc (Nat.le_refl _) _
  have KC := Lib.hid (fun (W : World) (hW : Below (w.heap.size + 1) (w.alloc (aidO u lang (.slice A ss.length ca))) W) => (⟨(hW.cell (p := ⟨w.heap.size, 0, none⟩) (by simp)).trans (by simp), (hW.cell (p := ⟨w.heap.size, 1, none⟩) (by simp)).trans (by simp), (hW.cell (p := ⟨w.heap.size, 2, none⟩) (by simp)).trans (by simp), by have := hW.size; simp at this; omega⟩ : W.cell? ⟨w.heap.size, 0, none⟩ = some (.int .i64 u) ∧ W.cell? ⟨w.heap.size, 1, none⟩ = some (.string lang) ∧ W.cell? ⟨w.heap.size, 2, none⟩ = some (.slice A ss.length ca) ∧ w.heap.size < W.heap.size))
  have hb0 : Below (w.heap.size + 1) (w.alloc (aidO u lang (.slice A ss.length ca))) (w.alloc (aidO u lang (.slice A ss.length ca))) := Below.refl _ _
  by_cases h20 : ss.length ≤ 20
  · have d1 : decide ((20 : Int) < (ss.length : Int)) = false := decide_eq_false (by omega)
    by_cases h10 : lang.size ≤ 10
    · have d2 : decide ((10 : Int) < (lang.size : Int)) = false := decide_eq_false (by omega)
      go_enter Tryd.func3, Tryd.ntmps3
      go_wp2_with fail
      refine (HA.out _ b1).mono ?_
      rintro e w1 ⟨rfl, hb1⟩
      have hbX := bnd_call hb0 (by simp) hb1
      obtain ⟨z0, z1, z2, zl⟩ := KC.out _ hbX
      go_wp2
      clear z0 z1 z2 zl
      go_loopw [26] (fun v26 wr => ∃ k : Nat, k ≤ ss.length ∧ v26 = .int .i64 k ∧ Hid (∀ x ∈ ss.take k, fineS x) ∧ Below (w.heap.size + 1) (w.alloc (aidO u lang (.slice A ss.length ca))) wr) (fun v26 _ => ss.length - (intOf v26).toNat)
      case atStart => exact ⟨0, Nat.zero_le _, rfl, Lib.hid (fun x hx => by simp at hx), hbX⟩
      case round =>
        clear hbX hb1
        obtain ⟨k, hk, rfl, HS, hbX⟩ := hrel
        have Br := b1.trans (hbX.mono (Nat.le_succ _))
        have hsr := Br.size
        by_cases hlt : k < ss.length
        · obtain ⟨x, hx⟩ := get_at ss hlt
          have HX := Lib.hid (take_at hx)
          obtain ⟨b, off, vn, rfl, hbB, g0, g1, g2, hvn⟩ := Sects.at_ (h.below secS (Br.mono hB)) hx
          have hbw : b < wr.heap.size := by omega
          obtain ⟨An, cn, rfl, hn1, hn2, -⟩ := id hvn
          clear hx
          have bx := (Below.refl wr.heap.size wr).alloc (Nat.le_refl _) (.cells #[.int .i64 x.unit, .string x.number, .slice An x.nodes.length cn] 28)
          have hbY := hbX.trans (bx.mono (by have := hbX.size; simp at this; omega))
          have BY := b1.trans (hbY.mono (Nat.le_succ _))
          by_cases h6 : x.nodes.length ≤ 6
          · have e1 : decide ((6 : Int) < (x.nodes.length : Int)) = false := decide_eq_false (by omega)
            by_cases h40 : x.number.size ≤ 40
            · have e2 : decide ((40 : Int) < (x.number.size : Int)) = false := decide_eq_false (by omega)
              have H6 := Lib.hid h6
              clear h6 h40
              obtain ⟨wo, hwo⟩ : ∃ wo : World, wo = wr := ⟨_, rfl⟩
              subst hwo
              go_wp2
              go_loopw [43] (fun v43 wr => ∃ j : Nat, j ≤ x.nodes.length ∧ v43 = .int .i64 j ∧ Hid (∀ n ∈ x.nodes.take j, n.tag.size ≤ 40) ∧ Below (w.heap.size + 1) (w.alloc (aidO u lang (.slice (some ⟨b, off, none⟩) ss.length ca))) wr) (fun v43 _ => x.nodes.length - (intOf v43).toNat)
              case atStart => exact ⟨0, Nat.zero_le _, rfl, Lib.hid (fun n hn => by simp at hn), hbY⟩
              case round =>
                clear hbX hbY BY bx
                obtain ⟨j, hj, rfl, HJ, hbX⟩ := hrel
                have Bj := b1.trans (hbX.mono (Nat.le_succ _))
                have hsj := Bj.size
                by_cases hlt2 : j < x.nodes.length
                · obtain ⟨y, hy⟩ := get_at x.nodes hlt2
                  have HY := Lib.hid (take_at hy)
                  obtain ⟨b', off', rfl, hbB', r0, r1, r2⟩ := Nodes.at_ (hvn.frame (w' := wr) nodS (fun b hb => by have : b < B := hb; rw [Bj.block b (by omega), Br.block b (by omega)])) hy
                  have hbw' : b' < wr.heap.size := by have : b' < B := hbB'; omega
                  clear hy
                  have by_ := (Below.refl wr.heap.size wr).alloc (Nat.le_refl _) (.cells #[.int .i64 y.depth, .string y.tag, .string y.text] 30)
                  have hbZ := hbX.trans (by_.mono (by have := hbX.size; simp at this; omega))
                  have BZ := b1.trans (hbZ.mono (Nat.le_succ _))
                  by_cases t40 : y.tag.size ≤ 40
                  · have e3 : decide ((40 : Int) < (y.tag.size : Int)) = false := decide_eq_false (by omega)
                    have HM := Lib.hid (show ∀ n ∈ x.nodes.take (j + 1), n.tag.size ≤ 40 by
                      rw [HY.out]
                      intro n hn
                      rcases List.mem_append.1 hn with hn | hn
                      · exact HJ.out n hn
                      · simp at hn; rw [hn]; exact t40)
                    clear t40
                    by_cases t200 : y.text.size ≤ 200
                    · have e4 : decide ((200 : Int) < (y.text.size : Int)) = false := decide_eq_false (by omega)
                      clear t200
                      go_wp2
                      go_roundw
                      case rel => exact ⟨j + 1, by omega, by go_num, HM, hbZ⟩
                      case measure => simp [intOf]; omega
                    · have e4 : decide ((200 : Int) < (y.text.size : Int)) = true := decide_eq_true (by omega)
                      clear t200
                      go_wp2
                      go_ret
                      exact ⟨rfl, BZ⟩
                  · have e3 : decide ((40 : Int) < (y.tag.size : Int)) = true := decide_eq_true (by omega)
                    clear t40
                    go_wp2
                    go_ret
                    exact ⟨rfl, BZ⟩
                · have HM := Lib.hid (show ∀ x' ∈ ss.take (k + 1), fineS x' by
                    rw [HX.out]
                    intro x' hx'
                    rcases List.mem_append.1 hx' with hx' | hx'
                    · exact HS.out x' hx'
                    · simp at hx'
                      rw [hx']
                      have := HJ.out
                      rw [List.take_of_length_le (by omega)] at this
                      exact ⟨H6.out, this⟩)
                  go_wp2
                  go_roundw
                  case rel => exact ⟨k + 1, by omega, by go_num, HM, hbX⟩
                  case measure => simp [intOf]; omega
            · have e2 : decide ((40 : Int) < (x.number.size : Int)) = true := decide_eq_true (by omega)
              clear h6 h40
              go_wp2
              go_ret
              exact ⟨rfl, BY⟩
          · have e1 : decide ((6 : Int) < (x.nodes.length : Int)) = true := decide_eq_true (by omega)
            clear h6
            go_wp2
            go_ret
            exact ⟨rfl, BY⟩
        · have HF := Lib.hid (show ∀ x ∈ ss, fineS x by
            have := HS.out
            rwa [List.take_of_length_le (by omega)] at this)
          have HL := Lib.hid (fun k => Nat.le_trans (fine_len (ss.take k) (fun x hx => HF.out x (List.mem_of_mem_take hx))) (by rw [List.length_take]; omega : 6 * (ss.take k).length ≤ 1000000))
          have HZ := Lib.hid (fine_tags HF.out)
          have HD := Lib.hid (Document_c u lang ss (.slice A ss.length ca) wr B (Nat.le_trans hB hsr) (h.below secS (Br.mono hB)) HL.out)
          obtain ⟨z0, z1, z2, zl⟩ := KC.out _ hbX
          go_wp2_with fail
          refine HD.out.mono ?_
          rintro e w2 ⟨vl, rfl, hown2, hb2⟩
          have hbX2 := bnd_call hbX (by simp) hb2
          have B2 := Br.trans (hb2.mono hsr)
          have hc2 := hown2.toSl nodS
          obtain ⟨Al, cl, rfl, -⟩ := id hc2
          have HR := Lib.hid (rdoc_c u lang ss (.slice A ss.length ca) w2 B (Nat.le_trans hB B2.size) (h.below secS (B2.mono hB)) HL.out HZ.out)
          clear z0 z1 z2 zl hown2 HD
          obtain ⟨z0, z1, z2, zl⟩ := KC.out _ hbX2
          go_wp2_with fail
          refine HR.out.mono ?_
          rintro e w3 ⟨vm, rfl, hown3, hb3⟩
          have B3 := B2.trans (hb3.mono B2.size)
          have hc3 := hown3.toSl nodS
          obtain ⟨Am, cm, rfl, -⟩ := id hc3
          have HE := Lib.hid (Calls.below_of (equalN_c (docL ss) (docL ss) (.slice Al (docL ss).length cl) (.slice Am (docL ss).length cm) w3 w3.heap.size (Nat.le_refl _) ((hc2.below nodS hb3).mono nodS hb3.size) hc3))
          rw [eqL_self eqNode_iff] at HE
          have hee : (fltE (nodesF ss) == fltE (nodesF ss)) = true := by simp
          clear z0 z1 z2 zl hown3 HR hc2 hc3
          go_wp2_with fail
          refine HE.out.mono ?_
          rintro e w4 ⟨rfl, hb4⟩
          go_wp2
          go_ret
          exact ⟨rfl, B3.trans (hb4.mono B3.size)⟩
    · have d2 : decide ((10 : Int) < (lang.size : Int)) = true := decide_eq_true (by omega)
      go_enter Tryd.func3, Tryd.ntmps3
      go_wp2_with fail
      refine (HA.out _ b1).mono ?_
      rintro e w1 ⟨rfl, hb1⟩
      have hbX := bnd_call hb0 (by simp) hb1
      obtain ⟨z0, z1, z2, zl⟩ := KC.out _ hbX
      go_wp2
      go_ret
      exact ⟨rfl, b1.trans (hbX.mono (Nat.le_succ _))⟩
  · have d1 : decide ((20 : Int) < (ss.length : Int)) = true := decide_eq_true (by omega)
    go_enter Tryd.func3, Tryd.ntmps3
    go_wp2_with fail
    refine (HA.out _ b1).mono ?_
    rintro e w1 ⟨rfl, hb1⟩
    have hbX := bnd_call hb0 (by simp) hb1
    obtain ⟨z0, z1, z2, zl⟩ := KC.out _ hbX
    go_wp2
    go_ret
    exact ⟨rfl, b1.trans (hbX.mono (Nat.le_succ _))⟩
end Go.Proofs.YtbmlnflacdockaaDoor
