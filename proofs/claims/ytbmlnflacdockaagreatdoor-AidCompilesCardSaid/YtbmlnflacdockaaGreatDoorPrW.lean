/- The program: Check (package markup), Document. -/
import Derived.Test.YtbmlnflacdockaaGreatDoorPrU
namespace Go.Proofs.YtbmlnflacdockaaGreatDoor
open Go.RowKit

set_option maxHeartbeats 2000000 in
theorem mcheck_c (xs : List Node) (v : Value) (w : World) (B : Nat) (hB : B ≤ w.heap.size) (h : Nodes w B xs v) :
    Calls Tryz.prog 63 #[v] w fun e w' => e = .returned (.int .i64 (fltE xs)) ∧ Below w.heap.size w w' := by
  have HF := Lib.hid (fault_c xs v w B hB h)
  go_enter Tryz.func63, Tryz.ntmps63
  go_wp2_with fail
  refine HF.out.mono ?_
  rintro e w1 ⟨⟨i, rfl⟩, hb1⟩
  go_wp2
  go_ret
  exact ⟨rfl, hb1⟩
/-- the nodes of all sections -/
def nodesF (ss : List Sect) : List Node := (ss.map Sect.nodes).flatten
/-- the document of a finding aid -/
def docL (ss : List Sect) : List Node := if fltE (nodesF ss) = 0 then nodesF ss else []
theorem nodes_succ {ss : List Sect} {k : Nat} {x : Sect} (h : ss[k]? = some x) : nodesF (ss.take (k + 1)) = nodesF (ss.take k) ++ x.nodes := by
  unfold nodesF
  rw [take_at h, List.map_append, List.flatten_append]
  simp
set_option maxRecDepth 100000 in
set_option maxHeartbeats 8000000 in
theorem Document_c (u : Int) (lang : ByteArray) (ss : List Sect) (v : Value) (w : World) (B : Nat) (hB : B ≤ w.heap.size) (h : Sects w B ss v) (hn : ∀ k, (nodesF (ss.take k)).length ≤ 1000000) :
    Calls Tryz.prog 29 #[.agg #[.int .i64 u, .string lang, v]] w fun e w' => ∃ v', e = .returned (.tuple #[v', .int .i64 (fltE (nodesF ss))]) ∧ OwnRep 3 (flat Node.enc) 61 w.heap.size w' (docL ss) v' ∧ Below w.heap.size w w' := by
  have HN := Lib.hid hn
  clear hn
  obtain ⟨A, ca, rfl, hc1, hc2, _⟩ := id h
  go_enter Tryz.func29, Tryz.ntmps29
  go_wp2
  go_loopw [4, 11] (fun v4 v11 wr => ∃ k : Nat, k ≤ ss.length ∧ v11 = .int .i64 k ∧ OwnRep 3 (flat Node.enc) 61 w.heap.size wr (nodesF (ss.take k)) v4 ∧ Below w.heap.size w wr) (fun _ v11 _ => ss.length - (intOf v11).toNat)
  case atStart => exact ⟨0, Nat.zero_le _, rfl, OwnRep.nil_, (Below.refl _ _).alloc (Nat.le_refl _) _⟩
  case round =>
    obtain ⟨k, hk, rfl, hown, Br⟩ := hrel
    have hsr := Br.size
    by_cases hlt : k < ss.length
    · obtain ⟨x, hx⟩ := get_at ss hlt
      have HX := Lib.hid (nodes_succ hx)
      obtain ⟨b, off, vn, rfl, hbB, g0, g1, g2, hvn⟩ := Sects.at_ (h.below secS (Br.mono hB)) hx
      have hbw : b < wr.heap.size := by omega
      obtain ⟨An, cn, rfl, -⟩ := id hvn
      clear hx
      have hlo := hown.own_lt
      have bx := (Below.refl wr.heap.size wr).alloc (Nat.le_refl _) (.cells #[.int .i64 x.unit, .string x.number, .slice An x.nodes.length cn] 70)
      have hnx : (nodesF (ss.take k)).length + x.nodes.length ≤ 4294967296 := by
        have := HN.out (k + 1)
        rw [HX.out, List.length_append] at this
        omega
      have sF : ∀ b', b' < B → b' < (wr.alloc (.cells #[.int .i64 x.unit, .string x.number, .slice An x.nodes.length cn] 70)).heap.size ∧ u4.ownBlock ≠ some b' := fun b' hb' => ⟨by simp; omega, fun e => by have := (hlo b' e).1; omega⟩
      go_wp2_with (at_builtin; refine stop_intro ?_)
      refine stop_elim ?_
      refine wpList_append_rep rfl nodS nodE_ w.heap.size (.tmp 15) (.tmp 17) rfl rfl (hown.below nodS bx) rfl (ys := x.nodes) (F := fun b' => b' < B) (hvn.frame nodS (fun b' hb' => bx.block b' (by have : b' < B := hb'; omega))) sF hnx (by decide) (by simp; omega) ?_
      intro v6 w6 hown6 hg6 hat6
      have b6 : Below w.heap.size w w6 := (Br.trans (bx.mono hsr)).grown hg6 (by simp; omega) (fun k hk => (hlo k hk).1)
      rw [← HX.out] at hown6
      go_wp2
      go_roundw
      case rel => exact ⟨k + 1, by omega, by go_num, hown6, b6⟩
      case measure => simp [intOf]; omega
    · have HR := Lib.hid (show ss.take k = ss from List.take_of_length_le (by omega))
      rw [HR.out] at hown
      have hcs := hown.toSl nodS
      have HM := Lib.hid (mcheck_c (nodesF ss) u4 wr wr.heap.size (Nat.le_refl _) hcs)
      obtain ⟨A4, c4, rfl, -⟩ := id hcs
      by_cases h0 : fltE (nodesF ss) = 0
      · have HE := Lib.hid h0
        have HD := Lib.hid (show docL ss = nodesF ss by unfold docL; rw [if_pos h0])
        rw [h0] at HM
        clear h0 hcs
        go_wp2_with fail
        refine HM.out.mono ?_
        rintro e w1 ⟨rfl, hb1⟩
        go_wp2
        go_ret2
        exact ⟨_, by rw [HE.out]; rfl, by rw [HD.out]; exact hown.below nodS hb1, Br.trans (hb1.mono hsr)⟩
      · obtain ⟨n1, n2⟩ := ne_bool h0
        have HH := Lib.hid (show docL ss = [] by unfold docL; rw [if_neg h0])
        clear h0 hcs
        go_wp2_with fail
        refine HM.out.mono ?_
        rintro e w1 ⟨rfl, hb1⟩
        go_wp2
        go_ret2
        exact ⟨_, rfl, by rw [HH.out]; exact OwnRep.nil_, Br.trans (hb1.mono hsr)⟩
end Go.Proofs.YtbmlnflacdockaaGreatDoor
