/- The reference's Same on nodes, sections and finding aids that read alike. -/
import Derived.Test.YtbmlnflacdockaaGreatDoorCmB
import Derived.Test.YtbmlnflacdockaaGreatDoorLib
namespace Go.Proofs.YtbmlnflacdockaaGreatDoor
open Go.RowKit

theorem eqNode_self (x : Node) : eqNode x x = true := (eqNode_iff x x).2 rfl
set_option maxHeartbeats 2000000 in
theorem rsame46_c (xs : List Node) (v v' : Value) (w : World) (B : Nat) (hB : B ≤ w.heap.size) (h : SlRep 3 (flat Node.enc) w (fun b => b < B) xs v) (h' : SlRep 3 (flat Node.enc) w (fun b => b < B) xs v') :
    Calls Tryz.prog 72 #[v, v'] w fun e w' => e = .returned (.bool true) ∧ Below w.heap.size w w' := by
  obtain ⟨A, c, rfl, hc1, hc2, _⟩ := id h
  obtain ⟨A', c', rfl, hd1, hd2, _⟩ := id h'
  go_enter Tryz.func72, Tryz.ntmps72
  go_wp2
  go_loopw [5] (fun i wr => ∃ k : Nat, k ≤ xs.length ∧ i = .int .i64 k ∧ ∃ n, wr = w.drewN n) (fun i _ => xs.length - (intOf i).toNat)
  case atStart => exact ⟨0, Nat.zero_le _, rfl, 0, rfl⟩
  case round =>
    obtain ⟨k, hk, rfl, nd, rfl⟩ := hrel
    by_cases hlt : k < xs.length
    · obtain ⟨x, hx⟩ := get_at xs hlt
      obtain ⟨b, off, rfl, hbB, g0, g1, g2⟩ := Nodes.at_ h hx
      obtain ⟨b', off', rfl, hbB', q0, q1, q2⟩ := Nodes.at_ h' hx
      have hbw : b < w.heap.size := by have : b < B := hbB; omega
      have hbw' : b' < w.heap.size := by have : b' < B := hbB'; omega
      have hki : (k : Int) < (xs.length : Int) := by omega
      have hne := fun W : World => Node.neq x x W
      rw [eqNode_self] at hne
      simp only [Bool.not_true] at hne
      clear hx
      go_wp2
      go_quiet (fail)
      go_wp2
      go_roundw
      case rel => exact ⟨k + 1, by omega, by go_num, _, rfl⟩
      case measure => simp [intOf]; omega
    · go_wp2
      go_ret
      exact ⟨rfl, below_of_drew _ ⟨_, rfl⟩⟩
abbrev sctO (x : Sect) (v : Value) : Obj := .cells #[.int .i64 x.unit, .string x.number, v] 70
theorem two_at {w W : World} {o1 o2 : Obj} (hW : Below (w.heap.size + 2) ((w.alloc o1).alloc o2) W) : W.heap[w.heap.size]? = some o1 ∧ W.heap[w.heap.size + 1]? = some o2 ∧ w.heap.size + 1 < W.heap.size := by
  have h0 : ((w.alloc o1).alloc o2).heap[w.heap.size]? = some o1 := by
    rw [Below.heap_alloc _ _ _ (by simp)]
    exact Array.getElem?_push_size
  have h1 : ((w.alloc o1).alloc o2).heap[w.heap.size + 1]? = some o2 := by
    rw [show w.heap.size + 1 = (w.alloc o1).heap.size by simp]
    exact Array.getElem?_push_size
  exact ⟨(hW.block _ (by omega)).trans h0, (hW.block _ (by omega)).trans h1, by have := hW.size; simp at this; omega⟩
set_option maxHeartbeats 4000000 in
theorem rsect_c (x : Sect) (v v' : Value) (w : World) (B : Nat) (hB : B ≤ w.heap.size) (h : SlRep 3 (flat Node.enc) w (fun b => b < B) x.nodes v) (h' : SlRep 3 (flat Node.enc) w (fun b => b < B) x.nodes v') :
    Calls Tryz.prog 42 #[.agg #[.int .i64 x.unit, .string x.number, v], .agg #[.int .i64 x.unit, .string x.number, v']] w fun e w' => e = .returned (.bool true) ∧ Below w.heap.size w w' := by
  obtain ⟨A, c, rfl, -⟩ := id h
  obtain ⟨A', c', rfl, -⟩ := id h'
  have b1 : Below w.heap.size w ((w.alloc (sctO x (.slice A x.nodes.length c))).alloc (sctO x (.slice A' x.nodes.length c'))) := ((Below.refl _ _).alloc (Nat.le_refl _) _).alloc (by simp) _
  have HS := Lib.hid (fun (W : World) (hW : Below w.heap.size w W) => rsame46_c x.nodes (.slice A x.nodes.length c) (.slice A' x.nodes.length c') W B (Nat.le_trans hB hW.size) (h.below nodS (hW.mono hB)) (h'.below nodS (hW.mono hB)))
  go_enter Tryz.func42, Tryz.ntmps42
  go_wp2_with fail
  refine (HS.out _ b1).mono ?_
  rintro e w1 ⟨rfl, hb1⟩
  go_wp2
  go_ret
  exact ⟨rfl, b1.trans (hb1.mono b1.size)⟩
set_option maxRecDepth 100000 in
set_option maxHeartbeats 4000000 in
theorem rsame_c (u : Int) (s : ByteArray) (xs : List Sect) (v v' : Value) (w : World) (B : Nat) (hB : B ≤ w.heap.size) (h : SlRep 3 secR w (fun b => b < B) xs v) (h' : SlRep 3 secR w (fun b => b < B) xs v') :
    Calls Tryz.prog 11 #[.agg #[.int .i64 u, .string s, v], .agg #[.int .i64 u, .string s, v']] w fun e w' => e = .returned (.bool true) ∧ Below w.heap.size w w' := by
  obtain ⟨A, c, rfl, hc1, hc2, _⟩ := id h
  obtain ⟨A', c', rfl, hd1, hd2, _⟩ := id h'
  have b1 : Below w.heap.size w ((w.alloc (aidO u s (.slice A xs.length c))).alloc (aidO u s (.slice A' xs.length c'))) := ((Below.refl _ _).alloc (Nat.le_refl _) _).alloc (by simp) _
  have KC := Lib.hid (fun (W : World) (hW : Below (w.heap.size + 2) ((w.alloc (aidO u s (.slice A xs.length c))).alloc (aidO u s (.slice A' xs.length c'))) W) => (by
    obtain ⟨k0, k1, k2⟩ := two_at hW
    exact ⟨by rw [Lib.cell_of_heap k0]; rfl, by rw [Lib.cell_of_heap k1]; rfl, k2⟩ : W.cell? ⟨w.heap.size, 2, none⟩ = some (.slice A xs.length c) ∧ W.cell? ⟨w.heap.size + 1, 2, none⟩ = some (.slice A' xs.length c') ∧ w.heap.size + 1 < W.heap.size))
  have HX := Lib.hid (fun (i : Nat) (x : Sect) (hx : xs[i]? = some x) (W : World) (hW : Below w.heap.size w W) => Sects.at_ (h.below secS (hW.mono hB)) hx)
  have HX' := Lib.hid (fun (i : Nat) (x : Sect) (hx : xs[i]? = some x) (W : World) (hW : Below w.heap.size w W) => Sects.at_ (h'.below secS (hW.mono hB)) hx)
  go_enter Tryz.func11, Tryz.ntmps11
  go_wp2
  go_loopw [5] (fun i wr => ∃ k : Nat, k ≤ xs.length ∧ i = .int .i64 k ∧ Below (w.heap.size + 2) ((w.alloc (aidO u s (.slice A xs.length c))).alloc (aidO u s (.slice A' xs.length c'))) wr) (fun i _ => xs.length - (intOf i).toNat)
  case atStart => exact ⟨0, Nat.zero_le _, rfl, Below.refl _ _⟩
  case round =>
    obtain ⟨k, hk, rfl, hb⟩ := hrel
    obtain ⟨z0, z1, zl⟩ := KC.out _ hb
    have Br := b1.trans (hb.mono (by omega))
    by_cases hlt : k < xs.length
    · obtain ⟨x, hx⟩ := get_at xs hlt
      obtain ⟨b, off, vn, rfl, hbB, g0, g1, g2, hvn⟩ := HX.out k x hx _ Br
      obtain ⟨b', off', vn', rfl, hbB', q0, q1, q2, hvn'⟩ := HX'.out k x hx _ Br
      have hbw : b < wr.heap.size := by have : b < B := hbB; have := Br.size; omega
      have hbw' : b' < wr.heap.size := by have : b' < B := hbB'; have := Br.size; omega
      have hki : (k : Int) < (xs.length : Int) := by omega
      have hBr : B ≤ wr.heap.size := Nat.le_trans hB Br.size
      have HS := Lib.hid (fun (W : World) (hW : Below wr.heap.size wr W) => rsect_c x vn vn' W B (Nat.le_trans hBr hW.size) (hvn.below nodS (hW.mono hBr)) (hvn'.below nodS (hW.mono hBr)))
      have hbX : Below wr.heap.size wr wr.drew := (Below.refl _ _).drew
      obtain ⟨An, cn, rfl, -⟩ := id hvn
      obtain ⟨An', cn', rfl, -⟩ := id hvn'
      clear hx
      go_wp2
      have KQ := Lib.hid (fun (W : World) (hW : Below wr.heap.size wr W) => (⟨(hW.cell (p := ⟨w.heap.size, 2, none⟩) (by show w.heap.size < _; omega)).trans z0, (hW.cell (p := ⟨w.heap.size + 1, 2, none⟩) (by show w.heap.size + 1 < _; omega)).trans z1, (hW.cell (p := ⟨b, off + k * 3, none⟩) hbw).trans g0, (hW.cell (p := ⟨b, off + k * 3 + 1, none⟩) hbw).trans g1, (hW.cell (p := ⟨b, off + k * 3 + 2, none⟩) hbw).trans g2, (hW.cell (p := ⟨b', off' + k * 3, none⟩) hbw').trans q0, (hW.cell (p := ⟨b', off' + k * 3 + 1, none⟩) hbw').trans q1, (hW.cell (p := ⟨b', off' + k * 3 + 2, none⟩) hbw').trans q2, Nat.lt_of_lt_of_le zl hW.size, Nat.lt_of_lt_of_le hbw hW.size, Nat.lt_of_lt_of_le hbw' hW.size⟩ : W.cell? ⟨w.heap.size, 2, none⟩ = some (.slice (some ⟨b, off, none⟩) xs.length c) ∧ W.cell? ⟨w.heap.size + 1, 2, none⟩ = some (.slice (some ⟨b', off', none⟩) xs.length c') ∧ W.cell? ⟨b, off + k * 3, none⟩ = some (.int .i64 x.unit) ∧ W.cell? ⟨b, off + k * 3 + 1, none⟩ = some (.string x.number) ∧ W.cell? ⟨b, off + k * 3 + 2, none⟩ = some (.slice An x.nodes.length cn) ∧ W.cell? ⟨b', off' + k * 3, none⟩ = some (.int .i64 x.unit) ∧ W.cell? ⟨b', off' + k * 3 + 1, none⟩ = some (.string x.number) ∧ W.cell? ⟨b', off' + k * 3 + 2, none⟩ = some (.slice An' x.nodes.length cn') ∧ w.heap.size + 1 < W.heap.size ∧ b < W.heap.size ∧ b' < W.heap.size))
      clear z0 z1 g0 g1 g2 q0 q1 q2
      go_region_held3 (fun W => W.cell? ⟨w.heap.size, 2, none⟩ = some (.slice (some ⟨b, off, none⟩) xs.length c) ∧ W.cell? ⟨w.heap.size + 1, 2, none⟩ = some (.slice (some ⟨b', off', none⟩) xs.length c') ∧ W.cell? ⟨b, off + k * 3, none⟩ = some (.int .i64 x.unit) ∧ W.cell? ⟨b, off + k * 3 + 1, none⟩ = some (.string x.number) ∧ W.cell? ⟨b, off + k * 3 + 2, none⟩ = some (.slice An x.nodes.length cn) ∧ W.cell? ⟨b', off' + k * 3, none⟩ = some (.int .i64 x.unit) ∧ W.cell? ⟨b', off' + k * 3 + 1, none⟩ = some (.string x.number) ∧ W.cell? ⟨b', off' + k * 3 + 2, none⟩ = some (.slice An' x.nodes.length cn') ∧ w.heap.size + 1 < W.heap.size ∧ b < W.heap.size ∧ b' < W.heap.size) (with_reducible exact KQ.out _ hbX) (first
        | (go_at_call 42; (with_reducible refine (HS.out _ hbX).mono ?_); rintro e w1 ⟨rfl, hb1⟩; have hbX := bnd_call hbX (Nat.le_refl _) hb1))
      go_wp2
      go_roundw
      case rel => exact ⟨k + 1, by omega, by go_num, hb.trans (hbX.mono (by have := hb.size; simp at this; omega))⟩
      case measure => simp [intOf]; omega
    · go_wp2
      go_ret
      exact ⟨rfl, Br⟩
end Go.Proofs.YtbmlnflacdockaaGreatDoor
