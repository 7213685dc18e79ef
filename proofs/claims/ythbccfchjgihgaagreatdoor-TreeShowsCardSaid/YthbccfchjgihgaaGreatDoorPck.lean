/- The program: Of and Check of the evidence. -/
import Derived.Test.YthbccfchjgihgaaGreatDoorIxC
import Derived.Deep.RegionHeld3
import Derived.Laws.EntriesVeiled
namespace Go.Proofs.YthbccfchjgihgaaGreatDoor
open Go.RowKit

abbrev camV (x : Came) : Value := .agg #[.int .i64 x.unit, .int .i64 x.office, .int .i64 x.accession, .int .i64 x.number]
abbrev camC (x : Came) : Obj := .cells #[.int .i64 x.unit, .int .i64 x.office, .int .i64 x.accession, .int .i64 x.number] 54
abbrev orgV (x : Came) : Value := .agg #[.int .i64 x.office, .int .i64 x.accession, .int .i64 x.number]
abbrev orgC (x : Came) : Obj := .cells #[.int .i64 x.office, .int .i64 x.accession, .int .i64 x.number] 52
theorem cam_cells {W : World} {g : Nat} {x : Came} (h : W.heap[g]? = some (camC x)) : W.cell? ⟨g, 0, none⟩ = some (.int .i64 x.unit) ∧ W.cell? ⟨g, 1, none⟩ = some (.int .i64 x.office) ∧ W.cell? ⟨g, 2, none⟩ = some (.int .i64 x.accession) ∧ W.cell? ⟨g, 3, none⟩ = some (.int .i64 x.number) ∧ g < W.heap.size :=
  ⟨by rw [Lib.cell_of_heap h]; rfl, by rw [Lib.cell_of_heap h]; rfl, by rw [Lib.cell_of_heap h]; rfl, by rw [Lib.cell_of_heap h]; rfl, heap_ltT h⟩
theorem org_cells {W : World} {g : Nat} {x : Came} (h : W.heap[g]? = some (orgC x)) : W.cell? ⟨g, 0, none⟩ = some (.int .i64 x.office) ∧ W.cell? ⟨g, 1, none⟩ = some (.int .i64 x.accession) ∧ W.cell? ⟨g, 2, none⟩ = some (.int .i64 x.number) ∧ g < W.heap.size :=
  ⟨by rw [Lib.cell_of_heap h]; rfl, by rw [Lib.cell_of_heap h]; rfl, by rw [Lib.cell_of_heap h]; rfl, heap_ltT h⟩
theorem pwithin_c (n lo hi : Int) (w : World) : Calls Tryz.prog 130 #[.int .i64 n, .int .i64 lo, .int .i64 hi] w fun e w' => e = .returned (.bool (inB n lo hi)) ∧ w = w' := by
  have HE := Lib.hid (show inB n lo hi = (decide (lo ≤ n) && decide (n ≤ hi)) from rfl)
  go_enter Tryz.func130, Tryz.ntmps130
  go_wp2
  all_goals
    go_ret
    refine ⟨ret_bool ?_, rfl⟩
    rw [HE.out]
    clear HE
    rw [Bool.eq_iff_iff]
    simp only [Bool.and_eq_true, decide_eq_true_eq, Bool.false_eq_true, false_iff]
    omega
def plcB (x : Came) : Bool := inB x.accession 1 1073741824 && inB x.number 1 9999 || decide (x.accession = 0) && decide (x.number = 0)
theorem plc_cases (x : Came) : (inB x.accession 1 1073741824 = true ∧ inB x.number 1 9999 = true ∧ plcB x = true) ∨ (inB x.accession 1 1073741824 = true ∧ inB x.number 1 9999 = false ∧ (x.accession == 0) = false ∧ plcB x = false) ∨
    (inB x.accession 1 1073741824 = false ∧ (x.accession == 0) = true ∧ (x.number == 0) = true ∧ plcB x = true) ∨ (inB x.accession 1 1073741824 = false ∧ (x.accession == 0) = true ∧ (x.number == 0) = false ∧ plcB x = false) ∨
    (inB x.accession 1 1073741824 = false ∧ (x.accession == 0) = false ∧ plcB x = false) := by
  unfold plcB
  cases ha : inB x.accession 1 1073741824
  · by_cases h0 : x.accession = 0
    · by_cases h1 : x.number = 0
      · simp [h0, h1]
      · simp [h0, h1]
    · simp [h0]
  · have h0 : ¬ x.accession = 0 := by
      intro e
      rw [e] at ha
      exact absurd ha (by decide)
    cases hn : inB x.number 1 9999
    · simp [h0]
    · simp
set_option maxRecDepth 100000 in
set_option maxHeartbeats 2000000 in
theorem palone_c (x : Came) (w : World) :
    Calls Tryz.prog 103 #[camV x] w fun e w' => e = .returned (.bool (camB x)) ∧ Below w.heap.size w w' := by
  have HB := Lib.hid (show Below w.heap.size w ((w.alloc (camC x)).alloc (orgC x)) from ((Below.refl _ _).alloc (Nat.le_refl _) _).alloc (by simp) _)
  have HE := Lib.hid (show camB x = (inB x.unit 1 1073741824 && inB x.office 0 1073741824 && plcB x) from rfl)
  have H1 := Lib.hid (fun (W : World) => pwithin_c x.accession 1 1073741824 W)
  have H2 := Lib.hid (fun (W : World) => pwithin_c x.number 1 9999 W)
  have H3 := Lib.hid (fun (W : World) => pwithin_c x.unit 1 1073741824 W)
  have H4 := Lib.hid (fun (W : World) => pwithin_c x.office 0 1073741824 W)
  have HC := Lib.hid (plc_cases x)
  generalize plcB x = p at HC HE
  generalize inB x.accession 1 1073741824 = ba at HC H1
  generalize inB x.number 1 9999 = bn at HC H2
  generalize inB x.unit 1 1073741824 = bu at HE H3
  generalize inB x.office 0 1073741824 = bo at HE H4
  rcases HC.out with ⟨rfl, rfl, rfl⟩ | ⟨rfl, rfl, h0, rfl⟩ | ⟨rfl, h0, h1, rfl⟩ | ⟨rfl, h0, h1, rfl⟩ | ⟨rfl, h0, rfl⟩
  all_goals
    clear HC
    go_enter Tryz.func103, Tryz.ntmps103
    go_wp2_with fail
    refine (H1.out _).mono ?_
    rintro e w1 ⟨rfl, rfl⟩
    go_wp2_with fail
    (try (with_reducible refine (H2.out _).mono ?_; rintro e w1 ⟨rfl, rfl⟩; go_wp2_with fail))
    refine (H3.out _).mono ?_
    rintro e w1 ⟨rfl, rfl⟩
    cases bu
    · go_wp2
      go_ret
      exact ⟨ret_bool HE.out.symm, HB.out⟩
    · go_wp2_with fail
      refine (H4.out _).mono ?_
      rintro e w1 ⟨rfl, rfl⟩
      cases bo
      · go_wp2
        go_ret
        exact ⟨ret_bool HE.out.symm, HB.out⟩
      · go_wp2
        go_ret
        exact ⟨ret_bool HE.out.symm, HB.out⟩
theorem clash1_c (g : Nat) (c x : Came) (w : World) (h0 : w.cell? ⟨g, 2, none⟩ = some (.int .i64 c.accession)) (hg : g < w.heap.size) :
    Calls Tryz.prog 131 #[camV x, .pointer (some ⟨g, 0, none⟩)] w fun e w' => e = .returned (.bool (decide (x.accession = c.accession))) ∧ Below w.heap.size w w' := by
  by_cases hx : x.accession = c.accession
  · have he : (x.accession == c.accession) = true := by simp [hx]
    have HE := Lib.hid (show decide (x.accession = c.accession) = true by simp [hx])
    clear hx
    go_enter Tryz.func131, Tryz.ntmps131
    go_wp2
    go_ret
    exact ⟨ret_bool HE.out.symm, (Below.refl _ _).alloc (Nat.le_refl _) _⟩
  · have he : (x.accession == c.accession) = false := by simpa using hx
    have HE := Lib.hid (show decide (x.accession = c.accession) = false by simp [hx])
    clear hx
    go_enter Tryz.func131, Tryz.ntmps131
    go_wp2
    go_ret
    exact ⟨ret_bool HE.out.symm, (Below.refl _ _).alloc (Nat.le_refl _) _⟩
set_option maxHeartbeats 1000000 in
theorem clash2_c (gs g : Nat) (c x : Came) (w : World) (hs : w.cell? ⟨gs, 0, none⟩ = some (.func (.func 131) #[] #[.pointer (some ⟨g, 0, none⟩)])) (hc : w.heap[g]? = some (camC c)) (hgs : gs < w.heap.size) :
    Calls Tryz.prog 133 #[camV x, .pointer (some ⟨gs, 0, none⟩), .pointer (some ⟨g, 0, none⟩)] w fun e w' => e = .returned (.bool (decide (x.accession = c.accession) && decide (x.number = c.number))) ∧ Below w.heap.size w w' := by
  have b1 : Below w.heap.size w (w.alloc (camC x)) := (Below.refl _ _).alloc (Nat.le_refl _) _
  have hg := heap_ltT hc
  have HC1 := Lib.hid (clash1_c g c x (w.alloc (camC x)) (cam_cells ((b1.block _ hg).trans hc)).2.2.1 (Nat.lt_of_lt_of_le hg b1.size))
  have KC := Lib.hid (fun (W : World) (hW : Below (w.heap.size + 1) (w.alloc (camC x)) W) => (And.intro (cam_cells ((hW.block w.heap.size (by omega)).trans (heap_newT w (camC x)))) (cam_cells ((hW.block _ (by omega)).trans ((b1.block _ hg).trans hc)))))
  go_enter Tryz.func133, Tryz.ntmps133
  go_wp2_with fail
  refine HC1.out.mono ?_
  rintro e w1 ⟨rfl, hb1⟩
  have hb1 := hb1.mono (by simp : w.heap.size + 1 ≤ (w.alloc (camC x)).heap.size)
  obtain ⟨⟨x0, x1, x2, x3, xl⟩, c0, c1, c2, c3, cl⟩ := KC.out _ hb1
  have hbF := b1.trans (hb1.mono (Nat.le_succ _))
  by_cases ha : x.accession = c.accession
  · have he : decide (x.accession = c.accession) = true := by simp [ha]
    have HAE := Lib.hid he
    rw [he]
    clear ha he
    by_cases hn : x.number = c.number
    · have he : (x.number == c.number) = true := by simp [hn]
      have HE := Lib.hid (show decide (x.number = c.number) = true by simp [hn])
      clear hn
      go_wp2
      go_ret
      exact ⟨ret_bool (by rw [HAE.out, HE.out]; rfl), hbF⟩
    · have he : (x.number == c.number) = false := by simpa using hn
      have HE := Lib.hid (show decide (x.number = c.number) = false by simp [hn])
      clear hn
      go_wp2
      go_ret
      exact ⟨ret_bool (by rw [HAE.out, HE.out]; rfl), hbF⟩
  · have he : decide (x.accession = c.accession) = false := by simp [ha]
    have HAE := Lib.hid he
    rw [he]
    clear ha he
    go_wp2
    go_ret
    exact ⟨ret_bool (by rw [HAE.out]; rfl), hbF⟩
set_option maxHeartbeats 1000000 in
theorem clash3_c (gs g : Nat) (c x : Came) (w : World) (hs : w.cell? ⟨gs, 0, none⟩ = some (.func (.func 131) #[] #[.pointer (some ⟨g, 0, none⟩)])) (hc : w.heap[g]? = some (camC c)) (hgs : gs < w.heap.size) :
    Calls Tryz.prog 134 #[camV x, .pointer (some ⟨gs, 0, none⟩), .pointer (some ⟨g, 0, none⟩)] w fun e w' => e = .returned (.bool (decide (x.accession = c.accession) && decide (x.office ≠ c.office))) ∧ Below w.heap.size w w' := by
  have b1 : Below w.heap.size w (w.alloc (camC x)) := (Below.refl _ _).alloc (Nat.le_refl _) _
  have hg := heap_ltT hc
  have HC1 := Lib.hid (clash1_c g c x (w.alloc (camC x)) (cam_cells ((b1.block _ hg).trans hc)).2.2.1 (Nat.lt_of_lt_of_le hg b1.size))
  have KC := Lib.hid (fun (W : World) (hW : Below (w.heap.size + 1) (w.alloc (camC x)) W) => (And.intro (cam_cells ((hW.block w.heap.size (by omega)).trans (heap_newT w (camC x)))) (cam_cells ((hW.block _ (by omega)).trans ((b1.block _ hg).trans hc)))))
  go_enter Tryz.func134, Tryz.ntmps134
  go_wp2_with fail
  refine HC1.out.mono ?_
  rintro e w1 ⟨rfl, hb1⟩
  have hb1 := hb1.mono (by simp : w.heap.size + 1 ≤ (w.alloc (camC x)).heap.size)
  obtain ⟨⟨x0, x1, x2, x3, xl⟩, c0, c1, c2, c3, cl⟩ := KC.out _ hb1
  have hbF := b1.trans (hb1.mono (Nat.le_succ _))
  by_cases ha : x.accession = c.accession
  · have he : decide (x.accession = c.accession) = true := by simp [ha]
    have HAE := Lib.hid he
    rw [he]
    clear ha he
    by_cases hn : x.office = c.office
    · have he : (x.office != c.office) = false := by simp [hn]
      have HE := Lib.hid (show decide (x.office ≠ c.office) = false by simp [hn])
      clear hn
      go_wp2
      go_ret
      exact ⟨ret_bool (by rw [HAE.out, HE.out]; rfl), hbF⟩
    · have he : (x.office != c.office) = true := by simpa using hn
      have HE := Lib.hid (show decide (x.office ≠ c.office) = true by simp [hn])
      clear hn
      go_wp2
      go_ret
      exact ⟨ret_bool (by rw [HAE.out, HE.out]; rfl), hbF⟩
  · have he : decide (x.accession = c.accession) = false := by simp [ha]
    have HAE := Lib.hid he
    rw [he]
    clear ha he
    go_wp2
    go_ret
    exact ⟨ret_bool (by rw [HAE.out]; rfl), hbF⟩
set_option maxHeartbeats 2000000 in
theorem camIdx_c (F : FuncId) (lb : Array Value) (p : Came → Bool) (xs : List Came) (v : Value) (w : World) (B : Nat) (hB : B ≤ w.heap.size) (h : Cames w B xs v)
    (hF : ∀ (args : Array Value) (W : World), (callFunc F args).run Tryz.prog W = .ok (.enter F args) W)
    (hp : ∀ (x : Came) (W : World), x ∈ xs → Below w.heap.size w W → Calls Tryz.prog F (#[camV x] ++ lb) W fun e w' => e = .returned (.bool (p x)) ∧ Below W.heap.size W w') :
    Calls Tryz.prog 105 #[v, .func (.func F) #[] lb] w fun e w' => e = .returned (.int .i64 (idxF p xs)) ∧ Below w.heap.size w w' := by
  obtain ⟨A, c, rfl, hc1, hc2, _⟩ := id h
  have HP := Lib.hid hp
  clear hp
  have HF := Lib.hid (show idxF p xs = idxG p (xs.drop 0) 0 from rfl)
  go_enter Tryz.func105, Tryz.ntmps105
  go_wp2
  go_loopw [8] (fun i wr => ∃ k : Nat, k ≤ xs.length ∧ i = .int .i64 k ∧ Hid (idxF p xs = idxG p (xs.drop k) k) ∧ Below w.heap.size w wr) (fun i _ => xs.length - (intOf i).toNat)
  case atStart => exact ⟨0, Nat.zero_le _, rfl, HF, Below.refl _ _⟩
  case round =>
    obtain ⟨k, hk, rfl, HS, hb⟩ := hrel
    clear HF
    have hs := hb.size
    by_cases hlt : k < xs.length
    · obtain ⟨x, hx⟩ := get_at xs hlt
      have HD := Lib.hid (drop_at hx)
      obtain ⟨b, off, rfl, hbB, g0, g1, g2, g3⟩ := Cames.at_ (h.below camS (hb.mono hB)) hx
      have hbw : b < wr.heap.size := by have : b < B := hbB; omega
      have HPX := Lib.hid (HP.out x wr (List.mem_of_getElem? hx) hb)
      clear hx
      go_wp2_with fail
      refine HPX.out.mono ?_
      rintro e w1 ⟨rfl, hb1⟩
      cases hpx : p x
      · go_wp2
        go_roundw
        case rel => exact ⟨k + 1, by omega, by go_num, by show _ = _; rw [HS.out, HD.out]; simp [idxG, hpx], hb.trans (hb1.mono hs)⟩
        case measure => simp [intOf]; omega
      · go_wp2
        go_ret
        exact ⟨ret_int (by rw [HS.out, HD.out]; simp [idxG, hpx]), hb.trans (hb1.mono hs)⟩
    · go_wp2
      go_ret
      exact ⟨ret_int (by rw [HS.out, List.drop_of_length_le (by omega)]; rfl), hb⟩
theorem camAny_c (F : FuncId) (lb : Array Value) (p : Came → Bool) (xs : List Came) (v : Value) (w : World) (B : Nat) (hB : B ≤ w.heap.size) (h : Cames w B xs v)
    (hF : ∀ (args : Array Value) (W : World), (callFunc F args).run Tryz.prog W = .ok (.enter F args) W)
    (hp : ∀ (x : Came) (W : World), x ∈ xs → Below w.heap.size w W → Calls Tryz.prog F (#[camV x] ++ lb) W fun e w' => e = .returned (.bool (p x)) ∧ Below W.heap.size W w') :
    Calls Tryz.prog 132 #[v, .func (.func F) #[] lb] w fun e w' => e = .returned (.bool (xs.any p)) ∧ Below w.heap.size w w' := by
  have HI := Lib.hid (camIdx_c F lb p xs v w B hB h hF hp)
  have HE := Lib.hid (idx_any p xs)
  obtain ⟨A, c, rfl, hc1, hc2, _⟩ := id h
  clear hp hF
  go_enter Tryz.func132, Tryz.ntmps132
  go_wp2_with fail
  refine HI.out.mono ?_
  rintro e w1 ⟨rfl, hb1⟩
  go_wp2
  go_ret
  exact ⟨ret_bool (by rw [← HE.out]), hb1⟩
abbrev smeC (g : Nat) : Obj := .cells #[.func (.func 131) #[] #[.pointer (some ⟨g, 0, none⟩)]] 121
abbrev clW (w : World) (c : Came) : World := (w.alloc (camC c)).alloc (smeC w.heap.size)
theorem clW_at {w W : World} {c : Came} (hW : Below (w.heap.size + 2) (clW w c) W) : W.heap[w.heap.size]? = some (camC c) ∧ W.heap[w.heap.size + 1]? = some (smeC w.heap.size) := by
  have h0 : (clW w c).heap[w.heap.size]? = some (camC c) := (Below.heap_alloc _ _ _ (by simp)).trans (heap_newT w _)
  have h1 : (clW w c).heap[w.heap.size + 1]? = some (smeC w.heap.size) := by
    have := heap_newT (w.alloc (camC c)) (smeC w.heap.size)
    rwa [show (w.alloc (camC c)).heap.size = w.heap.size + 1 by simp] at this
  exact ⟨(hW.block _ (by omega)).trans h0, (hW.block _ (by omega)).trans h1⟩
set_option maxHeartbeats 2000000 in
theorem clash_c (q : List Came) (c : Came) (v : Value) (w : World) (B : Nat) (hB : B ≤ w.heap.size) (h : Cames w B q v) :
    Calls Tryz.prog 104 #[v, camV c] w fun e w' => e = .returned (.int .i64 (clashF q c)) ∧ Below w.heap.size w w' := by
  have bW : Below w.heap.size w (clW w c) := ((Below.refl _ _).alloc (Nat.le_refl _) _).alloc (by simp) _
  have hs2 : (clW w c).heap.size = w.heap.size + 2 := by simp
  have HA := Lib.hid (fun (W : World) (hW : Below (w.heap.size + 2) (clW w c) W) => camAny_c 133 #[.pointer (some ⟨w.heap.size + 1, 0, none⟩), .pointer (some ⟨w.heap.size, 0, none⟩)] (fun x => decide (x.accession = c.accession) && decide (x.number = c.number)) q v W B (by have := hW.size; omega) (h.below camS ((bW.trans (hW.mono (by omega))).mono hB)) (fun _ _ => by kernel_rfl)
    (fun x W' _ hW' => clash2_c (w.heap.size + 1) w.heap.size c x W' (by rw [Lib.cell_of_heap (clW_at (hW.trans (hW'.mono (by have := hW.size; omega)))).2]; rfl) (clW_at (hW.trans (hW'.mono (by have := hW.size; omega)))).1 (heap_ltT (clW_at (hW.trans (hW'.mono (by have := hW.size; omega)))).2)))
  have HC := Lib.hid (fun (W : World) (hW : Below (w.heap.size + 2) (clW w c) W) => camAny_c 134 #[.pointer (some ⟨w.heap.size + 1, 0, none⟩), .pointer (some ⟨w.heap.size, 0, none⟩)] (fun x => decide (x.accession = c.accession) && decide (x.office ≠ c.office)) q v W B (by have := hW.size; omega) (h.below camS ((bW.trans (hW.mono (by omega))).mono hB)) (fun _ _ => by kernel_rfl)
    (fun x W' _ hW' => clash3_c (w.heap.size + 1) w.heap.size c x W' (by rw [Lib.cell_of_heap (clW_at (hW.trans (hW'.mono (by have := hW.size; omega)))).2]; rfl) (clW_at (hW.trans (hW'.mono (by have := hW.size; omega)))).1 (heap_ltT (clW_at (hW.trans (hW'.mono (by have := hW.size; omega)))).2)))
  have HE := Lib.hid (show clashF q c = if c.accession = 0 then 0 else if (q.any fun x => decide (x.accession = c.accession) && decide (x.number = c.number)) = true then 6 else if (q.any fun x => decide (x.accession = c.accession) && decide (x.office ≠ c.office)) = true then 10 else 0 from rfl)
  obtain ⟨A, ca, rfl, -⟩ := id h
  by_cases h0 : c.accession = 0
  · have he : (c.accession == 0) = true := by simp [h0]
    have HE := Lib.hid (HE.out.trans (if_pos h0))
    clear h0
    go_enter Tryz.func104, Tryz.ntmps104
    go_wp2
    go_ret
    exact ⟨ret_int HE.out.symm, (Below.refl _ _).alloc (Nat.le_refl _) _⟩
  · have he : (c.accession == 0) = false := by simpa using h0
    have HE := Lib.hid (HE.out.trans (if_neg h0))
    clear h0
    generalize (q.any fun x => decide (x.accession = c.accession) && decide (x.number = c.number)) = b1 at HA HE
    generalize (q.any fun x => decide (x.accession = c.accession) && decide (x.office ≠ c.office)) = b2 at HC HE
    have hN : ((w.alloc (camC c)).alloc (.cells #[Value.nilFunc] 121)).heap[w.heap.size + 1]? = some (.cells #[Value.nilFunc] 121) := by
      have := heap_newT (w.alloc (camC c)) (.cells #[Value.nilFunc] 121)
      rwa [show (w.alloc (camC c)).heap.size = w.heap.size + 1 by simp] at this
    have q3 : ((w.alloc (camC c)).alloc (.cells #[Value.nilFunc] 121)).cell? ⟨w.heap.size + 1, 0, none⟩ = some Value.nilFunc := by rw [Lib.cell_of_heap hN]; rfl
    have q4 := Lib.frozen_of_heap hN 0
    clear hN
    go_enter Tryz.func104, Tryz.ntmps104
    go_wp2_with fail
    refine (HA.out _ (Below.refl _ _)).mono ?_
    rintro e w1 ⟨rfl, hb1⟩
    have hb := bnd_call (Below.refl (w.heap.size + 2) _) (Nat.le_of_eq hs2.symm) hb1
    cases b1
    · go_wp2_with fail
      refine (HC.out _ hb).mono ?_
      rintro e w2 ⟨rfl, hb2⟩
      have hb := bnd_call hb (Nat.le_of_eq hs2.symm) hb2
      cases b2
      all_goals
        go_wp2
        go_ret
        exact ⟨ret_int HE.out.symm, bW.trans (hb.mono (by omega))⟩
    · go_wp2
      go_ret
      exact ⟨ret_int HE.out.symm, bW.trans (hb.mono (by omega))⟩

theorem SlRep.cut_ {α : Type} {k : Nat} {R : CRep α} {w : World} {F : Nat → Prop} {xs : List α} {A : Option Addr} {n c : Nat} (h : SlRep k R w F xs (.slice A n c)) {i : Nat} (hi : i ≤ xs.length) : SlRep k R w F (xs.take i) (.slice A i c) := by
  obtain ⟨A', c', e, h1, h2, h3⟩ := h
  injection e with e1 e2 e3
  subst e1 e3
  have hl : (xs.take i).length = i := by rw [List.length_take]; omega
  refine ⟨A, c, by rw [hl], by omega, h2, fun j x hx => ?_⟩
  have hj : j < i := by have := lt_of_at hx; omega
  rw [List.getElem?_take, if_pos hj] at hx
  exact h3 j x hx
def zCam : Came := ⟨0, 0, 0, 0⟩
def ofF (l : List Came) (u : Int) : Came × Bool := match l.find? (fun c => decide (c.unit = u)) with | some c => (c, true) | none => (zCam, false)
theorem acc_of (l : List Came) (u : Int) : accF l u = (ofF l u).1.accession := by unfold accF ofF; cases l.find? _ <;> rfl
abbrev put3 (W : World) (g : Nat) (x : Came) : World := ((W.setCell ⟨g, 0, none⟩ (.int .i64 x.office)).setCell ⟨g, 1, none⟩ (.int .i64 x.accession)).setCell ⟨g, 2, none⟩ (.int .i64 x.number)
theorem put3_below {B : Nat} {w0 W : World} {g : Nat} {x : Came} (h : Below B w0 W) (hg : B ≤ g) : Below B w0 (put3 W g x) :=
  ((h.setCell (p := ⟨g, 0, none⟩) hg _).setCell (p := ⟨g, 1, none⟩) hg _).setCell (p := ⟨g, 2, none⟩) hg _
theorem of1_c (u : Int) (g : Nat) (x : Came) (w : World) (h0 : w.cell? ⟨g, 0, none⟩ = some (.int .i64 u)) (hg : g < w.heap.size) :
    Calls Tryz.prog 106 #[camV x, .pointer (some ⟨g, 0, none⟩)] w fun e w' => e = .returned (.bool (decide (x.unit = u))) ∧ Below w.heap.size w w' := by
  by_cases hxu : x.unit = u
  · have he : (x.unit == u) = true := by simp [hxu]
    have HE := Lib.hid (show decide (x.unit = u) = true by simp [hxu])
    clear hxu
    go_enter Tryz.func106, Tryz.ntmps106
    go_wp2
    go_ret
    exact ⟨ret_bool HE.out.symm, (Below.refl _ _).alloc (Nat.le_refl _) _⟩
  · have he : (x.unit == u) = false := by simpa using hxu
    have HE := Lib.hid (show decide (x.unit = u) = false by simp [hxu])
    clear hxu
    go_enter Tryz.func106, Tryz.ntmps106
    go_wp2
    go_ret
    exact ⟨ret_bool HE.out.symm, (Below.refl _ _).alloc (Nat.le_refl _) _⟩
abbrev ofW (w : World) (u : Int) : World := (w.alloc (.cells #[.int .i64 u] 3)).alloc (orgC zCam)
theorem of_find (l : List Came) (u : Int) : (idxF (fun c : Came => decide (c.unit = u)) l = -1 ∧ ofF l u = (zCam, false)) ∨ ∃ (k : Nat) (x : Came), idxF (fun c : Came => decide (c.unit = u)) l = (k : Int) ∧ l[k]? = some x ∧ ofF l u = (x, true) := by
  unfold ofF
  rcases idxG_find (fun c : Came => decide (c.unit = u)) l 0 with ⟨h1, h2⟩ | ⟨k, x, h1, h2, h3⟩
  · exact .inl ⟨h1, by rw [h2]⟩
  · exact .inr ⟨k, x, by rw [show idxF (fun c : Came => decide (c.unit = u)) l = idxG (fun c : Came => decide (c.unit = u)) l 0 from rfl, h1, Nat.zero_add], h2, by rw [h3]⟩
set_option maxRecDepth 100000 in
set_option maxHeartbeats 1000000 in
theorem of_c (l : List Came) (u : Int) (v : Value) (w : World) (B : Nat) (hB : B ≤ w.heap.size) (h : Cames w B l v) :
    Calls Tryz.prog 70 #[v, .int .i64 u] w fun e w' => e = .returned (.tuple #[orgV (ofF l u).1, .bool (ofF l u).2]) ∧ Below w.heap.size w w' := by
  have b2 : Below w.heap.size w (ofW w u) := ((Below.refl _ _).alloc (Nat.le_refl _) _).alloc (by simp) _
  have hs2 : (ofW w u).heap.size = w.heap.size + 2 := by simp
  have h0 : (ofW w u).heap[w.heap.size]? = some (.cells #[.int .i64 u] 3) := (Below.heap_alloc _ _ _ (by simp)).trans (heap_newT w _)
  have h1 : (ofW w u).heap[w.heap.size + 1]? = some (orgC zCam) := by
    have := heap_newT (w.alloc (.cells #[.int .i64 u] 3)) (orgC zCam)
    rwa [show (w.alloc (.cells #[.int .i64 u] 3)).heap.size = w.heap.size + 1 by simp] at this
  have HIX := Lib.hid (camIdx_c 106 #[.pointer (some ⟨w.heap.size, 0, none⟩)] (fun c => decide (c.unit = u)) l v (ofW w u) B (Nat.le_trans hB b2.size) (h.below camS (b2.mono hB)) (fun _ _ => by kernel_rfl)
    (fun x W _ hW => of1_c u w.heap.size x W (by rw [Lib.cell_of_heap ((hW.block w.heap.size (by rw [hs2]; omega)).trans h0)]; rfl) (by have := hW.size; rw [hs2] at this; omega)))
  have HT := Lib.hid (fun (W : World) (hW : Below w.heap.size w W) => h.below camS (hW.mono hB))
  obtain ⟨A, ca, rfl, -⟩ := id h
  rcases of_find l u with ⟨hi, hf⟩ | ⟨k, x, hi, hx, hf⟩
  · have HV := Lib.hid hf
    rw [hi] at HIX
    clear hi hf
    go_enter Tryz.func70, Tryz.ntmps70
    go_wp2_with fail
    refine HIX.out.mono ?_
    rintro e w1 ⟨rfl, hb1⟩
    have hr := (hb1.block (w.heap.size + 1) (by rw [hs2]; omega)).trans h1
    obtain ⟨c0, c1, c2, cl⟩ := org_cells hr
    have f0 := Lib.frozen_of_heap hr 0
    have f1 := Lib.frozen_of_heap hr 1
    have f2 := Lib.frozen_of_heap hr 2
    have HBL := Lib.hid (put3_below (x := zCam) (b2.trans (hb1.mono b2.size)) (show w.heap.size ≤ w.heap.size + 1 from Nat.le_succ _))
    clear hr h0 h1
    go_wp2
    refine bodyPost_ret (v := .tuple #[orgV zCam, .bool false]) (by simp [results, Tryz.results70, go_sem, zCam, c0, c1, c2]) rfl ⟨by rw [HV.out], HBL.out⟩
  · have HV := Lib.hid hf
    have hkl := lt_of_at hx
    have hkk : (k : Int) < (l.length : Int) := by omega
    have hkn : ¬ (k : Int) < 0 := by omega
    rw [hi] at HIX
    clear hi hf
    go_enter Tryz.func70, Tryz.ntmps70
    go_wp2_with fail
    refine HIX.out.mono ?_
    rintro e w1 ⟨rfl, hb1⟩
    have hr := (hb1.block (w.heap.size + 1) (by rw [hs2]; omega)).trans h1
    have hbw1 := b2.trans (hb1.mono b2.size)
    obtain ⟨b, off, rfl, hbB, g0, g1, g2, g3⟩ := Cames.at_ (HT.out _ hbw1) hx
    have hbw : b < w1.heap.size := by have : b < B := hbB; have := hbw1.size; omega
    obtain ⟨c0, c1, c2, cl⟩ := org_cells hr
    have f0 := Lib.frozen_of_heap hr 0
    have f1 := Lib.frozen_of_heap hr 1
    have f2 := Lib.frozen_of_heap hr 2
    have HBL := Lib.hid (put3_below (x := x) hbw1 (show w.heap.size ≤ w.heap.size + 1 from Nat.le_succ _))
    clear hr h0 h1 hx
    go_wp2
    refine bodyPost_ret (v := .tuple #[orgV x, .bool true]) (by simp [results, Tryz.results70, go_sem, c0, c1, c2]) rfl ⟨by rw [HV.out], HBL.out⟩
abbrev pchkP (l : List Came) : Value := .tuple #[.int .i64 (pchkF l).1, .int .i64 (pchkF l).2]
theorem ret_pchk {l : List Came} {a b : Int} (h : pchkF l = (a, b)) : Ending.returned (.tuple #[.int .i64 a, .int .i64 b]) = .returned (pchkP l) := by
  show _ = Ending.returned (.tuple #[.int .i64 (pchkF l).1, .int .i64 (pchkF l).2])
  rw [h]
theorem camF_is (q : List Came) (c : Came) : camF q c = if camB c = false then 2 else if (q.getLast?.any fun x => decide (c.unit ≤ x.unit)) = true then 5 else clashF q c := rfl
set_option maxRecDepth 100000 in
set_option maxHeartbeats 8000000 in
theorem pcheck_c (l : List Came) (v : Value) (w : World) (B : Nat) (hB : B ≤ w.heap.size) (h : Cames w B l v) :
    Calls Tryz.prog 68 #[v] w fun e w' => e = .returned (pchkP l) ∧ Below w.heap.size w w' := by
  obtain ⟨A, ca, rfl, hc1, hc2, _⟩ := id h
  by_cases h256 : 256 < l.length
  · have HX := Lib.hid (show pchkF l = (-1, 8) by unfold pchkF; rw [if_pos h256])
    have hi : (256 : Int) < (l.length : Int) := by omega
    clear h256
    go_enter Tryz.func68, Tryz.ntmps68
    go_wp2
    go_ret2
    exact ⟨ret_pchk HX.out, Below.refl _ _⟩
  · have H0 := Lib.hid (show pchkF l = (passG camF (l.take 0) (l.drop 0)).getD (-1, 0) by unfold pchkF; rw [if_neg h256]; rfl)
    have hi : ¬ (256 : Int) < (l.length : Int) := by omega
    have HR := Lib.hid (fun (W : World) (hW : Below w.heap.size w W) => (⟨Nat.le_trans hB hW.size, h.below camS (hW.mono hB)⟩ : B ≤ W.heap.size ∧ Cames W B l (.slice A l.length ca)))
    have HG := Lib.hid (fun (j : Nat) (hj : j < l.length) => get_at l hj)
    have hl6 : l.length ≤ 256 := by omega
    clear h256
    go_enter Tryz.func68, Tryz.ntmps68
    go_wp2
    go_loopw [12] (fun i wr => ∃ k : Nat, k ≤ l.length ∧ i = .int .i64 k ∧ Hid (pchkF l = (passG camF (l.take k) (l.drop k)).getD (-1, 0)) ∧ Below w.heap.size w wr) (fun i _ => l.length - (intOf i).toNat)
    case atStart => exact ⟨0, Nat.zero_le _, rfl, H0, Below.refl _ _⟩
    case round =>
      clear H0
      obtain ⟨k, hk, rfl, HS, hb⟩ := hrel
      have hs := hb.size
      by_cases hlt : k < l.length
      · obtain ⟨x, hx⟩ := get_at l hlt
        have HP := Lib.hid (show passG camF (l.take k) (l.drop k) = if camF (l.take k) x ≠ 0 then some ((k : Int), camF (l.take k) x) else passG camF (l.take (k + 1)) (l.drop (k + 1)) by
          rw [drop_at hx, passG, take_at hx, List.length_take, Nat.min_eq_left (Nat.le_of_lt hlt)])
        obtain ⟨b, off, rfl, hbB, g0, g1, g2, g3⟩ := Cames.at_ (HR.out _ hb).2 hx
        have hbw : b < wr.heap.size := by have : b < B := hbB; omega
        have hkk : (k : Int) < (l.length : Int) := by omega
        have hwk : IntKind.i64.wrap ((k : Int) + 1) = (k : Int) + 1 := IntWalk.i64_in _ (by omega)
        have bx : Below wr.heap.size wr (wr.alloc (camC x)) := (Below.refl _ _).alloc (Nat.le_refl _) _
        have hsx : (wr.alloc (camC x)).heap.size = wr.heap.size + 1 := by simp
        have KC := Lib.hid (fun (W : World) (hW : Below (wr.heap.size + 1) (wr.alloc (camC x)) W) => cam_cells ((hW.block wr.heap.size (by omega)).trans (heap_newT wr (camC x))))
        have HUP := Lib.hid (fun (W : World) (hW : Below (wr.heap.size + 1) (wr.alloc (camC x)) W) => hb.trans ((bx.trans (hW.mono (Nat.le_succ _))).mono hs))
        have HPA := Lib.hid (palone_c x (wr.alloc (camC x)))
        have HQ := Lib.hid (fun (j : Nat) (y : Came) (hy : l[j]? = some y) (W : World) (hW : Below w.heap.size w W) => (by
          obtain ⟨b', off', e, -, q0, -⟩ := Cames.at_ (HR.out _ hW).2 hy
          injection e with e
          injection e with e1 e2
          subst e1 e2
          exact q0 : W.cell? ⟨b, off + j * 4, none⟩ = some (.int .i64 y.unit)))
        have HCL := Lib.hid (fun (W : World) (hW : Below w.heap.size w W) => clash_c (l.take k) x (.slice (some ⟨b, off, none⟩) k ca) W B (HR.out _ hW).1 ((HR.out _ hW).2.cut_ (Nat.le_of_lt hlt)))
        have HL := Lib.hid (fun (j : Nat) (y : Came) (hy : l[j]? = some y) (hj : k = j + 1) => (by
          have hjl := lt_of_at hy
          rw [hj, take_at hy, List.getLast?_append]
          rfl : (l.take k).getLast? = some y))
        have HL0 := Lib.hid (fun (hi : k = 0) => (by rw [hi]; rfl : (l.take k).getLast? = none))
        have HE := Lib.hid (camF_is (l.take k) x)
        obtain ⟨last, hlast⟩ : ∃ q, (l.take k).getLast? = q := ⟨_, rfl⟩
        rw [hlast] at HE HL HL0
        clear hlast hx
        obtain ⟨cf, hcf⟩ : ∃ q, camF (l.take k) x = q := ⟨_, rfl⟩
        rw [hcf] at HE HP
        clear hcf
        go_wp2_with fail
        refine HPA.out.mono ?_
        rintro e w1 ⟨rfl, hb1⟩
        have hbX := hb1.mono (Nat.le_of_eq hsx.symm)
        clear g0 g1 g2 g3 hb1
        obtain ⟨c0, c1, c2, c3, cl⟩ := KC.out _ hbX
        cases h1 : camB x
        · have HX := Lib.hid (show pchkF l = ((k : Int), 2) by rw [HS.out, HP.out, HE.out, h1]; rfl)
          clear h1
          go_wp2
          go_ret2
          exact ⟨ret_pchk HX.out, HUP.out _ hbX⟩
        · have HE := Lib.hid (HE.out.trans (by rw [h1, if_neg (by decide)]))
          clear h1
          go_wp2
          go_cut [33] (fun v W => v = .bool (last.any fun y => decide (x.unit ≤ y.unit)) ∧ Below (wr.heap.size + 1) (wr.alloc (camC x)) W)
          case first =>
            by_cases hi : 0 < k
            · obtain ⟨y, hy⟩ := HG.out (k - 1) (by omega)
              have hl := HL.out (k - 1) y hy (by omega)
              have q0 := HQ.out (k - 1) y hy _ (HUP.out _ hbX)
              have hwj : IntKind.i64.wrap ((k : Int) - 1) = ((k - 1 : Nat) : Int) := by rw [IntWalk.i64_in _ (by omega)]; omega
              have hjj : ((k - 1 : Nat) : Int) < (l.length : Int) := by omega
              have hi' : (0 : Int) < (k : Int) := by omega
              subst hl
              clear hy
              go_quiet (fail)
              go_wp2_with fail
              go_meet
              exact ⟨rfl, below_drewN hbX _⟩
            · have hl := HL0.out (by omega)
              have hi' : ¬ (0 : Int) < (k : Int) := by omega
              subst hl
              go_quiet (fail)
              go_wp2_with fail
              go_meet
              exact ⟨rfl, below_drewN hbX _⟩
          case rest =>
            obtain ⟨rfl, hb⟩ := hcut
            clear c0 c1 c2 c3 cl hbX HQ HG HL HL0
            cases hq : last.any fun y => decide (x.unit ≤ y.unit)
            · have HE := Lib.hid (HE.out.trans (by rw [hq, if_neg (by decide)]))
              clear hq
              have hbX := hb.drew
              have hkc : (k : Int) ≤ (ca : Int) := by omega
              have hca : ¬ ca = 0 := by omega
              go_wp2
              go_region_held3 (fun W => W.cell? ⟨wr.heap.size, 0, none⟩ = some (.int .i64 x.unit) ∧ W.cell? ⟨wr.heap.size, 1, none⟩ = some (.int .i64 x.office) ∧ W.cell? ⟨wr.heap.size, 2, none⟩ = some (.int .i64 x.accession) ∧ W.cell? ⟨wr.heap.size, 3, none⟩ = some (.int .i64 x.number) ∧ wr.heap.size < W.heap.size) (with_reducible exact KC.out _ hbX) (first
                | (go_at_call 104; (with_reducible refine (HCL.out _ (HUP.out _ hbX)).mono ?_); rintro e w5 ⟨rfl, hb5⟩; have hbX := bnd_call hbX (Nat.le_of_eq hsx.symm) hb5))
              by_cases hc0 : clashF (l.take k) x = 0
              · have hne : (clashF (l.take k) x != 0) = false := by simp [hc0]
                have HX := Lib.hid (show pchkF l = (passG camF (l.take (k + 1)) (l.drop (k + 1))).getD (-1, 0) by rw [HS.out, HP.out, HE.out, if_neg (fun c => c hc0)])
                clear hc0
                go_wp2
                go_roundw
                case rel => exact ⟨k + 1, by omega, by go_num, HX, HUP.out _ hbX⟩
                case measure => simp [intOf]; omega
              · have hne : (clashF (l.take k) x != 0) = true := by simp [hc0]
                have HX := Lib.hid (show pchkF l = ((k : Int), clashF (l.take k) x) by rw [HS.out, HP.out, HE.out, if_pos hc0]; rfl)
                clear hc0
                go_wp2
                go_ret2
                exact ⟨ret_pchk HX.out, HUP.out _ hbX⟩
            · have HX := Lib.hid (show pchkF l = ((k : Int), 5) by rw [HS.out, HP.out, HE.out, hq]; rfl)
              clear hq
              go_wp2
              go_ret2
              exact ⟨ret_pchk HX.out, HUP.out _ hb⟩
      · have hkk : ¬ (k : Int) < (l.length : Int) := by omega
        have HX := Lib.hid (show pchkF l = (-1, 0) by rw [HS.out, List.drop_of_length_le (by omega)]; rfl)
        go_wp2
        go_ret2
        exact ⟨ret_pchk HX.out, hb⟩
end Go.Proofs.YthbccfchjgihgaaGreatDoor
