/- The program: Print. -/
import Derived.Test.YtenaifmkejmdaaaGreatDoorHex
import Derived.Test.YtenaifmkejmdaaaGreatDoorTot
namespace Go.Proofs.YtenaifmkejmdaaaGreatDoor
open Go.RowKit

/-- numbers laid in a block of their own -/
theorem ints_at {W : World} {g : Nat} {ns : List Int} (hg : W.heap[g]? = some (.cells (ns.map fun n => Value.int .i64 n).toArray 3)) (hl : ns.length ≤ 1000) : Ints W W.heap.size ns (.slice (some ⟨g, 0, none⟩) ns.length ns.length) := by
  refine ⟨_, _, rfl, Nat.le_refl _, by omega, fun i x hx => ⟨g, 0, intEnc x, rfl, heap_ltA hg, rfl, fun j u hu => ?_⟩⟩
  have hi := lt_of_at hx
  rcases j with _ | j
  · simp [intEnc] at hu
    subst hu
    rw [Lib.cell_of_heap hg]
    have : 0 + i * 1 + 0 = i := by omega
    rw [this]
    simp [hx]
  · simp [intEnc] at hu
theorem bytes_cells (s : ByteArray) : Lib.strCells s = Lib.byteCells s.data.toList := by
  simp [Lib.strCells, Lib.byteCells]
theorem bcells_app (l m : List UInt8) : Lib.byteCells l ++ Lib.byteCells m = Lib.byteCells (l ++ m) := by simp [Lib.byteCells]
theorem printF_right {l : TL} (h : rightB l = true) : printF l = headT l ++ l.items.flatMap rowT := by unfold printF; rw [if_pos h]
theorem ret_prt {l : TL} {a : ByteArray} {b : Int} (h1 : a = ⟨(printF l).toArray⟩) (h2 : b = printE l) : Ending.returned (.tuple #[.string a, .int .i64 b]) = .returned (.tuple #[.string ⟨(printF l).toArray⟩, .int .i64 (printE l)]) := by rw [h1, h2]
abbrev rowC (x : Item) : Obj := .cells #[.int .i64 x.number, .int .i64 x.file, .int .i64 x.first, .int .i64 x.last, .int .i64 x.pages] 3
abbrev intsC (ns : List Int) : Obj := .cells (ns.map fun n => Value.int .i64 n).toArray 3
set_option maxRecDepth 100000 in
set_option maxHeartbeats 8000000 in
theorem print_c (l : TL) (v : Value) (w : World) (B : Nat) (hB : B ≤ w.heap.size) (h : TLRep w B l v) (hV : VarOk w) :
    Calls Tryz.prog 16 #[tlV l v] w fun e w' => e = .returned (.tuple #[.string ⟨(printF l).toArray⟩, .int .i64 (printE l)]) ∧ Below w.heap.size w w' := by
  have b0 : Below w.heap.size w (w.alloc (tlC l v)) := (Below.refl _ _).alloc (Nat.le_refl _) _
  have hb0 : Below (w.heap.size + 1) (w.alloc (tlC l v)) (w.alloc (tlC l v)) := Below.refl _ _
  have KC := Lib.hid (fun (W : World) (hW : Below (w.heap.size + 1) (w.alloc (tlC l v)) W) => tlW_at hW)
  have HR := Lib.hid (right_c l v (w.alloc (tlC l v)) B (Nat.le_trans hB b0.size) (h.below itmS (b0.mono hB)) (hV.below b0))
  obtain ⟨A, c, rfl, -⟩ := id h
  cases hr : rightB l
  · rw [hr] at HR
    have HX := Lib.hid (show (⟨#[]⟩ : ByteArray) = ⟨(printF l).toArray⟩ ∧ (1 : Int) = printE l by unfold printF printE; rw [hr]; exact ⟨rfl, rfl⟩)
    have HX2 := Lib.hid (show printF l = [] by unfold printF; rw [hr]; rfl)
    clear hr
    go_enter Tryz.func16, Tryz.ntmps16
    go_wp2_with fail
    refine HR.out.mono ?_
    rintro e w1 ⟨rfl, hb1⟩
    go_wp2
    go_ret2
    exact ⟨ret_prt HX.out.1 HX.out.2, b0.trans (hb1.mono (by simp))⟩
  · rw [hr] at HR
    have hok := right_ok hr
    have HPF := Lib.hid (printF_right hr)
    have HPE := Lib.hid (show (0 : Int) = printE l by unfold printE; rw [hr]; rfl)
    have hlen := hok.len
    have HIT := Lib.hid (fun (k : Nat) (x : Item) (hx : l.items[k]? = some x) (W : World) (hW : Below w.heap.size w W) => Items.at_ (h.below itmS (hW.mono hB)) hx)
    have HOK := Lib.hid (fun (k : Nat) (x : Item) (hx : l.items[k]? = some x) => hok.item x (List.mem_of_getElem? hx))
    have hhd : ∀ n ∈ [l.id, l.office, l.day], 0 ≤ n ∧ n ≤ 1073741824 := by
      have a := hok.id; have b := hok.office; have d := hok.day
      intro n hn
      simp only [List.mem_cons, List.not_mem_nil, or_false] at hn
      rcases hn with rfl | rfl | rfl <;> omega
    have HRL := Lib.hid (fun (k : Nat) => rows_len (l.items.take k) (fun x hx => hok.item x (List.mem_of_mem_take hx)))
    have HHL := Lib.hid (lineT_len wList [l.id, l.office, l.day] hhd)
    have HLI := Lib.hid (fun (W : World) (g : Nat) (hg : W.heap[g]? = some (intsC [l.id, l.office, l.day])) (hW : Below w.heap.size w W) => line_c ⟨wList.toArray⟩ [l.id, l.office, l.day] _ W W.heap.size (Nat.le_refl _) (ints_at hg (by simp)) (hV.below hW) hhd (by decide) (by simp))
    clear hr hok
    go_enter Tryz.func16, Tryz.ntmps16
    go_wp2_with fail
    refine HR.out.mono ?_
    rintro e w1 ⟨rfl, hb1⟩
    have bX := bnd_call hb0 (by simp) hb1
    have bW := b0.trans (bX.mono (Nat.le_succ _))
    obtain ⟨z0, z1, z2, z3, zl⟩ := KC.out _ bX
    have bs1 := bW.size
    have hb2 : Below w1.heap.size w1 (w1.alloc (.cells #[.pointer none, .slice none 0 0] 65)) := (Below.refl _ _).alloc (Nat.le_refl _) _
    have hb3 := hb2.alloc (by simp) (intsC [l.id, l.office, l.day])
    have HB0 := Lib.hid (Bld.start w1)
    have HL1 := Lib.hid (HLI.out ((w1.alloc (.cells #[.pointer none, .slice none 0 0] 65)).alloc (intsC [l.id, l.office, l.day])) (w1.heap.size + 1) (by
      have := heap_newA (w1.alloc (.cells #[.pointer none, .slice none 0 0] 65)) (intsC [l.id, l.office, l.day])
      rwa [show (w1.alloc (.cells #[.pointer none, .slice none 0 0] 65)).heap.size = w1.heap.size + 1 by simp] at this) (bW.trans (hb3.mono bs1)))
    obtain ⟨th, hth⟩ : ∃ th : ByteArray, th = ⟨(lineT wList [l.id, l.office, l.day]).toArray⟩ := ⟨_, rfl⟩
    have HTH := Lib.hid (show th.data.toList = lineT wList [l.id, l.office, l.day] by rw [hth])
    have HL2 := Lib.hid (show Calls Tryz.prog 40 #[.string ⟨#[108, 105, 115, 116]⟩, .slice (some ⟨w1.heap.size + 1, 0, none⟩) 3 3] ((w1.alloc (.cells #[.pointer none, .slice none 0 0] 65)).alloc (.cells #[.int .i64 l.id, .int .i64 l.office, .int .i64 l.day] 3)) fun e w' => e = .returned (.string th) ∧ Below (w1.heap.size + 2) ((w1.alloc (.cells #[.pointer none, .slice none 0 0] 65)).alloc (.cells #[.int .i64 l.id, .int .i64 l.office, .int .i64 l.day] 3)) w' by
      rw [hth]
      have := HL1.out
      simp only [World.size_alloc] at this
      exact this)
    have hts : th.size ≤ 100 := by
      rw [bytes_size HTH.out]
      have := HHL.out
      simp only [List.length_cons, List.length_nil] at this
      have h4 : wList.length = 4 := rfl
      omega
    have hs1 : (th ++ ⟨#[10]⟩ : ByteArray).size = th.size + 1 := by rw [ByteArray.size_append]; rfl
    have hq1 : ¬ 9223372036854775807 < th.size + 1 := by omega
    clear hth HL1 hb1
    go_wp2_with fail
    refine HL2.out.mono ?_
    rintro e w2 ⟨rfl, hb4⟩
    have hb24 := hb3.trans (hb4.mono (by simp))
    have bX2 := bnd_call bX (by simp) hb24
    have bW2 := bW.trans (hb24.mono bs1)
    clear z0 z1 z2 z3 zl
    obtain ⟨z0, z1, z2, z3, zl⟩ := KC.out _ bX2
    have hB2 : Bld w1.heap.size w1.heap.size (Lib.byteCells []) w2 := ((HB0.out).below (w' := (w1.alloc (.cells #[.pointer none, .slice none 0 0] 65)).alloc (intsC [l.id, l.office, l.day])) ((Below.refl _ _).alloc (Nat.le_refl _) _)).below (hb4.mono (by simp))
    have HW1 := Lib.hid (wstr_c w1.heap.size w1.heap.size (Lib.byteCells []) (th ++ ⟨#[10]⟩) w2 hB2 (by rw [hs1]; simp [Lib.byteCells]; omega) hb24.size)
    clear hB2 hb4
    go_wp2_with fail
    refine HW1.out.mono ?_
    rintro e w3 ⟨rfl, hu3, hb3w⟩
    rw [bytes_cells, bcells_app, bytes_app, HTH.out] at hu3
    have HB3 := Lib.hid (show Bld w1.heap.size w1.heap.size (Lib.byteCells (headT l ++ (l.items.take 0).flatMap rowT)) w3 by
      have e : headT l ++ (l.items.take 0).flatMap rowT = [] ++ (lineT wList [l.id, l.office, l.day] ++ (⟨#[10]⟩ : ByteArray).data.toList) := by simp [headT]
      rw [e]
      exact .inr hu3)
    have hb3W := hb24.trans hb3w
    have bX3 := bX.trans (hb3W.mono (by have := bX.size; simp at this; exact this))
    clear z0 z1 z2 z3 zl hu3 HW1 HL2 HB0 HTH hts hs1 hq1 hb2 hb3 hb24 hb3w
    obtain ⟨z0, z1, z2, z3, zl⟩ := KC.out _ bX3
    go_wp2
    go_loopw [23] (fun i wr => ∃ k : Nat, k ≤ l.items.length ∧ i = .int .i64 k ∧ Hid (Bld w1.heap.size w1.heap.size (Lib.byteCells (headT l ++ (l.items.take k).flatMap rowT)) wr) ∧ Below w1.heap.size w1 wr) (fun i _ => l.items.length - (intOf i).toNat)
    case atStart => exact ⟨0, Nat.zero_le _, rfl, HB3, hb3W⟩
    case round =>
      clear z0 z1 z2 z3 zl HB3
      obtain ⟨k, hk, rfl, HBk, hbr⟩ := hrel
      have bWr := bW.trans (hbr.mono bs1)
      have bsr := bWr.size
      by_cases hlt : k < l.items.length
      · obtain ⟨x, hx⟩ := get_at l.items hlt
        obtain ⟨b, off, rfl, hbB, g0, g1, g2, g3, g4, g5, g6⟩ := HIT.out k x hx _ bWr
        have hbw : b < wr.heap.size := by have : b < B := hbB; omega
        have hok := HOK.out k x hx
        have hki : (k : Int) < (l.items.length : Int) := by omega
        have hns : ∀ n ∈ [x.number, x.file, x.first, x.last, x.pages], 0 ≤ n ∧ n ≤ 1073741824 := by
          have a := hok.number; have b := hok.file; have c := hok.dating; have d := hok.pages
          intro n hn
          simp only [List.mem_cons, List.not_mem_nil, or_false] at hn
          rcases hn with rfl | rfl | rfl | rfl | rfl <;> omega
        have hll := lineT_len wItem [x.number, x.file, x.first, x.last, x.pages] hns
        have h4 : wItem.length = 4 := rfl
        simp only [List.length_cons, List.length_nil] at hll
        obtain ⟨tl, htl⟩ : ∃ tl : ByteArray, tl = ⟨(lineT wItem [x.number, x.file, x.first, x.last, x.pages]).toArray⟩ := ⟨_, rfl⟩
        obtain ⟨hx2, hhx⟩ : ∃ hx2 : ByteArray, hx2 = ⟨(hexT x.digest.data.toList).toArray⟩ := ⟨_, rfl⟩
        have HTL := Lib.hid (show tl.data.toList = lineT wItem [x.number, x.file, x.first, x.last, x.pages] by rw [htl])
        have HHX := Lib.hid (show hx2.data.toList = hexT x.digest.data.toList by rw [hhx])
        have HRT := Lib.hid (show rowT x = lineT wItem [x.number, x.file, x.first, x.last, x.pages] ++ [32] ++ hexT x.digest.data.toList ++ [32] ++ x.title.data.toList ++ [10] from rfl)
        have HSN := Lib.hid (show (l.items.take (k + 1)).flatMap rowT = (l.items.take k).flatMap rowT ++ rowT x by rw [take_at hx, List.flatMap_append, List.flatMap_singleton])
        have hrl := HRL.out k
        have hhl := HHL.out
        simp only [List.length_cons, List.length_nil] at hhl
        have h5 : wList.length = 4 := rfl
        have hol : (headT l ++ (l.items.take k).flatMap rowT).length ≤ 100000 := by
          rw [List.length_append, headT, List.length_append]
          simp only [List.length_cons, List.length_nil]
          have : (l.items.take k).length ≤ 128 := by rw [List.length_take]; omega
          omega
        have hts : tl.size ≤ 100 := by rw [bytes_size HTL.out]; omega
        have hxs : hx2.size ≤ 64 := by rw [bytes_size HHX.out, hexT_len]; have := hok.digest; rw [Array.length_toList]; show 2 * x.digest.size ≤ 64; omega
        have hti := (name_size hok.title).2
        have HLW := Lib.hid (fun (W : World) (g : Nat) (hg : W.heap[g]? = some (rowC x)) (hW : Below w.heap.size w W) => (by
          have := line_c ⟨wItem.toArray⟩ [x.number, x.file, x.first, x.last, x.pages] _ W W.heap.size (Nat.le_refl _) (ints_at (ns := [x.number, x.file, x.first, x.last, x.pages]) hg (by simp)) (hV.below hW) hns (by decide) (by simp)
          rw [htl]
          exact this : Calls Tryz.prog 40 #[.string ⟨#[105, 116, 101, 109]⟩, .slice (some ⟨g, 0, none⟩) 5 5] W fun e w' => e = .returned (.string tl) ∧ Below W.heap.size W w'))
        have HXW := Lib.hid (fun (W : World) => (by
          have := hex_c x.digest W (by have := hok.digest; omega)
          rw [hhx]
          exact this : Calls Tryz.prog 41 #[.string x.digest] W fun e w' => e = .returned (.string hx2) ∧ Below W.heap.size W w'))
        have hs1 : (tl ++ ⟨#[32]⟩ : ByteArray).size = tl.size + 1 := by rw [ByteArray.size_append]; rfl
        have hs2 : (tl ++ ⟨#[32]⟩ ++ hx2 : ByteArray).size = tl.size + 1 + hx2.size := by rw [ByteArray.size_append, hs1]
        have hs3 : (tl ++ ⟨#[32]⟩ ++ hx2 ++ ⟨#[32]⟩ : ByteArray).size = tl.size + 1 + hx2.size + 1 := by rw [ByteArray.size_append, hs2]; rfl
        have hs4 : (tl ++ ⟨#[32]⟩ ++ hx2 ++ ⟨#[32]⟩ ++ x.title : ByteArray).size = tl.size + 1 + hx2.size + 1 + x.title.size := by rw [ByteArray.size_append, hs3]
        have hs5 : (tl ++ ⟨#[32]⟩ ++ hx2 ++ ⟨#[32]⟩ ++ x.title ++ ⟨#[10]⟩ : ByteArray).size ≤ 300 := by rw [ByteArray.size_append, hs4]; show _ + 1 ≤ 300; omega
        have hq1 : ¬ 9223372036854775807 < tl.size + 1 := by omega
        have hq2 : ¬ 9223372036854775807 < tl.size + 1 + hx2.size := by omega
        have hq3 : ¬ 9223372036854775807 < tl.size + 1 + hx2.size + 1 := by omega
        have hq4 : ¬ 9223372036854775807 < tl.size + 1 + hx2.size + 1 + x.title.size := by omega
        have hq5 : ¬ 9223372036854775807 < tl.size + 1 + hx2.size + 1 + x.title.size + 1 := by omega
        have HNX := Lib.hid (show (tl ++ ⟨#[32]⟩ ++ hx2 ++ ⟨#[32]⟩ ++ x.title ++ ⟨#[10]⟩ : ByteArray).data.toList = rowT x by
          rw [HRT.out, ← HTL.out, ← HHX.out]
          simp only [bytes_app])
        have hb1 : Below wr.heap.size wr (wr.alloc (itmC x)) := (Below.refl _ _).alloc (Nat.le_refl _) _
        have hbX : Below (wr.heap.size + 1) (wr.alloc (itmC x)) (wr.alloc (itmC x)).drew := (Below.refl _ _).drew
        have hbZ : Below (wr.heap.size + 1) (wr.alloc (itmC x)) ((wr.alloc (itmC x)).alloc (rowC x)).drew := ((Below.refl _ _).alloc (by simp) _).drew
        have hgZ : (((wr.alloc (itmC x)).alloc (rowC x)).drew).heap[wr.heap.size + 1]? = some (rowC x) := by
          have := heap_newA (wr.alloc (itmC x)) (rowC x)
          rwa [show (wr.alloc (itmC x)).heap.size = wr.heap.size + 1 by simp] at this
        have HLZ := Lib.hid (HLW.out _ _ hgZ (bWr.trans ((hb1.trans (hbZ.mono (Nat.le_succ _))).mono bsr)))
        have KEEP := Lib.hid (fun (W : World) (hW : Below (wr.heap.size + 1) (wr.alloc (itmC x)) W) => (have h := itmW_at hW; ⟨h.1, h.2.1, h.2.2.1, h.2.2.2.1, h.2.2.2.2.1, h.2.2.2.2.2.1, h.2.2.2.2.2.2.1⟩ : W.cell? ⟨wr.heap.size, 0, none⟩ = some (.int .i64 x.number) ∧ W.cell? ⟨wr.heap.size, 1, none⟩ = some (.int .i64 x.file) ∧ W.cell? ⟨wr.heap.size, 2, none⟩ = some (.string x.title) ∧ W.cell? ⟨wr.heap.size, 3, none⟩ = some (.int .i64 x.first) ∧ W.cell? ⟨wr.heap.size, 4, none⟩ = some (.int .i64 x.last) ∧ W.cell? ⟨wr.heap.size, 5, none⟩ = some (.int .i64 x.pages) ∧ W.cell? ⟨wr.heap.size, 6, none⟩ = some (.string x.digest)))
        have HWW := Lib.hid (fun (W : World) (hW : Below (wr.heap.size + 1) (wr.alloc (itmC x)) W) => wstr2_c w1.heap.size w1.heap.size (Lib.byteCells (headT l ++ (l.items.take k).flatMap rowT)) (tl ++ ⟨#[32]⟩ ++ hx2 ++ ⟨#[32]⟩ ++ x.title ++ ⟨#[10]⟩) wr W HBk.out (hb1.trans (hW.mono (Nat.le_succ _))) (by rw [Lib.byteCells_length]; omega) (Nat.le_trans hbr.size (hb1.trans (hW.mono (Nat.le_succ _))).size))
        have KEEP2 := Lib.hid (fun (W W' : World) (hW : Below (wr.heap.size + 1) (wr.alloc (itmC x)) W) (hk : ∀ k, wr.heap.size ≤ k → k < W.heap.size → W'.heap[k]? = W.heap[k]?) => (have hh := hk wr.heap.size (Nat.le_refl _) (by have := hW.size; simp at this; omega); have h := KEEP.out W hW; ⟨(World.cell?_of_block (a := ⟨wr.heap.size, 0, none⟩) hh).trans h.1, (World.cell?_of_block (a := ⟨wr.heap.size, 1, none⟩) hh).trans h.2.1, (World.cell?_of_block (a := ⟨wr.heap.size, 2, none⟩) hh).trans h.2.2.1, (World.cell?_of_block (a := ⟨wr.heap.size, 3, none⟩) hh).trans h.2.2.2.1, (World.cell?_of_block (a := ⟨wr.heap.size, 4, none⟩) hh).trans h.2.2.2.2.1, (World.cell?_of_block (a := ⟨wr.heap.size, 5, none⟩) hh).trans h.2.2.2.2.2.1, (World.cell?_of_block (a := ⟨wr.heap.size, 6, none⟩) hh).trans h.2.2.2.2.2.2⟩ : W'.cell? ⟨wr.heap.size, 0, none⟩ = some (.int .i64 x.number) ∧ W'.cell? ⟨wr.heap.size, 1, none⟩ = some (.int .i64 x.file) ∧ W'.cell? ⟨wr.heap.size, 2, none⟩ = some (.string x.title) ∧ W'.cell? ⟨wr.heap.size, 3, none⟩ = some (.int .i64 x.first) ∧ W'.cell? ⟨wr.heap.size, 4, none⟩ = some (.int .i64 x.last) ∧ W'.cell? ⟨wr.heap.size, 5, none⟩ = some (.int .i64 x.pages) ∧ W'.cell? ⟨wr.heap.size, 6, none⟩ = some (.string x.digest)))
        clear hx hok hns hll htl hhx hrl hhl hol HLW hgZ HBk
        go_wp2
        go_region_held3 (fun W => W.cell? ⟨wr.heap.size, 0, none⟩ = some (.int .i64 x.number) ∧ W.cell? ⟨wr.heap.size, 1, none⟩ = some (.int .i64 x.file) ∧ W.cell? ⟨wr.heap.size, 2, none⟩ = some (.string x.title) ∧ W.cell? ⟨wr.heap.size, 3, none⟩ = some (.int .i64 x.first) ∧ W.cell? ⟨wr.heap.size, 4, none⟩ = some (.int .i64 x.last) ∧ W.cell? ⟨wr.heap.size, 5, none⟩ = some (.int .i64 x.pages) ∧ W.cell? ⟨wr.heap.size, 6, none⟩ = some (.string x.digest)) (first | (with_reducible exact KEEP.out _ hbX) | (with_reducible exact KEEP.out _ hbZ) | (with_reducible exact KEEP2.out _ _ hbX hk6)) (first
          | (go_at_call 40; (with_reducible refine HLZ.out.mono ?_); rintro e w4 ⟨rfl, hb4⟩; have hbX := bnd_call hbZ (by simp) hb4)
          | (go_at_call 41; (with_reducible refine (HXW.out _).mono ?_); rintro e w5 ⟨rfl, hb5⟩; have hbX := bnd_call hbX (by simp) hb5)
          | (go_at_call 39; (with_reducible refine (HWW.out _ hbX).mono ?_); rintro e w6 ⟨rfl, hu6, hb6, hk6⟩))
        rw [bytes_cells, bcells_app, HNX.out, List.append_assoc, ← HSN.out] at hu6
        have HBN := Lib.hid (.inr hu6 : Bld w1.heap.size w1.heap.size (Lib.byteCells (headT l ++ (l.items.take (k + 1)).flatMap rowT)) w6)
        have hbF := (hbr.trans ((hb1.trans (hbX.mono (Nat.le_succ _))).mono hbr.size)).trans hb6
        clear hu6
        go_wp2
        go_roundw
        case rel => exact ⟨k + 1, by omega, by go_num, HBN, hbF⟩
        case measure => simp [intOf]; omega
      · have hk2 : k = l.items.length := by omega
        subst hk2
        have HBF := HBk.out
        rw [List.take_length, ← HPF.out] at HBF
        have HST := Lib.hid (Tryz.Builder_String_any w1.heap.size w1.heap.size (printF l) wr HBF hbr.size)
        have hki : ¬ (l.items.length : Int) < (l.items.length : Int) := by omega
        clear HBk HBF
        go_wp2_with fail
        refine HST.out.mono ?_
        rintro e w7 ⟨rfl, hb7⟩
        go_wp2
        go_ret2
        exact ⟨ret_prt rfl HPE.out, bW.trans ((hbr.trans hb7).mono bs1)⟩
end Go.Proofs.YtenaifmkejmdaaaGreatDoor
