/- The reference: Print. -/
import Derived.Test.YtenaifmkejmdaaaGreatDoorRhA
import Derived.Test.YtenaifmkejmdaaaGreatDoorRgD
import Derived.Test.YtenaifmkejmdaaaGreatDoorPrt
namespace Go.Proofs.YtenaifmkejmdaaaGreatDoor
open Go.RowKit

def decB (n : Int) : ByteArray := ⟨(Lib.itoa n).toArray⟩
def hexB (s : ByteArray) : ByteArray := ⟨(hexT s.data.toList).toArray⟩
theorem rdec_c (n : Int) (h0 : 0 ≤ n) (h1 : n ≤ 1073741824) (w : World) : Calls Tryz.prog 43 #[.int .i64 n] w fun e w' => e = .returned (.string (decB n)) ∧ Below w.heap.size w w' := by
  obtain ⟨m, rfl⟩ : ∃ m : Nat, n = (m : Int) := ⟨n.toNat, by omega⟩
  have := rdecimal_c (m + 1) m (by omega) (by omega) w
  have he : decB (m : Int) = ⟨(Lib.decDigits m).toArray⟩ := by
    unfold decB
    congr 2
  rw [he]
  exact this
theorem decB_size {n : Int} (h0 : 0 ≤ n) (h1 : n ≤ 1073741824) : (decB n).size ≤ 10 := by
  have := (itoa_pos h0 h1).2.2
  have h2 : (decB n).size = (Lib.itoa n).length := bytes_size rfl
  omega
theorem head_bytes (l : TL) : ((⟨#[108, 105, 115, 116, 32]⟩ : ByteArray) ++ decB l.id ++ ⟨#[32]⟩ ++ decB l.office ++ ⟨#[32]⟩ ++ decB l.day ++ ⟨#[10]⟩).data.toList = headT l := by
  simp only [bytes_app]
  simp [headT, lineT, wList, decB]
theorem row_bytes (x : Item) : ((⟨#[105, 116, 101, 109, 32]⟩ : ByteArray) ++ decB x.number ++ ⟨#[32]⟩ ++ decB x.file ++ ⟨#[32]⟩ ++ decB x.first ++ ⟨#[32]⟩ ++ decB x.last ++ ⟨#[32]⟩ ++ decB x.pages ++ ⟨#[32]⟩ ++ hexB x.digest ++ ⟨#[32]⟩ ++ x.title ++ ⟨#[10]⟩).data.toList = rowT x := by
  simp only [bytes_app]
  simp [rowT, lineT, wItem, decB, hexB]
set_option maxRecDepth 100000 in
set_option maxHeartbeats 4000000 in
theorem rprint_c (l : TL) (v : Value) (w : World) (B : Nat) (hB : B ≤ w.heap.size) (h : TLRep w B l v) :
    Calls Tryz.prog 17 #[tlV l v] w fun e w' => e = .returned (.tuple #[.string ⟨(printF l).toArray⟩, .int .i64 (printE l)]) ∧ Below w.heap.size w w' := by
  have b0 : Below w.heap.size w (w.alloc (tlC l v)) := (Below.refl _ _).alloc (Nat.le_refl _) _
  have hb0 : Below (w.heap.size + 1) (w.alloc (tlC l v)) (w.alloc (tlC l v)) := Below.refl _ _
  have KC := Lib.hid (fun (W : World) (hW : Below (w.heap.size + 1) (w.alloc (tlC l v)) W) => tlW_at hW)
  have HR := Lib.hid (rright_c l v (w.alloc (tlC l v)) B (Nat.le_trans hB b0.size) (h.below itmS (b0.mono hB)))
  obtain ⟨A, c, rfl, -⟩ := id h
  cases hr : rightB l
  · rw [hr] at HR
    have HX := Lib.hid (show (⟨#[]⟩ : ByteArray) = ⟨(printF l).toArray⟩ ∧ (1 : Int) = printE l by unfold printF printE; rw [hr]; exact ⟨rfl, rfl⟩)
    have HX2 := Lib.hid (show printF l = [] by unfold printF; rw [hr]; rfl)
    clear hr
    go_enter Tryz.func17, Tryz.ntmps17
    go_wp2_with fail
    refine HR.out.mono ?_
    rintro e w1 ⟨rfl, hb1⟩
    go_wp2
    go_ret2
    exact ⟨ret_prt HX.out.1 HX.out.2, b0.trans (hb1.mono (by simp))⟩
  · rw [hr] at HR
    have hok := right_ok hr
    have HPF := Lib.hid (printF_right hr)
    have HPE := Lib.hid (show (0 : Int) = printE l by unfold printE; rw [hr]; rfl)
    have hlen := hok.len
    have HIT := Lib.hid (fun (k : Nat) (x : Item) (hx : l.items[k]? = some x) (W : World) (hW : Below w.heap.size w W) => Items.at_ (h.below itmS (hW.mono hB)) hx)
    have HOK := Lib.hid (fun (k : Nat) (x : Item) (hx : l.items[k]? = some x) => hok.item x (List.mem_of_getElem? hx))
    have hi := hok.id
    have ho := hok.office
    have hd := hok.day
    have D1 := Lib.hid (fun W => rdec_c l.id (by omega) (by omega) W)
    have D2 := Lib.hid (fun W => rdec_c l.office (by omega) (by omega) W)
    have D3 := Lib.hid (fun W => rdec_c l.day (by omega) (by omega) W)
    have s1 := decB_size (n := l.id) (by omega) (by omega)
    have s2 := decB_size (n := l.office) (by omega) (by omega)
    have s3 := decB_size (n := l.day) (by omega) (by omega)
    have q1 : ¬ 9223372036854775807 < 5 + (decB l.id).size := by omega
    have q2 : ¬ 9223372036854775807 < 5 + (decB l.id).size + 1 := by omega
    have q3 : ¬ 9223372036854775807 < 5 + (decB l.id).size + 1 + (decB l.office).size := by omega
    have q4 : ¬ 9223372036854775807 < 5 + (decB l.id).size + 1 + (decB l.office).size + 1 := by omega
    have q5 : ¬ 9223372036854775807 < 5 + (decB l.id).size + 1 + (decB l.office).size + 1 + (decB l.day).size := by omega
    have q6 : ¬ 9223372036854775807 < 5 + (decB l.id).size + 1 + (decB l.office).size + 1 + (decB l.day).size + 1 := by omega
    have HHB := Lib.hid (head_bytes l)
    have HRL := Lib.hid (fun (k : Nat) => rows_len (l.items.take k) (fun x hx => hok.item x (List.mem_of_mem_take hx)))
    have HHL := Lib.hid (lineT_len wList [l.id, l.office, l.day] (by
      intro n hn
      simp only [List.mem_cons, List.not_mem_nil, or_false] at hn
      rcases hn with rfl | rfl | rfl <;> omega))
    clear hi ho hd
    clear hr hok
    go_enter Tryz.func17, Tryz.ntmps17
    go_wp2_with fail
    refine HR.out.mono ?_
    rintro e w1 ⟨rfl, hb1⟩
    have bX := bnd_call hb0 (by simp) hb1
    have bW := b0.trans (bX.mono (Nat.le_succ _))
    obtain ⟨z0, z1, z2, z3, zl⟩ := KC.out _ bX
    have bs1 := bW.size
    go_wp2
    have hbX := bX.drew
    clear s1 s2 s3 z0 z1 z2 z3 zl
    go_region_held3 (fun W => W.cell? ⟨w.heap.size, 0, none⟩ = some (.int .i64 l.id) ∧ W.cell? ⟨w.heap.size, 1, none⟩ = some (.int .i64 l.office) ∧ W.cell? ⟨w.heap.size, 2, none⟩ = some (.int .i64 l.day) ∧ W.cell? ⟨w.heap.size, 3, none⟩ = some (.slice A l.items.length c) ∧ w.heap.size < W.heap.size) (with_reducible exact KC.out _ hbX) (first
        | (go_at_call 43; (with_reducible refine (D1.out _).mono ?_); rintro e wC ⟨rfl, hbC⟩; have hbX := bnd_call hbX (by simp) hbC)
        | (go_at_call 43; (with_reducible refine (D2.out _).mono ?_); rintro e wD ⟨rfl, hbD⟩; have hbX := bnd_call hbX (by simp) hbD)
        | (go_at_call 43; (with_reducible refine (D3.out _).mono ?_); rintro e wE ⟨rfl, hbE⟩; have hbX := bnd_call hbX (by simp) hbE))
    clear D1 D2 D3 q1 q2 q3 q4 q5 q6
    go_wp2
    go_loopw [4, 5] (fun o i wr => ∃ (k : Nat) (ob : ByteArray), k ≤ l.items.length ∧ i = .int .i64 k ∧ o = .string ob ∧ Hid (ob.data.toList = headT l ++ (l.items.take k).flatMap rowT) ∧ Below (w.heap.size + 1) (w.alloc (tlC l (.slice A l.items.length c))) wr) (fun _ i _ => l.items.length - (intOf i).toNat)
    case atStart => exact ⟨0, _, Nat.zero_le _, rfl, rfl, Lib.hid (by rw [HHB.out]; simp), hbX⟩
    case round =>
      clear hbX
      obtain ⟨k, ob, hk, rfl, rfl, HOB, hbr⟩ := hrel
      have bWr := b0.trans (hbr.mono (Nat.le_succ _))
      have bsr := bWr.size
      obtain ⟨z0, z1, z2, z3, zl⟩ := KC.out _ hbr
      by_cases hlt : k < l.items.length
      · obtain ⟨x, hx⟩ := get_at l.items hlt
        obtain ⟨b, off, rfl, hbB, g0, g1, g2, g3, g4, g5, g6⟩ := HIT.out k x hx _ bWr
        have hbw : b < wr.heap.size := by have : b < B := hbB; omega
        have hok := HOK.out k x hx
        have hki : (k : Int) < (l.items.length : Int) := by omega
        have i1 := hok.number; have i2 := hok.file; have i3 := hok.dating; have i4 := hok.pages; have i5 := hok.digest
        have D1 := Lib.hid (fun W => rdec_c x.number (by omega) (by omega) W)
        have D2 := Lib.hid (fun W => rdec_c x.file (by omega) (by omega) W)
        have D3 := Lib.hid (fun W => rdec_c x.first (by omega) (by omega) W)
        have D4 := Lib.hid (fun W => rdec_c x.last (by omega) (by omega) W)
        have D5 := Lib.hid (fun W => rdec_c x.pages (by omega) (by omega) W)
        have D6 := Lib.hid (fun W => show Calls Tryz.prog 44 #[.string x.digest] W fun e w' => e = .returned (.string (hexB x.digest)) ∧ Below W.heap.size W w' from rhex_c x.digest W (by omega))
        have t1 := decB_size (n := x.number) (by omega) (by omega)
        have t2 := decB_size (n := x.file) (by omega) (by omega)
        have t3 := decB_size (n := x.first) (by omega) (by omega)
        have t4 := decB_size (n := x.last) (by omega) (by omega)
        have t5 := decB_size (n := x.pages) (by omega) (by omega)
        have t6 : (hexB x.digest).size ≤ 64 := by
          have : (hexB x.digest).size = (hexT x.digest.data.toList).length := bytes_size rfl
          rw [this, hexT_len, Array.length_toList]
          show 2 * x.digest.size ≤ 64
          omega
        have t7 := (name_size hok.title).2
        have hol : ob.size ≤ 100000 := by
          rw [bytes_size HOB.out, List.length_append, headT, List.length_append]
          have h1 := HRL.out k
          have h2 := HHL.out
          have h3 : wList.length = 4 := rfl
          simp only [List.length_cons, List.length_nil] at h2 ⊢
          have : (l.items.take k).length ≤ 128 := by rw [List.length_take]; omega
          omega
        have HNX := Lib.hid (row_bytes x)
        have HSN := Lib.hid (show (l.items.take (k + 1)).flatMap rowT = (l.items.take k).flatMap rowT ++ rowT x by rw [take_at hx, List.flatMap_append, List.flatMap_singleton])
        have r1 : ¬ 9223372036854775807 < 5 + (decB x.number).size := by omega
        have r2 : ¬ 9223372036854775807 < 5 + (decB x.number).size + 1 := by omega
        have r3 : ¬ 9223372036854775807 < 5 + (decB x.number).size + 1 + (decB x.file).size := by omega
        have r4 : ¬ 9223372036854775807 < 5 + (decB x.number).size + 1 + (decB x.file).size + 1 := by omega
        have r5 : ¬ 9223372036854775807 < 5 + (decB x.number).size + 1 + (decB x.file).size + 1 + (decB x.first).size := by omega
        have r6 : ¬ 9223372036854775807 < 5 + (decB x.number).size + 1 + (decB x.file).size + 1 + (decB x.first).size + 1 := by omega
        have r7 : ¬ 9223372036854775807 < 5 + (decB x.number).size + 1 + (decB x.file).size + 1 + (decB x.first).size + 1 + (decB x.last).size := by omega
        have r8 : ¬ 9223372036854775807 < 5 + (decB x.number).size + 1 + (decB x.file).size + 1 + (decB x.first).size + 1 + (decB x.last).size + 1 := by omega
        have r9 : ¬ 9223372036854775807 < 5 + (decB x.number).size + 1 + (decB x.file).size + 1 + (decB x.first).size + 1 + (decB x.last).size + 1 + (decB x.pages).size := by omega
        have r10 : ¬ 9223372036854775807 < 5 + (decB x.number).size + 1 + (decB x.file).size + 1 + (decB x.first).size + 1 + (decB x.last).size + 1 + (decB x.pages).size + 1 := by omega
        have r11 : ¬ 9223372036854775807 < 5 + (decB x.number).size + 1 + (decB x.file).size + 1 + (decB x.first).size + 1 + (decB x.last).size + 1 + (decB x.pages).size + 1 + (hexB x.digest).size := by omega
        have r12 : ¬ 9223372036854775807 < 5 + (decB x.number).size + 1 + (decB x.file).size + 1 + (decB x.first).size + 1 + (decB x.last).size + 1 + (decB x.pages).size + 1 + (hexB x.digest).size + 1 := by omega
        have r13 : ¬ 9223372036854775807 < 5 + (decB x.number).size + 1 + (decB x.file).size + 1 + (decB x.first).size + 1 + (decB x.last).size + 1 + (decB x.pages).size + 1 + (hexB x.digest).size + 1 + x.title.size := by omega
        have r14 : ¬ 9223372036854775807 < 5 + (decB x.number).size + 1 + (decB x.file).size + 1 + (decB x.first).size + 1 + (decB x.last).size + 1 + (decB x.pages).size + 1 + (hexB x.digest).size + 1 + x.title.size + 1 := by omega
        have r15 : ¬ 9223372036854775807 < ob.size + (5 + (decB x.number).size + 1 + (decB x.file).size + 1 + (decB x.first).size + 1 + (decB x.last).size + 1 + (decB x.pages).size + 1 + (hexB x.digest).size + 1 + x.title.size + 1) := by omega
        have KEEP := Lib.hid (fun (W : World) (hW : Below (wr.heap.size + 1) (wr.alloc (itmC x)) W) => (have h := itmW_at hW; ⟨h.1, h.2.1, h.2.2.1, h.2.2.2.1, h.2.2.2.2.1, h.2.2.2.2.2.1, h.2.2.2.2.2.2.1⟩ : W.cell? ⟨wr.heap.size, 0, none⟩ = some (.int .i64 x.number) ∧ W.cell? ⟨wr.heap.size, 1, none⟩ = some (.int .i64 x.file) ∧ W.cell? ⟨wr.heap.size, 2, none⟩ = some (.string x.title) ∧ W.cell? ⟨wr.heap.size, 3, none⟩ = some (.int .i64 x.first) ∧ W.cell? ⟨wr.heap.size, 4, none⟩ = some (.int .i64 x.last) ∧ W.cell? ⟨wr.heap.size, 5, none⟩ = some (.int .i64 x.pages) ∧ W.cell? ⟨wr.heap.size, 6, none⟩ = some (.string x.digest)))
        have hbX : Below (wr.heap.size + 1) (wr.alloc (itmC x)) (wr.alloc (itmC x)).drew := (Below.refl _ _).drew
        clear t1 t2 t3 t4 t5 t6 t7 i1 i2 i3 i4 i5 hok hx hol
        go_wp2
        clear g0 g1 g2 g3 g4 g5 g6 z0 z1 z2 z3 zl
        go_region_held3 (fun W => W.cell? ⟨wr.heap.size, 0, none⟩ = some (.int .i64 x.number) ∧ W.cell? ⟨wr.heap.size, 1, none⟩ = some (.int .i64 x.file) ∧ W.cell? ⟨wr.heap.size, 2, none⟩ = some (.string x.title) ∧ W.cell? ⟨wr.heap.size, 3, none⟩ = some (.int .i64 x.first) ∧ W.cell? ⟨wr.heap.size, 4, none⟩ = some (.int .i64 x.last) ∧ W.cell? ⟨wr.heap.size, 5, none⟩ = some (.int .i64 x.pages) ∧ W.cell? ⟨wr.heap.size, 6, none⟩ = some (.string x.digest)) (with_reducible exact KEEP.out _ hbX) (first
          | (go_at_call 43; (with_reducible refine (D1.out _).mono ?_); rintro e w4 ⟨rfl, hb4⟩; have hbX := bnd_call hbX (by simp) hb4)
          | (go_at_call 43; (with_reducible refine (D2.out _).mono ?_); rintro e w5 ⟨rfl, hb5⟩; have hbX := bnd_call hbX (by simp) hb5)
          | (go_at_call 43; (with_reducible refine (D3.out _).mono ?_); rintro e w6 ⟨rfl, hb6⟩; have hbX := bnd_call hbX (by simp) hb6)
          | (go_at_call 43; (with_reducible refine (D4.out _).mono ?_); rintro e w7 ⟨rfl, hb7⟩; have hbX := bnd_call hbX (by simp) hb7)
          | (go_at_call 43; (with_reducible refine (D5.out _).mono ?_); rintro e w8 ⟨rfl, hb8⟩; have hbX := bnd_call hbX (by simp) hb8)
          | (go_at_call 44; (with_reducible refine (D6.out _).mono ?_); rintro e w9 ⟨rfl, hb9⟩; have hbX := bnd_call hbX (by simp) hb9))
        have hbF := hbr.trans ((((Below.refl wr.heap.size wr).alloc (Nat.le_refl _) (itmC x)).trans (hbX.mono (Nat.le_succ _))).mono (by have := hbr.size; simp at this; exact this))
        go_wp2
        go_roundw
        case rel => exact ⟨k + 1, _, by omega, by go_num, rfl, Lib.hid (by rw [bytes_app, HOB.out, HNX.out, HSN.out, List.append_assoc]), hbF⟩
        case measure => simp [intOf]; omega
      · have hk2 : k = l.items.length := by omega
        subst hk2
        have hki : ¬ (l.items.length : Int) < (l.items.length : Int) := by omega
        have HO := HOB.out
        rw [List.take_length, ← HPF.out] at HO
        have HO2 := Lib.hid (bytes_of HO)
        clear HO HOB
        go_wp2
        go_ret2
        exact ⟨ret_prt HO2.out HPE.out, bWr⟩
end Go.Proofs.YtenaifmkejmdaaaGreatDoor
