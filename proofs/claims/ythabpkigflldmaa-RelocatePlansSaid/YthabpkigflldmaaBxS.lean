/- Check of boxes, the reference's: form, Check. -/
import Derived.Test.YthabpkigflldmaaBxR
namespace Go.Proofs.Ythabpkigflldmaa
open Go.RowKit

def fieldsOk (b : Box) : Bool := inB b.id 1 1073741824 && inB b.width 1 10000 && inB b.room 1 b.width && inB b.clim 0 7
theorem boxOk_eq (b : Box) : boxOk b = (fieldsOk b && b.cont.all contOk) := by
  unfold boxOk fieldsOk
  congr 1
  rw [List.not_any_eq_all_not]
  simp
set_option maxHeartbeats 4000000 in
theorem form_c (x : Box) (v : Value) (w : World) (B : Nat) (hB : B ≤ w.heap.size) (h : Contents w B x.cont v) :
    Calls Try.prog 97 #[.agg #[.int .i64 x.id, .int .i64 x.width, .int .i64 x.room, .int .i64 x.clim, v]] w fun e w' => e = .returned (.int .i64 (faultE x)) ∧ Below w.heap.size w w' := by
  obtain ⟨A, c, rfl, hc1, hc2, _⟩ := id h
  have b0 : Below w.heap.size w (w.alloc (.cells #[.int .i64 x.id, .int .i64 x.width, .int .i64 x.room, .int .i64 x.clim, .slice A x.cont.length c] 101)) := (Below.refl _ _).alloc (Nat.le_refl _) _
  cases hok : fieldsOk x
  · have HE := Lib.hid (show faultE x = 2 by rw [faultE, if_pos]; rw [boxOk_eq, hok]; rfl)
    have HO := Lib.hid hok
    clear hok
    go_enter Try.func97, Try.ntmps97
    go_wp2
    all_goals first
      | (go_ret; exact ⟨ret_int HE.out.symm, b0⟩)
      | (exfalso; have := HO.out; simp [fieldsOk, inB] at this; omega)
  have HO := Lib.hid hok
  simp only [fieldsOk, inB, Bool.and_eq_true, decide_eq_true_eq] at hok
  obtain ⟨⟨⟨⟨d0, d1⟩, d2, d3⟩, d4, d5⟩, d6, d7⟩ := hok
  go_enter Try.func97, Try.ntmps97
  go_wp2
  have hall0 : ∀ c ∈ x.cont.take 0, contOk c = true := by simp
  have HA0 := Lib.hid hall0
  clear hall0
  go_loopw [48] (fun i wr => ∃ k : Nat, k ≤ x.cont.length ∧ i = .int .i64 k ∧ Hid (∀ c ∈ x.cont.take k, contOk c = true) ∧ Below (w.heap.size + 1) (w.alloc (.cells #[.int .i64 x.id, .int .i64 x.width, .int .i64 x.room, .int .i64 x.clim, .slice A x.cont.length c] 101)) wr) (fun i _ => x.cont.length - (intOf i).toNat)
  case atStart => exact ⟨0, Nat.zero_le _, rfl, HA0, Below.refl _ _⟩
  case round =>
    obtain ⟨k, hk, rfl, HA, hb⟩ := hrel
    clear HA0
    have hs := hb.size
    simp only [World.size_alloc] at hs
    have B1 := b0.trans (hb.mono (by omega))
    by_cases hlt : k < x.cont.length
    · obtain ⟨y, hy⟩ := get_at x.cont hlt
      have HT := Lib.hid (take_at hy)
      have HM := Lib.hid (List.mem_of_getElem? hy)
      obtain ⟨b, off, rfl, hbB, g0, g1⟩ := Contents.at_ (h.below coS (B1.mono hB)) hy
      have hbw : b < wr.heap.size := by omega
      clear hy
      have by1 : Below wr.heap.size wr (wr.alloc (.cells #[.int .i64 y.unit, .int .i64 y.thick] 138)) := (Below.refl _ _).alloc (Nat.le_refl _) _
      have HFO := Lib.hid (formed_c y (wr.alloc (.cells #[.int .i64 y.unit, .int .i64 y.thick] 138)))
      cases hyo : contOk y
      · have HE := Lib.hid (show faultE x = 2 by
          rw [faultE, if_pos]
          rw [boxOk_eq, Bool.and_eq_false_iff]
          right
          rw [List.all_eq_false]
          exact ⟨y, HM.out, by simp [hyo]⟩)
        rw [hyo] at HFO
        clear hyo
        go_wp2_with fail
        refine HFO.out.mono ?_
        rintro e w1 ⟨rfl, hb1⟩
        go_wp2
        go_ret
        exact ⟨ret_int HE.out.symm, (B1.trans (by1.mono (by omega))).trans (hb1.mono (by simp; omega))⟩
      · rw [hyo] at HFO
        have HA2 := Lib.hid (show ∀ c ∈ x.cont.take (k + 1), contOk c = true by
          rw [HT.out]
          intro c hc
          rcases List.mem_append.1 hc with hc | hc
          · exact HA.out c hc
          · simp at hc; subst hc; exact hyo)
        clear hyo
        go_wp2_with fail
        refine HFO.out.mono ?_
        rintro e w1 ⟨rfl, hb1⟩
        go_wp2
        go_roundw
        case rel => exact ⟨k + 1, by omega, by go_num, HA2, (hb.trans (by1.mono (by omega))).trans (hb1.mono (by simp; omega))⟩
        case measure => simp [intOf]; omega
    · have HBO := Lib.hid (show boxOk x = true by
        rw [boxOk_eq, HO.out, Bool.true_and, List.all_eq_true]
        have := HA.out
        rw [List.take_of_length_le (by omega)] at this
        exact this)
      have c4 := (hb.cell (p := ⟨w.heap.size, 4, none⟩) (by simp)).trans (show _ = some (.slice A x.cont.length c) by simp)
      have c0 := (hb.cell (p := ⟨w.heap.size, 0, none⟩) (by simp)).trans (show _ = some (.int .i64 x.id) by simp)
      have c1 := (hb.cell (p := ⟨w.heap.size, 1, none⟩) (by simp)).trans (show _ = some (.int .i64 x.width) by simp)
      have c2 := (hb.cell (p := ⟨w.heap.size, 2, none⟩) (by simp)).trans (show _ = some (.int .i64 x.room) by simp)
      have c3 := (hb.cell (p := ⟨w.heap.size, 3, none⟩) (by simp)).trans (show _ = some (.int .i64 x.clim) by simp)
      by_cases hl : 32 < x.cont.length
      · have HE := Lib.hid (show faultE x = 8 by simp [faultE, HBO.out, hl])
        go_wp2
        go_ret
        exact ⟨ret_int HE.out.symm, B1⟩
      · have hlt1 : w.heap.size < wr.heap.size := by omega
        have HTH := Lib.hid (fun (W : World) (hW : Below wr.heap.size wr W) => sum_c x (.slice A x.cont.length c) W B (by have := hW.size; omega) ((h.below coS (B1.mono hB)).below coS (hW.mono (by omega))) (by omega) (boxOk_cont HBO.out))
        have KEEP := Lib.hid (fun (w' : World) (hW : Below wr.heap.size wr w') => (⟨(hW.cell (p := ⟨w.heap.size, 0, none⟩) hlt1).trans c0, (hW.cell (p := ⟨w.heap.size, 1, none⟩) hlt1).trans c1, (hW.cell (p := ⟨w.heap.size, 2, none⟩) hlt1).trans c2, (hW.cell (p := ⟨w.heap.size, 3, none⟩) hlt1).trans c3, (hW.cell (p := ⟨w.heap.size, 4, none⟩) hlt1).trans c4⟩ : w'.cell? ⟨w.heap.size, 0, none⟩ = some (.int .i64 x.id) ∧ w'.cell? ⟨w.heap.size, 1, none⟩ = some (.int .i64 x.width) ∧ w'.cell? ⟨w.heap.size, 2, none⟩ = some (.int .i64 x.room) ∧ w'.cell? ⟨w.heap.size, 3, none⟩ = some (.int .i64 x.clim) ∧ w'.cell? ⟨w.heap.size, 4, none⟩ = some (.slice A x.cont.length c)))
        have HF1 := Lib.hid (show x.room < thickS x.cont → faultE x = 12 by intro h; simp [faultE, HBO.out, hl, h])
        have HF0 := Lib.hid (show ¬ x.room < thickS x.cont → faultE x = 0 by intro h; simp [faultE, HBO.out, hl, h])
        go_wp2
        go_region_held3 (fun w' => w'.cell? ⟨w.heap.size, 0, none⟩ = some (.int .i64 x.id) ∧ w'.cell? ⟨w.heap.size, 1, none⟩ = some (.int .i64 x.width) ∧ w'.cell? ⟨w.heap.size, 2, none⟩ = some (.int .i64 x.room) ∧ w'.cell? ⟨w.heap.size, 3, none⟩ = some (.int .i64 x.clim) ∧ w'.cell? ⟨w.heap.size, 4, none⟩ = some (.slice A x.cont.length c)) (first | with_reducible exact KEEP.out _ (Below.refl _ _).drew | with_reducible exact KEEP.out _ hb2) (first
          | (go_at_call 110; (with_reducible refine (HTH.out _ (Below.refl _ _).drew).mono ?_); rintro e w2 ⟨rfl, hb2'⟩; have hb2 : Below wr.heap.size wr w2 := (Below.refl _ _).drew.trans (hb2'.mono (by simp))))
        by_cases hr : x.room < thickS x.cont
        · have HE := Lib.hid (HF1.out (by omega))
          go_wp2
          go_ret
          exact ⟨ret_int HE.out.symm, B1.trans (hb2.mono (by omega))⟩
        · have HE := Lib.hid (HF0.out (by omega))
          go_wp2
          go_ret
          exact ⟨ret_int HE.out.symm, B1.trans (hb2.mono (by omega))⟩
end Go.Proofs.Ythabpkigflldmaa
