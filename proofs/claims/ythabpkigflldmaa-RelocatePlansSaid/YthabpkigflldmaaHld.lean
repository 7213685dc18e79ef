/- held of the reference; carried and with. -/
import Derived.Test.YthabpkigflldmaaChk
import Derived.BigQuiet
namespace Go.Proofs.Ythabpkigflldmaa
open Go.RowKit

def heldS (s : Shelf) : Int → List (Int × Box) → Bool
  | n, [] => decide (n ≤ s.len)
  | n, (id, b) :: r => if id ≠ s.id then heldS s n r else if b.clim ≠ s.clim then false else heldS s (n + b.width) r
def heldP (ls : List Shelf) (l : List (Int × Box)) : Bool := ls.all fun s => heldS s 0 l
abbrev shelfC (s : Shelf) : Obj := .cells #[.int .i64 s.id, .int .i64 s.rep, .int .i64 s.len, .int .i64 s.clim] 63
set_option maxRecDepth 10000 in
set_option maxHeartbeats 4000000 in
theorem held_c (ls : List Shelf) (bs : List Box) (at_ : List Int) (vl vb va : Value) (w : World) (B : Nat) (hB : B ≤ w.heap.size) (hl : Shelves w B ls vl) (hbx : Boxes w B bs vb) (ha : Ints w B at_ va) (hst : startE ls bs = 0) (hlen : at_.length = bs.length) :
    Calls Try.prog 62 #[vl, vb, va] w fun e w' => e = .returned (.bool (heldP ls (at_.zip bs))) ∧ Below w.heap.size w w' := by
  obtain ⟨hok1, hok2, -⟩ := start_ok hst
  obtain ⟨h128, hbok⟩ := boxes_ok hok2
  have HBO := Lib.hid hbok
  clear hst hok1 hok2 hbok
  obtain ⟨A, c, rfl, hc1, hc2, _⟩ := id hl
  obtain ⟨A', c', rfl, hd1, hd2, _⟩ := id hbx
  obtain ⟨A2, c2, rfl, he1, he2, _⟩ := id ha
  have l3 : at_.length ≤ bs.length := by omega
  clear hlen
  have HN0 := Lib.hid (show heldP ls (at_.zip bs) = heldP (ls.drop 0) (at_.zip bs) by simp)
  go_enter Try.func62, Try.ntmps62
  go_wp2
  go_loopw [14] (fun i wr => ∃ k : Nat, k ≤ ls.length ∧ i = .int .i64 k ∧ Hid (heldP ls (at_.zip bs) = heldP (ls.drop k) (at_.zip bs)) ∧ Below w.heap.size w wr) (fun i _ => ls.length - (intOf i).toNat)
  case atStart => exact ⟨0, Nat.zero_le _, rfl, HN0, Below.refl _ _⟩
  case round =>
    obtain ⟨k, hk, rfl, HN, B1⟩ := hrel
    clear HN0
    have hs := B1.size
    by_cases hlt : k < ls.length
    · obtain ⟨s, hx⟩ := get_at ls hlt
      have HD := Lib.hid (drop_at hx)
      obtain ⟨b, off, rfl, hbB, g0, g1, g2, g3⟩ := Shelves.at_ (hl.below shS (B1.mono hB)) hx
      have hbw : b < wr.heap.size := by omega
      clear hx
      obtain ⟨wo, rfl⟩ : ∃ wo : World, wo = wr := ⟨_, rfl⟩
      have HQ0 := Lib.hid (show heldS s 0 (at_.zip bs) = heldS s 0 ((at_.zip bs).drop 0) by simp)
      go_wp2
      go_loopw [9, 20] (fun n i wr => ∃ (k : Nat) (m : Int), k ≤ at_.length ∧ n = .int .i64 m ∧ i = .int .i64 k ∧ 0 ≤ m ∧ m ≤ 10000 * (k : Int) ∧ Hid (heldS s 0 (at_.zip bs) = heldS s m ((at_.zip bs).drop k)) ∧ Below (wo.heap.size + 1) (wo.alloc (shelfC s)) wr) (fun _ i _ => at_.length - (intOf i).toNat)
      case atStart => exact ⟨0, 0, Nat.zero_le _, rfl, rfl, by omega, by omega, HQ0, Below.refl _ _⟩
      case round =>
        obtain ⟨k2, m, hk2, rfl, rfl, hm0, hm1, HQ, hb⟩ := hrel
        clear HQ0 g0 g1 g2 g3
        have hs2 := hb.size
        simp only [World.size_alloc] at hs2
        have hwlt2 : wo.heap.size < wr.heap.size := by omega
        have z0 := (hb.cell (p := ⟨wo.heap.size, 0, none⟩) (by simp)).trans (show _ = some (.int .i64 s.id) by simp)
        have z2 := (hb.cell (p := ⟨wo.heap.size, 2, none⟩) (by simp)).trans (show _ = some (.int .i64 s.len) by simp)
        have z3 := (hb.cell (p := ⟨wo.heap.size, 3, none⟩) (by simp)).trans (show _ = some (.int .i64 s.clim) by simp)
        have B2 : Below w.heap.size w wr := (B1.alloc (by omega) _).trans (hb.mono (by omega))
        by_cases hlt2 : k2 < at_.length
        · obtain ⟨x, hx⟩ := get_at at_ hlt2
          obtain ⟨y, hy⟩ := get_at bs (show k2 < bs.length by omega)
          have HD2 := Lib.hid (drop_at (show (at_.zip bs)[k2]? = some (x, y) by simp [List.getElem?_zip_eq_some, hx, hy]))
          obtain ⟨hy1, hy2⟩ := box_width (HBO.out y (List.mem_of_getElem? hy)).1
          obtain ⟨b2, off2, rfl, hbB2, u0⟩ := Ints.at_ (ha.below inS (B2.mono hB)) hx
          obtain ⟨by_, offy, vy, hAy, hbBy, -, y1, -, y3, -⟩ := Boxes.at_ (hbx.below boS (B2.mono hB)) hy
          subst hAy
          have hyl : by_ < wr.heap.size := by omega
          have hsl : b2 < wr.heap.size := by omega
          have hki1 : (k2 : Int) < (bs.length : Int) := by omega
          have hwr : IntKind.i64.wrap (m + y.width) = m + y.width := IntWalk.i64_in _ (by omega)
          clear hx hy
          by_cases hid : x = s.id
          · have hid1 : (x != s.id) = false := by simp [hid]
            by_cases hcl : y.clim = s.clim
            · have hcl1 : (y.clim != s.clim) = false := by simp [hcl]
              have HE := Lib.hid (show heldS s 0 (at_.zip bs) = heldS s (m + y.width) ((at_.zip bs).drop (k2 + 1)) by rw [HQ.out, HD2.out]; simp [heldS, hid, hcl])
              go_wp2
              go_quiet (fail)
              go_wp2
              go_roundw
              case rel => exact ⟨k2 + 1, m + y.width, by omega, rfl, by go_num, by omega, by omega, HE, below_drewN hb _⟩
              case measure => simp [intOf]; omega
            · have hcl1 : (y.clim != s.clim) = true := by simpa using hcl
              have HE := Lib.hid (show heldP ls (at_.zip bs) = false by
                have : heldS s 0 (at_.zip bs) = false := by rw [HQ.out, HD2.out]; simp [heldS, hid, hcl]
                rw [HN.out, HD.out]; simp [heldP, this])
              go_wp2
              go_quiet (fail)
              go_wp2
              go_ret
              exact ⟨ret_bool HE.out.symm, below_drewN B2 _⟩
          · have hid1 : (x != s.id) = true := by simpa using hid
            have HE := Lib.hid (show heldS s 0 (at_.zip bs) = heldS s m ((at_.zip bs).drop (k2 + 1)) by rw [HQ.out, HD2.out]; simp [heldS, hid])
            go_wp2
            go_roundw
            case rel => exact ⟨k2 + 1, m, by omega, rfl, by go_num, by omega, by omega, HE, hb⟩
            case measure => simp [intOf]; omega
        · have HF := Lib.hid (show heldS s 0 (at_.zip bs) = decide (m ≤ s.len) by rw [HQ.out, List.drop_of_length_le (by simp; omega)]; rfl)
          by_cases hbig : s.len < m
          · have HE := Lib.hid (show heldP ls (at_.zip bs) = false by
              have : ¬ m ≤ s.len := by omega
              rw [HN.out, HD.out]; simp [heldP, HF.out, this])
            go_wp2
            go_ret
            exact ⟨ret_bool HE.out.symm, B2⟩
          · have HE := Lib.hid (show heldP ls (at_.zip bs) = heldP (ls.drop (k + 1)) (at_.zip bs) by
              have : m ≤ s.len := by omega
              rw [HN.out, HD.out]; simp [heldP, HF.out, this])
            go_wp2
            go_roundw
            case rel => exact ⟨k + 1, by omega, by go_num, HE, B2⟩
            case measure => simp [intOf]; omega
    · have HE := Lib.hid (show heldP ls (at_.zip bs) = true by rw [HN.out, List.drop_of_length_le (by omega)]; rfl)
      go_wp2
      go_ret
      exact ⟨ret_bool HE.out.symm, B1⟩
end Go.Proofs.Ythabpkigflldmaa
