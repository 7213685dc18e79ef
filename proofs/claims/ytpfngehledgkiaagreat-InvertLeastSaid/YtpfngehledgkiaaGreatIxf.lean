/- slices.IndexFunc and ContainsFunc at sheets and facts. -/
import Derived.Test.YtpfngehledgkiaaGreatLib
namespace Go.Proofs.YtpfngehledgkiaaGreat
open Go.RowKit

set_option maxHeartbeats 2000000 in
theorem shtIdx1_c (F : FuncId) (c0 : Value) (p : Sheet → Bool) (xs : List Sheet) (v : Value) (w : World) (B : Nat) (hB : B ≤ w.heap.size) (h : SlRep 6 shtR w (fun b => b < B) xs v)
    (hF : ∀ (args : Array Value) (W : World), (callFunc F args).run Tryz.prog W = .ok (.enter F args) W)
    (hp : ∀ (x : Sheet) (vf : Value) (W : World), x ∈ xs → Below w.heap.size w W → (∃ A n c, vf = .slice A n c) → shtR W (fun b => b < B) x [.int .i64 x.unit, .int .i64 x.parent, .int .i64 x.level, .string x.mark, .string x.title, vf] → Calls Tryz.prog F #[.agg #[.int .i64 x.unit, .int .i64 x.parent, .int .i64 x.level, .string x.mark, .string x.title, vf], c0] W fun e w' => e = .returned (.bool (p x)) ∧ Below W.heap.size W w') :
    Calls Tryz.prog 88 #[v, .func (.func F) #[] #[c0]] w fun e w' => e = .returned (.int .i64 (idxF p xs)) ∧ Below w.heap.size w w' := by
  obtain ⟨A, c, rfl, hc1, hc2, _⟩ := id h
  have HP := Lib.hid hp
  clear hp
  have HF := Lib.hid (show idxF p xs = idxG p (xs.drop 0) 0 from rfl)
  go_enter Tryz.func88, Tryz.ntmps88
  go_wp2
  go_loopw [8] (fun i wr => ∃ k : Nat, k ≤ xs.length ∧ i = .int .i64 k ∧ Hid (idxF p xs = idxG p (xs.drop k) k) ∧ Below w.heap.size w wr) (fun i _ => xs.length - (intOf i).toNat)
  case atStart => exact ⟨0, Nat.zero_le _, rfl, HF, Below.refl _ _⟩
  case round =>
    obtain ⟨k, hk, rfl, HS, hb⟩ := hrel
    clear HF
    have hs := hb.size
    by_cases hlt : k < xs.length
    · obtain ⟨x, hx⟩ := get_at xs hlt
      have HD := Lib.hid (drop_at hx)
      obtain ⟨b, off, vf, rfl, hbB, g0, g1, g2, g3, g4, g5, hv_vf⟩ := Sheets.at_ (h.below shtS (hb.mono hB)) hx
      have hbw : b < wr.heap.size := by have : b < B := hbB; omega
      have HPX := Lib.hid (HP.out x vf wr (List.mem_of_getElem? hx) hb (have ⟨_, _, e9, _⟩ := hv_vf; ⟨_, _, _, e9⟩) ⟨vf, rfl, hv_vf⟩)
      clear hx
      go_wp2_with fail
      refine HPX.out.mono ?_
      rintro e w1 ⟨rfl, hb1⟩
      cases hpx : p x
      · go_wp2
        go_roundw
        case rel => exact ⟨k + 1, by omega, by go_num, by show _ = _; rw [HS.out, HD.out]; simp [idxG, hpx], hb.trans (hb1.mono hs)⟩
        case measure => simp [intOf]; omega
      · go_wp2
        go_ret
        exact ⟨ret_int (by rw [HS.out, HD.out]; simp [idxG, hpx]), hb.trans (hb1.mono hs)⟩
    · go_wp2
      go_ret
      exact ⟨ret_int (by rw [HS.out, List.drop_of_length_le (by omega)]; rfl), hb⟩
set_option maxHeartbeats 2000000 in
theorem shtIdx0_c (F : FuncId) (p : Sheet → Bool) (xs : List Sheet) (v : Value) (w : World) (B : Nat) (hB : B ≤ w.heap.size) (h : SlRep 6 shtR w (fun b => b < B) xs v)
    (hF : ∀ (args : Array Value) (W : World), (callFunc F args).run Tryz.prog W = .ok (.enter F args) W)
    (hp : ∀ (x : Sheet) (vf : Value) (W : World), x ∈ xs → Below w.heap.size w W → (∃ A n c, vf = .slice A n c) → shtR W (fun b => b < B) x [.int .i64 x.unit, .int .i64 x.parent, .int .i64 x.level, .string x.mark, .string x.title, vf] → Calls Tryz.prog F #[.agg #[.int .i64 x.unit, .int .i64 x.parent, .int .i64 x.level, .string x.mark, .string x.title, vf]] W fun e w' => e = .returned (.bool (p x)) ∧ Below W.heap.size W w') :
    Calls Tryz.prog 88 #[v, .func (.func F) #[] #[]] w fun e w' => e = .returned (.int .i64 (idxF p xs)) ∧ Below w.heap.size w w' := by
  obtain ⟨A, c, rfl, hc1, hc2, _⟩ := id h
  have HP := Lib.hid hp
  clear hp
  have HF := Lib.hid (show idxF p xs = idxG p (xs.drop 0) 0 from rfl)
  go_enter Tryz.func88, Tryz.ntmps88
  go_wp2
  go_loopw [8] (fun i wr => ∃ k : Nat, k ≤ xs.length ∧ i = .int .i64 k ∧ Hid (idxF p xs = idxG p (xs.drop k) k) ∧ Below w.heap.size w wr) (fun i _ => xs.length - (intOf i).toNat)
  case atStart => exact ⟨0, Nat.zero_le _, rfl, HF, Below.refl _ _⟩
  case round =>
    obtain ⟨k, hk, rfl, HS, hb⟩ := hrel
    clear HF
    have hs := hb.size
    by_cases hlt : k < xs.length
    · obtain ⟨x, hx⟩ := get_at xs hlt
      have HD := Lib.hid (drop_at hx)
      obtain ⟨b, off, vf, rfl, hbB, g0, g1, g2, g3, g4, g5, hv_vf⟩ := Sheets.at_ (h.below shtS (hb.mono hB)) hx
      have hbw : b < wr.heap.size := by have : b < B := hbB; omega
      have HPX := Lib.hid (HP.out x vf wr (List.mem_of_getElem? hx) hb (have ⟨_, _, e9, _⟩ := hv_vf; ⟨_, _, _, e9⟩) ⟨vf, rfl, hv_vf⟩)
      clear hx
      go_wp2_with fail
      refine HPX.out.mono ?_
      rintro e w1 ⟨rfl, hb1⟩
      cases hpx : p x
      · go_wp2
        go_roundw
        case rel => exact ⟨k + 1, by omega, by go_num, by show _ = _; rw [HS.out, HD.out]; simp [idxG, hpx], hb.trans (hb1.mono hs)⟩
        case measure => simp [intOf]; omega
      · go_wp2
        go_ret
        exact ⟨ret_int (by rw [HS.out, HD.out]; simp [idxG, hpx]), hb.trans (hb1.mono hs)⟩
    · go_wp2
      go_ret
      exact ⟨ret_int (by rw [HS.out, List.drop_of_length_le (by omega)]; rfl), hb⟩
theorem shtIdx0_any (F : FuncId) (p : Sheet → Bool) (xs : List Sheet) (v : Value) (w : World) (B : Nat) (hB : B ≤ w.heap.size) (h : SlRep 6 shtR w (fun b => b < B) xs v)
    (hF : ∀ (args : Array Value) (W : World), (callFunc F args).run Tryz.prog W = .ok (.enter F args) W)
    (hp : ∀ (x : Sheet) (vf : Value) (W : World), x ∈ xs → Below w.heap.size w W → (∃ A n c, vf = .slice A n c) → shtR W (fun b => b < B) x [.int .i64 x.unit, .int .i64 x.parent, .int .i64 x.level, .string x.mark, .string x.title, vf] → Calls Tryz.prog F #[.agg #[.int .i64 x.unit, .int .i64 x.parent, .int .i64 x.level, .string x.mark, .string x.title, vf]] W fun e w' => e = .returned (.bool (p x)) ∧ Below W.heap.size W w') :
    Calls Tryz.prog 47 #[v, .func (.func F) #[] #[]] w fun e w' => e = .returned (.bool (xs.any p)) ∧ Below w.heap.size w w' := by
  have HI := Lib.hid (shtIdx0_c F  p xs v w B hB h hF hp)
  have HE := Lib.hid (idx_any p xs)
  obtain ⟨A, c, rfl, -⟩ := id h
  clear hp
  go_enter Tryz.func47, Tryz.ntmps47
  go_wp2_with fail
  refine HI.out.mono ?_
  rintro e w1 ⟨rfl, hb1⟩
  go_wp2
  go_ret
  exact ⟨ret_bool HE.out, hb1⟩
set_option maxHeartbeats 2000000 in
theorem fctIdx0_c (F : FuncId) (p : Fact → Bool) (xs : List Fact) (v : Value) (w : World) (B : Nat) (hB : B ≤ w.heap.size) (h : SlRep 3 (flat Fact.enc) w (fun b => b < B) xs v)
    (hF : ∀ (args : Array Value) (W : World), (callFunc F args).run Tryz.prog W = .ok (.enter F args) W)
    (hp : ∀ (x : Fact) (W : World), x ∈ xs → Below w.heap.size w W → (flat Fact.enc) W (fun b => b < B) x [.int .i64 x.el, .string x.lang, .string x.text] → Calls Tryz.prog F #[.agg #[.int .i64 x.el, .string x.lang, .string x.text]] W fun e w' => e = .returned (.bool (p x)) ∧ Below W.heap.size W w') :
    Calls Tryz.prog 89 #[v, .func (.func F) #[] #[]] w fun e w' => e = .returned (.int .i64 (idxF p xs)) ∧ Below w.heap.size w w' := by
  obtain ⟨A, c, rfl, hc1, hc2, _⟩ := id h
  have HP := Lib.hid hp
  clear hp
  have HF := Lib.hid (show idxF p xs = idxG p (xs.drop 0) 0 from rfl)
  go_enter Tryz.func89, Tryz.ntmps89
  go_wp2
  go_loopw [8] (fun i wr => ∃ k : Nat, k ≤ xs.length ∧ i = .int .i64 k ∧ Hid (idxF p xs = idxG p (xs.drop k) k) ∧ Below w.heap.size w wr) (fun i _ => xs.length - (intOf i).toNat)
  case atStart => exact ⟨0, Nat.zero_le _, rfl, HF, Below.refl _ _⟩
  case round =>
    obtain ⟨k, hk, rfl, HS, hb⟩ := hrel
    clear HF
    have hs := hb.size
    by_cases hlt : k < xs.length
    · obtain ⟨x, hx⟩ := get_at xs hlt
      have HD := Lib.hid (drop_at hx)
      obtain ⟨b, off, rfl, hbB, g0, g1, g2⟩ := Facts.at_ (h.below fctS (hb.mono hB)) hx
      have hbw : b < wr.heap.size := by have : b < B := hbB; omega
      have HPX := Lib.hid (HP.out x  wr (List.mem_of_getElem? hx) hb  rfl)
      clear hx
      go_wp2_with fail
      refine HPX.out.mono ?_
      rintro e w1 ⟨rfl, hb1⟩
      cases hpx : p x
      · go_wp2
        go_roundw
        case rel => exact ⟨k + 1, by omega, by go_num, by show _ = _; rw [HS.out, HD.out]; simp [idxG, hpx], hb.trans (hb1.mono hs)⟩
        case measure => simp [intOf]; omega
      · go_wp2
        go_ret
        exact ⟨ret_int (by rw [HS.out, HD.out]; simp [idxG, hpx]), hb.trans (hb1.mono hs)⟩
    · go_wp2
      go_ret
      exact ⟨ret_int (by rw [HS.out, List.drop_of_length_le (by omega)]; rfl), hb⟩
theorem fctIdx0_any (F : FuncId) (p : Fact → Bool) (xs : List Fact) (v : Value) (w : World) (B : Nat) (hB : B ≤ w.heap.size) (h : SlRep 3 (flat Fact.enc) w (fun b => b < B) xs v)
    (hF : ∀ (args : Array Value) (W : World), (callFunc F args).run Tryz.prog W = .ok (.enter F args) W)
    (hp : ∀ (x : Fact) (W : World), x ∈ xs → Below w.heap.size w W → (flat Fact.enc) W (fun b => b < B) x [.int .i64 x.el, .string x.lang, .string x.text] → Calls Tryz.prog F #[.agg #[.int .i64 x.el, .string x.lang, .string x.text]] W fun e w' => e = .returned (.bool (p x)) ∧ Below W.heap.size W w') :
    Calls Tryz.prog 49 #[v, .func (.func F) #[] #[]] w fun e w' => e = .returned (.bool (xs.any p)) ∧ Below w.heap.size w w' := by
  have HI := Lib.hid (fctIdx0_c F  p xs v w B hB h hF hp)
  have HE := Lib.hid (idx_any p xs)
  obtain ⟨A, c, rfl, -⟩ := id h
  clear hp
  go_enter Tryz.func49, Tryz.ntmps49
  go_wp2_with fail
  refine HI.out.mono ?_
  rintro e w1 ⟨rfl, hb1⟩
  go_wp2
  go_ret
  exact ⟨ret_bool HE.out, hb1⟩
end Go.Proofs.YtpfngehledgkiaaGreat
