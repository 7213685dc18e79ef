/- key of a state. -/
import Derived.Test.YthabpkigflldmaaIxR
import Derived.Laws.IdiomStrings
namespace Go.Proofs.Ythabpkigflldmaa
open Go.RowKit

def bytEnc (b : UInt8) : List Value := [.int .u8 (b.toNat : Int)]
theorem byS : Shape 1 (flat bytEnc) := flat_shape 1 _ (fun _ => rfl) (fun x u hu => by simp [bytEnc] at hu; subst hu; rfl)
theorem byteE_ : Elem Try.prog 104 5 1 1 := by
  obtain ⟨i, h1, h2, h3, h4⟩ := info_parts (P := Try.prog) (e := 5) (z := .int .u8 0) (size := 1) (bytes := 1) (by kernel_rfl)
  exact ⟨Try.underlying104, ⟨i, _, h1, h2, h3, h4, rfl⟩, by decide⟩
def keyOf (ls : List Shelf) (id : Int) : UInt8 := UInt8.ofNat (shIx ls id).toNat
def keyB (ls : List Shelf) (at_ : List Int) : ByteArray := ⟨(at_.map (keyOf ls)).toArray⟩
theorem conv_bytes (w : World) (base : Nat) (l : List UInt8) (v : Value) (h : OwnRep 1 (flat bytEnc) 5 base w l v) : (convert 104 9 v).run Try.prog w = .ok (.string ⟨l.toArray⟩) w := by
  rcases Nat.eq_zero_or_pos l.length with h0 | h0
  · obtain rfl : l = [] := List.eq_nil_of_length_eq_zero h0
    obtain ⟨A, c, rfl, _⟩ := h.toSl byS
    rcases A with _ | a
    · show (convert 104 9 (.slice none 0 c)).run Try.prog w = _
      rw [run_convert_bytes_string w 104 9 5 none 0 c Try.underlying104 Try.underlying5 Try.underlying9]
      simp [Conv.bytesToString]
      rfl
    · exact run_convert_bytes_back w 104 9 5 a c [] Try.underlying104 Try.underlying5 Try.underlying9 (fun j hj => by simp at hj)
  · obtain ⟨g, cap, rfl, _, _, _, _, _, hc⟩ := h.open_ byS h0
    refine run_convert_bytes_back w 104 9 5 ⟨g, 0, none⟩ cap l Try.underlying104 Try.underlying5 Try.underlying9 (fun j hj => ?_)
    have := (hc j l[j] 0 _ (List.getElem?_eq_getElem hj) rfl).1
    have hadd : (⟨g, 0, none⟩ : Addr).add j = ⟨g, j * 1 + 0, none⟩ := by
      unfold Addr.add
      split
      · rename_i h0; subst h0; rfl
      · simp
    rw [hadd]
    exact this
theorem shIx_nat {ls : List Shelf} {bs : List Box} (hst : startE ls bs = 0) {at_ : List Int} (hr : Right ls bs at_) {x : Int} (hx : x ∈ at_) : ∃ m : Nat, shIx ls x = (m : Int) ∧ m < 32 := by
  have h32 := shelves_len (start_ok hst).1
  have h2 := hr.2
  unfold notHere at h2
  rw [List.any_eq_false] at h2
  have h3 := h2 x hx
  rcases idxF_cases (idS x) ls with ⟨h4, _⟩ | ⟨k, y, h4, h5, _⟩
  · simp [shIx, h4] at h3
  · exact ⟨k, h4, by have := lt_of_at h5; omega⟩
set_option maxRecDepth 10000 in
set_option maxHeartbeats 2000000 in
theorem key_c (ls : List Shelf) (bs : List Box) (at_ : List Int) (vl vb va : Value) (w : World) (B : Nat) (hB : B ≤ w.heap.size) (hl : Shelves w B ls vl) (hvb : ∃ A n c, vb = .slice A n c) (ha : Ints w B at_ va) (hst : startE ls bs = 0) (hr : Right ls bs at_) :
    Calls Try.prog 42 #[.agg #[vl, vb], va] w fun e w' => e = .returned (.string (keyB ls at_)) ∧ Below w.heap.size w w' := by
  have h128 := (boxes_ok (start_ok hst).2.1).1
  have hlen := hr.1
  have hal : at_.length ≤ 128 := by omega
  have HSH := Lib.hid (fun (u : Int) (W : World) (hW : Below w.heap.size w W) => hshelf_c u ls vl vb W B (Nat.le_trans hB hW.size) (hl.below shS (hW.mono hB)) hvb)
  have HM := Lib.hid (fun (x : Int) (hx : x ∈ at_) => shIx_nat hst hr hx)
  clear hst hr hlen h128
  obtain ⟨A, c, rfl, hc1, hc2, _⟩ := id hl
  obtain ⟨A', n', c', rfl⟩ := hvb
  obtain ⟨A2, c2, rfl, he1, he2, _⟩ := id ha
  have b0 : Below w.heap.size w (w.alloc (houseC (.slice A ls.length c) (.slice A' n' c'))) := (Below.refl _ _).alloc (Nat.le_refl _) _
  go_enter Try.func42, Try.ntmps42
  go_wp2
  go_loopw [5, 10] (fun o i wr => ∃ k : Nat, k ≤ at_.length ∧ i = .int .i64 k ∧ OwnRep 1 (flat bytEnc) 5 (w.heap.size + 1) wr ((at_.take k).map (keyOf ls)) o ∧ Below (w.heap.size + 1) (w.alloc (houseC (.slice A ls.length c) (.slice A' n' c'))) wr) (fun _ i _ => at_.length - (intOf i).toNat)
  case atStart => exact ⟨0, Nat.zero_le _, rfl, OwnRep.nil_, Below.refl _ _⟩
  case round =>
    obtain ⟨k, hk, rfl, hown, hb⟩ := hrel
    have hs := hb.size
    simp only [World.size_alloc] at hs
    have hwlt : w.heap.size < wr.heap.size := by omega
    have B1 := b0.trans (hb.mono (by omega))
    by_cases hlt : k < at_.length
    · obtain ⟨x, hx⟩ := get_at at_ hlt
      obtain ⟨m, hm, hm32⟩ := HM.out x (List.mem_of_getElem? hx)
      have HT := Lib.hid (show (at_.take (k + 1)).map (keyOf ls) = (at_.take k).map (keyOf ls) ++ [UInt8.ofNat m] by rw [take_at hx]; simp [keyOf, hm])
      have HU := Lib.hid (show bytEnc (UInt8.ofNat m) = [.int .u8 (m : Int)] by simp [bytEnc, UInt8.toNat_ofNat']; omega)
      obtain ⟨b, off, rfl, hbB, g0⟩ := Ints.at_ (ha.below inS (B1.mono hB)) hx
      have hbw : b < wr.heap.size := by omega
      have z0 := (hb.cell (p := ⟨w.heap.size, 0, none⟩) (by simp)).trans (show _ = some (.slice A ls.length c) by simp)
      have z1 := (hb.cell (p := ⟨w.heap.size, 1, none⟩) (by simp)).trans (show _ = some (.slice A' n' c') by simp)
      have HSX := Lib.hid (HSH.out x wr B1)
      rw [hm] at HSX
      have hlk : ((at_.take k).map (keyOf ls)).length ≤ 128 := by simp; omega
      have hlto := hown.own_lt
      clear hx hm
      go_wp2_with fail
      refine HSX.out.mono ?_
      rintro e w1 ⟨rfl, hb1⟩
      have hs1 := hb1.size
      have hown1 := hown.below byS hb1
      have hbX := hb.trans (hb1.mono (by omega))
      generalize hacc : (at_.take k).map (keyOf ls) = acc at *
      clear hacc
      go_wp2_with (at_builtin; refine stop_intro ?_)
      refine stop_elim ?_
      refine wpList_append_rep rfl byS byteE_ (w.heap.size + 1) (.tmp 14) (.tmp 19) rfl rfl (hown1.alloc byS _) rfl (ys := [UInt8.ofNat m]) (SlRep.one_new byS (F := fun _ => False) rfl HU.out.symm (fun _ h => h.elim)) ?F ?n (by decide) ?hb ?_
      case F =>
        intro bb hbb
        rcases hbb with hbb | hbb
        · exact hbb.elim
        · subst hbb
          exact ⟨by simp, fun he => by have := (hlto _ he).2; omega⟩
      case n => simp; omega
      case hb => simp; omega
      intro v2 w2 hown2 hg2 hat2
      rw [← HT.out] at hown2
      have hbY := (hbX.alloc (by omega) _).grown hg2 (by simp; omega) (fun k hk => (hlto k hk).1)
      clear hown hown1 hg2 hat2 hb hb1 hbX
      go_wp2
      go_roundw
      case rel => exact ⟨k + 1, by omega, by go_num, hown2, hbY⟩
      case measure => simp [intOf]; omega
    · have hk2 : at_.take k = at_ := List.take_of_length_le (by omega)
      rw [hk2] at hown
      have hcv := conv_bytes wr _ _ _ hown
      have HK := Lib.hid (show keyB ls at_ = ⟨(at_.map (keyOf ls)).toArray⟩ from rfl)
      obtain ⟨A5, c5, rfl, _⟩ := hown.toSl byS
      clear hk2
      rw [← HK.out] at hcv
      simp only [List.length_map] at hcv
      go_wp2
      go_ret
      exact ⟨rfl, B1⟩
end Go.Proofs.Ythabpkigflldmaa
