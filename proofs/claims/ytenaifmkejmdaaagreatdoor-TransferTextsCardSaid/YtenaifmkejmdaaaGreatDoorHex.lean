/- The program: hexadecimal digits. -/
import Derived.Test.YtenaifmkejmdaaaGreatDoorBld
import Derived.Test.YtenaifmkejmdaaaGreatDoorLin
namespace Go.Proofs.YtenaifmkejmdaaaGreatDoor
open Go.RowKit

theorem Bld.start (w : World) : Bld w.heap.size w.heap.size (Lib.byteCells []) (w.alloc (.cells #[.pointer none, .slice none 0 0] 65)) := .inl ⟨Nat.le_refl _, .slice none 0 0, by show (w.heap.push _)[w.heap.size]? = _; simp, ⟨by simp [Lib.byteCells], .inl ⟨rfl, rfl⟩⟩, by simp [Value.ownBlock]⟩
theorem Bld.below {B b : Nat} {bs : List Value} {w w' : World} (h : Bld B b bs w) (hb : Below w.heap.size w w') : Bld B b bs w' := by
  rcases h with ⟨h1, v, h2, h3, h4⟩ | ⟨h1, v, h2, h3, h4⟩
  · exact .inl ⟨h1, v, by rw [hb.block _ (heap_lt h2)]; exact h2, ownsRow_frame h3 (fun b hb' => hb.block _ (h3.lt b hb').2), h4⟩
  · exact .inr ⟨h1, v, by rw [hb.block _ (heap_lt h2)]; exact h2, ownsRow_frame h3 (fun b hb' => hb.block _ (h3.lt b hb').2), h4⟩
abbrev hexS : ByteArray := ⟨#[48, 49, 50, 51, 52, 53, 54, 55, 56, 57, 97, 98, 99, 100, 101, 102]⟩
theorem hexdig_all : ∀ i : Fin 16, hexS[i.val]'i.isLt = hexD i.val := by decide
theorem hexdig {n : Nat} (h : n < hexS.size) : hexS[n]'h = hexD n := hexdig_all ⟨n, h⟩
theorem bcell_snoc (l : List UInt8) (b : UInt8) : Lib.byteCells l ++ [.int .u8 (b.toNat : Int)] = Lib.byteCells (l ++ [b]) := by simp [Lib.byteCells]
theorem hexT_snoc {l : List UInt8} {k : Nat} {b : UInt8} (h : l[k]? = some b) : hexT (l.take (k + 1)) = hexT (l.take k) ++ [hexD (b.toNat / 16)] ++ [hexD (b.toNat % 16)] := by
  unfold hexT
  rw [take_at h, List.flatMap_append]
  simp
set_option maxRecDepth 100000 in
set_option maxHeartbeats 2000000 in
theorem hex_c (s : ByteArray) (w : World) (hs : s.size ≤ 1000000) :
    Calls Tryz.prog 41 #[.string s] w fun e w' => e = .returned (.string ⟨(hexT s.data.toList).toArray⟩) ∧ Below w.heap.size w w' := by
  have HL := Lib.hid (show s.data.toList.length = s.size from Array.length_toList)
  go_enter Tryz.func41, Tryz.ntmps41
  go_wp2
  go_loopw [7] (fun i wr => ∃ k : Nat, k ≤ s.size ∧ i = .int .i64 k ∧ Hid (Bld w.heap.size w.heap.size (Lib.byteCells (hexT (s.data.toList.take k))) wr) ∧ Below w.heap.size w wr) (fun i _ => s.size - (intOf i).toNat)
  case atStart => exact ⟨0, Nat.zero_le _, rfl, Lib.hid (Bld.start w), (Below.refl _ _).alloc (Nat.le_refl _) _⟩
  case round =>
    obtain ⟨k, hk, rfl, HB, hb⟩ := hrel
    by_cases hlt : k < s.size
    · have hki : (k : Int) < (s.size : Int) := by omega
      have hx := (s[k]'hlt).toNat_lt
      have hd1 : (0 : Int) ≤ ((s[k]'hlt).toNat : Int) / 16 ∧ ((s[k]'hlt).toNat : Int) / 16 < 16 := by omega
      have hd2 : (0 : Int) ≤ ((s[k]'hlt).toNat : Int) % 16 ∧ ((s[k]'hlt).toNat : Int) % 16 < 16 := by omega
      have HT := Lib.hid (hexT_snoc (show s.data.toList[k]? = some (s[k]'hlt) by rw [List.getElem?_eq_getElem (by rw [HL.out]; exact hlt)]; rfl))
      have hlen : (hexT (s.data.toList.take k)).length ≤ 2000000 := by rw [hexT_len, List.length_take]; omega
      have hsr := hb.size
      have hl1 : (Lib.byteCells (hexT (s.data.toList.take k))).length ≤ 2000000 := by simpa [Lib.byteCells] using hlen
      have HB1 := Lib.hid (fun (c : Int) => wbyte_c w.heap.size w.heap.size (Lib.byteCells (hexT (s.data.toList.take k))) c wr HB.out (by omega) hsr)
      clear HB hx
      go_wp2_with fail
      refine (HB1.out _).mono ?_
      rintro e w1 ⟨rfl, hu1, hb1⟩
      rw [hexdig (show (s[k]'hlt).toNat / 16 < 16 by omega), bcell_snoc] at hu1
      have HB2 := Lib.hid (fun (c : Int) => wbyte_c w.heap.size w.heap.size _ c w1 (.inr hu1) (by simp [Lib.byteCells] at hlen ⊢; omega) (Nat.le_trans hsr hb1.size))
      go_wp2_with fail
      refine (HB2.out _).mono ?_
      rintro e w2 ⟨rfl, hu2, hb2⟩
      rw [hexdig (show (s[k]'hlt).toNat % 16 < 16 by omega), bcell_snoc, ← HT.out] at hu2
      have HN := Lib.hid (.inr hu2 : Bld w.heap.size w.heap.size (Lib.byteCells (hexT (s.data.toList.take (k + 1)))) w2)
      clear hu1 hu2 HB1 HB2
      go_wp2
      go_roundw
      case rel => exact ⟨k + 1, by omega, by go_num, HN, hb.trans (hb1.trans hb2)⟩
      case measure => simp [intOf]; omega
    · have hsr := hb.size
      have HBF := HB.out
      rw [List.take_of_length_le (by rw [HL.out]; omega)] at HBF
      have HST := Lib.hid (Tryz.Builder_String_any w.heap.size w.heap.size (hexT s.data.toList) wr HBF hsr)
      have hki : ¬ (k : Int) < (s.size : Int) := by omega
      clear HB HBF
      go_wp2_with fail
      refine HST.out.mono ?_
      rintro e w3 ⟨rfl, hb3⟩
      go_wp2
      go_ret
      exact ⟨rfl, hb.trans hb3⟩
end Go.Proofs.YtenaifmkejmdaaaGreatDoor
