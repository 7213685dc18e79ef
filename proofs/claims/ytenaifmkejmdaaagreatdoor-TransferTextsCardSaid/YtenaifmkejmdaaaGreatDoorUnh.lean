/- The program: unhex. -/
import Derived.Test.YtenaifmkejmdaaaGreatDoorHex
import Derived.Test.YtenaifmkejmdaaaGreatDoorPrsN
import Derived.BigQuiet
import Derived.IntWalk
namespace Go.Proofs.YtenaifmkejmdaaaGreatDoor
open Go.RowKit

attribute [local go_sem] Oper.semAt_some
def hv (b : UInt8) : Int := ((hexV b).map fun n : Nat => (n : Int)).getD (-1)
theorem idx_c (b : UInt8) (w : World) : Calls Tryz.prog 88 #[.string hexS, .int .u8 (b.toNat : Int)] w fun e w' => e = .returned (.int .i64 (hv b)) ∧ w = w' := by
  refine (Tryz.strings_IndexByte hexS (b.toNat : Int) w).mono ?_
  rintro e w' ⟨rfl, rfl⟩
  refine ⟨?_, rfl⟩
  have : Lib.indexByte hexL b = hv b := hexV_index b
  rw [← this]
  congr 3
  show ((b.toNat : Int).toNat).toUInt8 = b
  rw [Int.toNat_natCast]
  apply UInt8.toNat_inj.1
  have := b.toNat_lt
  simp [Nat.toUInt8]
theorem unhexG_two (a b : UInt8) (r : List UInt8) : unhexG (a :: b :: r) = match hexV a, hexV b with
    | some x, some y => (unhexG r).map (UInt8.ofNat (16 * x + y) :: ·)
    | _, _ => none := by rw [unhexG]; cases hexV a <;> cases hexV b <;> rfl
theorem unhexG_no {a b : UInt8} {r : List UInt8} (h : hexV a = none ∨ hexV b = none) : unhexG (a :: b :: r) = none := by
  rw [unhexG_two]
  rcases h with h | h
  · rw [h]
  · rw [h]; cases hexV a <;> rfl
theorem unhexG_yes {a b : UInt8} {r : List UInt8} {x y : Nat} (h : hexV a = some x) (h2 : hexV b = some y) : unhexG (a :: b :: r) = (unhexG r).map (UInt8.ofNat (16 * x + y) :: ·) := by
  rw [unhexG_two, h, h2]
theorem drop_two {l : List UInt8} {n : Nat} (h : n + 1 < l.length) : l.drop n = l[n]'(by omega) :: l[n + 1] :: l.drop (n + 2) := by
  rw [List.drop_eq_getElem_cons (by omega), List.drop_eq_getElem_cons h]
theorem belowU_drew {w w' : World} (B : Nat) (h : ∃ n, w' = w.drewN n) : Below B w w' := by
  obtain ⟨n, rfl⟩ := h
  exact below_drewN (Below.refl _ _) n
theorem hexOr_all : ∀ x y : Fin 16, bits .or .i64 ((x.val : Int) * 16) (y.val : Int) % 256 = ((UInt8.ofNat (16 * x.val + y.val)).toNat : Int) := by decide +kernel
theorem hexOr {x y : Nat} (hx : x < 16) (hy : y < 16) : bits .or .i64 ((x : Int) * 16) (y : Int) % 256 = ((UInt8.ofNat (16 * x + y)).toNat : Int) := hexOr_all ⟨x, hx⟩ ⟨y, hy⟩
def unhR (o : Option (List UInt8)) : Value := .tuple #[.string ⟨(o.getD []).toArray⟩, .bool o.isSome]
set_option maxRecDepth 100000 in
set_option maxHeartbeats 2000000 in
theorem unhex_c (s : ByteArray) (w : World) :
    Calls Tryz.prog 69 #[.string s] w fun e w' => e = .returned (unhR (unhexO s.data.toList)) ∧ Below w.heap.size w w' := by
  have HL := Lib.hid (show s.data.toList.length = s.size from Array.length_toList)
  by_cases h64 : s.size = 64
  · have HU := Lib.hid (show unhexO s.data.toList = unhexG s.data.toList by unfold unhexO; rw [if_neg (by rw [HL.out]; simp [h64])])
    have h64i : (s.size : Int) = 64 := by omega
    go_enter Tryz.func69, Tryz.ntmps69
    go_wp2
    go_loopw [5] (fun i wr => ∃ (n : Nat) (acc : List UInt8), n ≤ 64 ∧ n % 2 = 0 ∧ 2 * acc.length = n ∧ i = .int .i64 n ∧ Hid (unhexG s.data.toList = (unhexG (s.data.toList.drop n)).map (acc ++ ·)) ∧ Hid (Bld w.heap.size w.heap.size (Lib.byteCells acc) wr) ∧ Below w.heap.size w wr) (fun i _ => 64 - (intOf i).toNat)
    case atStart => exact ⟨0, [], by omega, rfl, rfl, rfl, Lib.hid (by simp), Lib.hid (Bld.start w), (Below.refl _ _).alloc (Nat.le_refl _) _⟩
    case round =>
      obtain ⟨n, acc, hn, hev, hacc, rfl, HS, HB, hb⟩ := hrel
      have hsr := hb.size
      by_cases hlt : n < 64
      · have hl1 : n < s.size := by omega
        have hl2 : n + 1 < s.size := by omega
        have HD := Lib.hid (show s.data.toList.drop n = s[n]'hl1 :: s[n + 1]'hl2 :: s.data.toList.drop (n + 2) from drop_two (by rw [HL.out]; exact hl2))
        have hni : (n : Int) < (s.size : Int) := by omega
        have hni2 : (n : Int) + 1 < (s.size : Int) := by omega
        have hn0 : (0 : Int) ≤ (n : Int) + 1 := by omega
        have htn : ((n : Int) + 1).toNat = n + 1 := by omega
        have hni3 : (n : Int) < 64 := by omega
        have hni4 : (n : Int) + 1 < 64 := by omega
        have hw1 : IntKind.i64.wrap ((n : Int) + 1) = (n : Int) + 1 := IntWalk.i64_in _ (by omega)
        have H1 := Lib.hid (fun W => idx_c (s[n]'hl1) W)
        have H2 := Lib.hid (fun W => idx_c (s[n + 1]'hl2) W)
        cases ha : hexV (s[n]'hl1) with
        | none =>
          have hva : hv (s[n]'hl1) = -1 := by unfold hv; rw [ha]; rfl
          have HE := Lib.hid (show unhexG s.data.toList = none by rw [HS.out, HD.out, unhexG_no (.inl ha)]; rfl)
          go_wp2
          go_quiet ((go_at_call 88; (first | refine (H1.out _).mono ?_ | refine (H2.out _).mono ?_); rintro e w1 ⟨rfl, rfl⟩; exact ⟨rfl, _, rfl⟩))
          go_wp2
          go_ret2
          exact ⟨by rw [HU.out, HE.out]; rfl, below_drewN hb _⟩
        | some x =>
          have hva : hv (s[n]'hl1) = (x : Int) := by unfold hv; rw [ha]; rfl
          have hx := (hexV_D _ x ha).2
          have hxn : ¬ (x : Int) < 0 := by omega
          have hxd : decide ((x : Int) < 0) = false := by simp
          cases hb2 : hexV (s[n + 1]'hl2) with
          | none =>
            have hvb : hv (s[n + 1]'hl2) = -1 := by unfold hv; rw [hb2]; rfl
            have HE := Lib.hid (show unhexG s.data.toList = none by rw [HS.out, HD.out, unhexG_no (.inr hb2)]; rfl)
            go_wp2
            go_quiet ((go_at_call 88; (first | refine (H1.out _).mono ?_ | refine (H2.out _).mono ?_); rintro e w1 ⟨rfl, rfl⟩; exact ⟨rfl, _, rfl⟩))
            go_wp2
            go_ret2
            exact ⟨by rw [HU.out, HE.out]; rfl, below_drewN hb _⟩
          | some y =>
            have hvb : hv (s[n + 1]'hl2) = (y : Int) := by unfold hv; rw [hb2]; rfl
            have hy := (hexV_D _ y hb2).2
            have hyn : ¬ (y : Int) < 0 := by omega
            have hyd : decide ((y : Int) < 0) = false := by simp
            have HE := Lib.hid (show unhexG s.data.toList = (unhexG (s.data.toList.drop (n + 2))).map ((acc ++ [UInt8.ofNat (16 * x + y)]) ++ ·) by
              rw [HS.out, HD.out, unhexG_yes ha hb2, Option.map_map]
              congr 1
              funext l
              simp)
            have HB1 := Lib.hid (fun (c : Int) (W : World) (hW : ∃ k, W = wr.drewN k) => wbyte_c w.heap.size w.heap.size (Lib.byteCells acc) c W (HB.out.below (belowU_drew _ hW)) (by simp [Lib.byteCells]; omega) (Nat.le_trans hsr (belowU_drew wr.heap.size hW).size))
            clear HS HD
            go_wp2
            go_quiet ((go_at_call 88; (first | refine (H1.out _).mono ?_ | refine (H2.out _).mono ?_); rintro e w1 ⟨rfl, rfl⟩; exact ⟨rfl, _, rfl⟩))
            go_wp2_with fail
            refine (HB1.out _ _ ⟨_, rfl⟩).mono ?_
            rintro e w1 ⟨rfl, hu1, hb1⟩
            rw [hexOr hx hy, bcell_snoc] at hu1
            have HN := Lib.hid (.inr hu1 : Bld w.heap.size w.heap.size (Lib.byteCells (acc ++ [UInt8.ofNat (16 * x + y)])) w1)
            clear hu1 HB1 HB
            have hbN := hb.trans ((below_drewN (Below.refl _ _) _).trans hb1)
            go_wp2
            go_roundw
            case rel => exact ⟨n + 2, acc ++ [UInt8.ofNat (16 * x + y)], by omega, by omega, by simp; omega, by go_num, HE, HN, hbN⟩
            case measure => simp [intOf]; omega
      · have HE := Lib.hid (show unhexG s.data.toList = some acc by rw [HS.out, List.drop_of_length_le (by rw [HL.out]; omega)]; simp [unhexG])
        have hni3 : ¬ (n : Int) < 64 := by omega
        have HST := Lib.hid (Tryz.Builder_String_any w.heap.size w.heap.size acc wr HB.out hsr)
        clear HS HB
        go_wp2_with fail
        refine HST.out.mono ?_
        rintro e w3 ⟨rfl, hb3⟩
        go_wp2
        go_ret2
        exact ⟨by rw [HU.out, HE.out]; rfl, hb.trans hb3⟩
  · have HU := Lib.hid (show unhexO s.data.toList = none by unfold unhexO; rw [if_pos (by rw [HL.out]; exact h64)])
    have h64i : ¬ (s.size : Int) = 64 := by omega
    go_enter Tryz.func69, Tryz.ntmps69
    go_wp2
    go_ret2
    exact ⟨by rw [HU.out]; rfl, Below.refl _ _⟩
end Go.Proofs.YtenaifmkejmdaaaGreatDoor
