/- The reference: Decimal, digit, Number, Words, numbers. -/
import Derived.Test.YtenaifmkejmdaaaGreatDoorLwC
import Derived.Laws.IdiomStrings
import Derived.Test.YtenaifmkejmdaaaGreatDoorDfC
import Derived.Test.YtenaifmkejmdaaaGreatDoorStep
import Derived.Deep.RegionLaw
import Derived.Test.YtenaifmkejmdaaaGreatDoorUnh
namespace Go.Proofs.YtenaifmkejmdaaaGreatDoor
open Go.RowKit

def bytEnc (x : UInt8) : List Value := [.int .u8 x.toNat]
theorem bytS : Shape 1 (flat bytEnc) := flat_shape 1 _ (fun _ => rfl) (fun x u hu => by simp [bytEnc] at hu; subst hu; rfl)
theorem bytE_ : Elem Tryz.prog 63 5 1 1 := by
  obtain ⟨i, h1, h2, h3, h4⟩ := info_parts (P := Tryz.prog) (e := 5) (z := .int .u8 0) (size := 1) (bytes := 1) (by kernel_rfl)
  exact ⟨Tryz.underlying63, ⟨i, _, h1, h2, h3, h4, rfl⟩, by decide⟩
theorem bytes_back {w : World} {F : Nat → Prop} {l : List UInt8} {g cap : Nat} (h : SlRep 1 (flat bytEnc) w F l (.slice (some ⟨g, 0, none⟩) l.length cap)) : (convert 63 9 (.slice (some ⟨g, 0, none⟩) l.length cap)).run Tryz.prog w = .ok (.string ⟨l.toArray⟩) w := by
  refine run_convert_bytes_back w 63 9 5 ⟨g, 0, none⟩ cap l Tryz.underlying63 Tryz.underlying5 Tryz.underlying9 (fun j hj => ?_)
  obtain ⟨A', c', e, h1, h2, h3⟩ := h
  obtain ⟨b, off, cs, hA, hlt, hr, hc⟩ := h3 j l[j] (List.getElem?_eq_getElem hj)
  injection e with e1 e2 e3
  rw [← e1] at hA
  injection hA with hA
  injection hA with hA1 hA2
  subst hA1 hA2
  have hr' : cs = bytEnc l[j] := hr
  subst hr'
  have := hc 0 _ rfl
  rw [show (⟨g, 0, none⟩ : Addr).add j = ⟨g, 0 + j * 1 + 0, none⟩ by unfold Addr.add; split <;> simp_all]
  exact this
theorem dec_small {n : Nat} (h : n < 10) : Lib.decDigits n = [UInt8.ofNat (48 + n)] := by rw [Lib.decDigits, dif_pos h]
theorem dec_big {n : Nat} (h : ¬ n < 10) : Lib.decDigits n = Lib.decDigits (n / 10) ++ Lib.decDigits (n % 10) := by
  rw [Lib.decDigits, dif_neg h, dec_small (Nat.mod_lt _ (by decide))]
set_option maxRecDepth 100000 in
set_option maxHeartbeats 2000000 in
theorem rdecimal_c : ∀ (N n : Nat), n < N → n ≤ 1073741824 → ∀ w : World, Calls Tryz.prog 43 #[.int .i64 n] w fun e w' => e = .returned (.string ⟨(Lib.decDigits n).toArray⟩) ∧ Below w.heap.size w w'
  | 0, n, h, _ => absurd h (Nat.not_lt_zero _)
  | N + 1, n, hn, hm => fun w => by
    by_cases h10 : n < 10
    · have hi : (n : Int) < 10 := by omega
      have HD := Lib.hid (dec_small h10)
      have hu : IntKind.u8.wrap (48 + (n : Int)) = ((UInt8.ofNat (48 + n)).toNat : Int) := by
        rw [UInt8.toNat_ofNat']
        show (48 + (n : Int)) % 256 = _
        omega
      have hw : IntKind.i64.wrap (48 + (n : Int)) = 48 + (n : Int) := IntWalk.i64_in _ (by omega)
      obtain ⟨b, hb⟩ : ∃ b, UInt8.ofNat (48 + n) = b := ⟨_, rfl⟩
      rw [hb] at HD hu
      have hsl : SlRep 1 (flat bytEnc) (w.alloc (.cells #[.int .u8 b.toNat] 5)) (fun b => False ∨ b = w.heap.size) [b] (.slice (some ⟨w.heap.size, 0, none⟩) 1 1) := SlRep.one_new bytS (F := fun _ => False) rfl (rfl : [Value.int .u8 b.toNat] = _) (fun _ h => h.elim)
      have hcv : (convert 63 9 (.slice (some ⟨w.heap.size, 0, none⟩) 1 1)).run Tryz.prog (w.alloc (.cells #[.int .u8 b.toNat] 5)) = .ok (.string ⟨[b].toArray⟩) (w.alloc (.cells #[.int .u8 b.toNat] 5)) := bytes_back hsl
      have HB := Lib.hid ((Below.refl _ _).alloc (Nat.le_refl _) _ : Below w.heap.size w (w.alloc (.cells #[.int .u8 b.toNat] 5)))
      clear hsl hb h10
      go_enter Tryz.func43, Tryz.ntmps43
      go_wp2
      go_ret
      exact ⟨by rw [HD.out]; rfl, HB.out⟩
    · have hi : ¬ (n : Int) < 10 := by omega
      have HD := Lib.hid (dec_big h10)
      have H1 := Lib.hid (rdecimal_c N (n / 10) (by omega) (by omega))
      have H2 := Lib.hid (rdecimal_c N (n % 10) (by omega) (by omega))
      have hq : IntKind.i64.wrap (Int.tdiv (n : Int) 10) = ((n / 10 : Nat) : Int) := by
        rw [Int.tdiv_eq_ediv_of_nonneg (by omega)]
        rw [IntWalk.i64_in _ (by omega)]
        omega
      have hr : IntKind.i64.wrap (Int.tmod (n : Int) 10) = ((n % 10 : Nat) : Int) := by
        rw [Int.tmod_eq_emod_of_nonneg (by omega)]
        rw [IntWalk.i64_in _ (by omega)]
        omega
      have HC := Lib.hid (show ∀ x y : ByteArray, x = ⟨(Lib.decDigits (n / 10)).toArray⟩ → y = ⟨(Lib.decDigits (n % 10)).toArray⟩ → x ++ y = ⟨(Lib.decDigits n).toArray⟩ by
        rintro x y rfl rfl
        rw [HD.out]
        apply ByteArray.ext
        simp)
      have HS := Lib.hid (show ∀ m : Nat, m ≤ 1073741824 → (Lib.decDigits m).length ≤ 10 from fun m hm => digits_len 9 m (by omega))
      obtain ⟨x, hx⟩ : ∃ x : ByteArray, x = ⟨(Lib.decDigits (n / 10)).toArray⟩ := ⟨_, rfl⟩
      obtain ⟨y, hy⟩ : ∃ y : ByteArray, y = ⟨(Lib.decDigits (n % 10)).toArray⟩ := ⟨_, rfl⟩
      have hxs : x.size ≤ 10 := by rw [hx]; exact HS.out _ (by omega)
      have hys : y.size ≤ 10 := by rw [hy]; exact HS.out _ (by omega)
      have HXY := Lib.hid (HC.out x y hx hy)
      rw [← hx] at H1
      rw [← hy] at H2
      have hlim : ¬ 9223372036854775807 < x.size + y.size := by omega
      clear HC HS HD hx hy h10
      go_enter Tryz.func43, Tryz.ntmps43
      go_wp2_with fail
      refine (H1.out _).mono ?_
      rintro e w1 ⟨rfl, hb1⟩
      go_wp2_with fail
      refine (H2.out _).mono ?_
      rintro e w2 ⟨rfl, hb2⟩
      go_wp2
      go_ret
      exact ⟨by show Ending.returned (.string (x ++ y)) = _; rw [HXY.out], hb1.trans (hb2.mono hb1.size)⟩
def digV (b : UInt8) : Int := ((hexV b).map fun n : Nat => (n : Int)).getD (-1)
theorem rdigit_c (b : UInt8) (w : World) : Calls Tryz.prog 71 #[.int .u8 b.toNat] w fun e w' => e = .returned (.int .i64 (digV b)) ∧ w = w' := by
  have hb : b.toNat < 256 := b.toNat_lt
  by_cases h1 : 48 ≤ b.toNat ∧ b.toNat ≤ 57
  · have HE := Lib.hid (show digV b = (b.toNat : Int) - 48 by unfold digV hexV; rw [if_pos h1]; show ((b.toNat - 48 : Nat) : Int) = _; omega)
    have i1 : (48 : Int) ≤ (b.toNat : Int) := by omega
    have i2 : (b.toNat : Int) ≤ 57 := by omega
    have hw : IntKind.u8.wrap ((b.toNat : Int) - 48) = (b.toNat : Int) - 48 := by show ((b.toNat : Int) - 48) % 256 = _; omega
    have hw2 : IntKind.i64.wrap ((b.toNat : Int) - 48) = (b.toNat : Int) - 48 := IntWalk.i64_in _ (by omega)
    clear h1
    go_enter Tryz.func71, Tryz.ntmps71
    go_wp2
    go_ret
    exact ⟨ret_int HE.out.symm, rfl⟩
  · by_cases h2 : 97 ≤ b.toNat ∧ b.toNat ≤ 102
    · have HE := Lib.hid (show digV b = (b.toNat : Int) - 97 + 10 by unfold digV hexV; rw [if_neg h1, if_pos h2]; show ((b.toNat - 87 : Nat) : Int) = _; omega)
      have i1 : (97 : Int) ≤ (b.toNat : Int) := by omega
      have i2 : (b.toNat : Int) ≤ 102 := by omega
      have i3 : ¬ (b.toNat : Int) ≤ 57 := by omega
      have i4 : (48 : Int) ≤ (b.toNat : Int) := by omega
      have hw : IntKind.u8.wrap ((b.toNat : Int) - 97) = (b.toNat : Int) - 97 := by show ((b.toNat : Int) - 97) % 256 = _; omega
      have hw2 : IntKind.i64.wrap ((b.toNat : Int) - 97) = (b.toNat : Int) - 97 := IntWalk.i64_in _ (by omega)
      have hw3 : IntKind.i64.wrap ((b.toNat : Int) - 97 + 10) = (b.toNat : Int) - 97 + 10 := IntWalk.i64_in _ (by omega)
      clear h1 h2
      go_enter Tryz.func71, Tryz.ntmps71
      go_wp2
      go_ret
      exact ⟨ret_int HE.out.symm, rfl⟩
    · have HE := Lib.hid (show digV b = -1 by unfold digV hexV; rw [if_neg h1, if_neg h2]; rfl)
      have h3 : (b.toNat < 48) ∨ (57 < b.toNat ∧ b.toNat < 97) ∨ 102 < b.toNat := by omega
      rcases h3 with h3 | ⟨h3, h4⟩ | h3
      · have i1 : ¬ (48 : Int) ≤ (b.toNat : Int) := by omega
        have i2 : ¬ (97 : Int) ≤ (b.toNat : Int) := by omega
        clear h1 h2 h3
        go_enter Tryz.func71, Tryz.ntmps71
        go_wp2
        go_ret
        exact ⟨ret_int HE.out.symm, rfl⟩
      · have i1 : (48 : Int) ≤ (b.toNat : Int) := by omega
        have i2 : ¬ (b.toNat : Int) ≤ 57 := by omega
        have i3 : ¬ (97 : Int) ≤ (b.toNat : Int) := by omega
        clear h1 h2 h3 h4
        go_enter Tryz.func71, Tryz.ntmps71
        go_wp2
        go_ret
        exact ⟨ret_int HE.out.symm, rfl⟩
      · have i1 : (48 : Int) ≤ (b.toNat : Int) := by omega
        have i2 : ¬ (b.toNat : Int) ≤ 57 := by omega
        have i3 : (97 : Int) ≤ (b.toNat : Int) := by omega
        have i4 : ¬ (b.toNat : Int) ≤ 102 := by omega
        clear h1 h2 h3
        go_enter Tryz.func71, Tryz.ntmps71
        go_wp2
        go_ret
        exact ⟨ret_int HE.out.symm, rfl⟩
def numV (s : ByteArray) : Int := ((numO s.data.toList).map fun n : Nat => (n : Int)).getD (-1)
theorem numV_none {s : ByteArray} (h : numO s.data.toList = none) : numV s = -1 := by unfold numV; rw [h]; rfl
theorem dec_at {l : List UInt8} {a : Nat} {x : UInt8} {r : List UInt8} (h : l = x :: r) : Lib.decFrom a l = if 48 ≤ x.toNat ∧ x.toNat ≤ 57 then Lib.decFrom (a * 10 + (x.toNat - 48)) r else none := by
  subst h
  rw [Lib.decFrom]
  unfold Lib.digitVal
  by_cases hx : 48 ≤ x.toNat ∧ x.toNat ≤ 57
  · rw [if_pos hx, if_pos hx]
  · rw [if_neg hx, if_neg hx]
set_option maxRecDepth 100000 in
set_option maxHeartbeats 2000000 in
theorem rnumber_c (s : ByteArray) (w : World) : Calls Tryz.prog 70 #[.string s] w fun e w' => e = .returned (.int .i64 (numV s)) ∧ w = w' := by
  have hsl : s.data.toList.length = s.size := Array.length_toList
  by_cases h1 : s.size < 1
  · have HX := Lib.hid (numV_none (s := s) (by unfold numO; rw [if_pos (by left; omega)]))
    have i1 : (s.size : Int) < 1 := by omega
    clear h1
    go_enter Tryz.func70, Tryz.ntmps70
    go_wp2
    go_ret
    exact ⟨ret_int HX.out.symm, rfl⟩
  · have i1 : ¬ (s.size : Int) < 1 := by omega
    by_cases h2 : 10 < s.size
    · have HX := Lib.hid (numV_none (s := s) (by unfold numO; rw [if_pos (by right; left; omega)]))
      have i2 : (10 : Int) < (s.size : Int) := by omega
      clear h1 h2
      go_enter Tryz.func70, Tryz.ntmps70
      go_wp2
      go_ret
      exact ⟨ret_int HX.out.symm, rfl⟩
    · have i2 : ¬ (10 : Int) < (s.size : Int) := by omega
      have h0 : 0 < s.size := by omega
      have i0 : (0 : Int) < (s.size : Int) := by omega
      have HH := Lib.hid (head_at h0)
      by_cases h3 : 1 < s.size ∧ s[0]'h0 = 48
      · have HX := Lib.hid (numV_none (s := s) (by unfold numO; rw [if_pos (by right; right; exact ⟨by omega, by rw [HH.out, h3.2]⟩)]))
        have i3 : (1 : Int) < (s.size : Int) := by omega
        have i4 : ((s[0]'h0).toNat : Int) = 48 := by rw [h3.2]; rfl
        clear h1 h2 h3
        go_enter Tryz.func70, Tryz.ntmps70
        go_wp2
        go_ret
        exact ⟨ret_int HX.out.symm, rfl⟩
      · have HN := Lib.hid (show numO s.data.toList = Lib.decFrom 0 (s.data.toList.drop 0) by
          unfold numO
          rw [if_neg (by
            rintro (h | h | ⟨h, h'⟩)
            · omega
            · omega
            · rw [HH.out] at h'
              injection h' with h'
              exact h3 ⟨by omega, h'⟩)]
          rfl)
        have i3 : ¬ (1 : Int) < (s.size : Int) ∨ ((1 : Int) < (s.size : Int) ∧ ¬ ((s[0]'h0).toNat : Int) = 48) := by
          rcases Nat.lt_or_ge 1 s.size with h | h
          · exact .inr ⟨by omega, fun e => h3 ⟨h, UInt8.toNat_inj.1 (by show (s[0]'h0).toNat = 48; omega)⟩⟩
          · exact .inl (by omega)
        have hs10 : s.size ≤ 10 := by omega
        have HP := Lib.hid (show ∀ k, k ≤ 10 → 10 ^ k ≤ 10 ^ 10 from fun k hk => Nat.pow_le_pow_right (by decide) hk)
        clear h1 h2 h3
        go_enter Tryz.func70, Tryz.ntmps70
        rcases i3 with i3 | ⟨i3, i4⟩
        all_goals
          go_wp2
          go_loopw [3, 4] (fun n i wr => ∃ (k a : Nat), k ≤ s.size ∧ i = .int .i64 k ∧ n = .int .i64 a ∧ Hid (numO s.data.toList = Lib.decFrom a (s.data.toList.drop k)) ∧ Hid (a < 10 ^ k) ∧ wr = w) (fun _ i _ => s.size - (intOf i).toNat)
          case atStart => exact ⟨0, 0, Nat.zero_le _, rfl, rfl, HN, Lib.hid (by decide), rfl⟩
          case round =>
            obtain ⟨k, a, hk, rfl, rfl, HS, HB, rfl⟩ := hrel
            by_cases hlt : k < s.size
            · have hki : (k : Int) < (s.size : Int) := by omega
              have HD := Lib.hid (HS.out.trans (dec_at (drop_at (byte_at hlt))))
              have hwk : IntKind.i64.wrap ((k : Int) + 1) = (k : Int) + 1 := IntWalk.i64_in _ (by omega)
              obtain ⟨c, hc⟩ : ∃ c, s[k]'hlt = c := ⟨_, rfl⟩
              have hlt' : k < s.size := hlt
              by_cases hd : 48 ≤ c.toNat ∧ c.toNat ≤ 57
              · have j1 : ¬ (c.toNat : Int) < 48 := by omega
                have j2 : ¬ (57 : Int) < (c.toNat : Int) := by omega
                have hab : a < 10 ^ 10 := Nat.lt_of_lt_of_le HB.out (HP.out k (by omega))
                have HS2 := Lib.hid (HD.out.trans (by rw [hc, if_pos hd]))
                have HB2 := Lib.hid (show a * 10 + (c.toNat - 48) < 10 ^ (k + 1) by have := HB.out; rw [Nat.pow_succ]; omega)
                have hu : IntKind.u8.wrap ((c.toNat : Int) - 48) = (c.toNat : Int) - 48 := by show ((c.toNat : Int) - 48) % 256 = _; omega
                have hv : IntKind.i64.wrap ((c.toNat : Int) - 48) = (c.toNat : Int) - 48 := IntWalk.i64_in _ (by omega)
                have hm : IntKind.i64.wrap ((a : Int) * 10) = (a : Int) * 10 := IntWalk.i64_in _ (by omega)
                have hp : IntKind.i64.wrap ((a : Int) * 10 + ((c.toNat : Int) - 48)) = (a : Int) * 10 + ((c.toNat : Int) - 48) := IntWalk.i64_in _ (by omega)
                have HCA := Lib.hid (show (a : Int) * 10 + ((c.toNat : Int) - 48) = ((a * 10 + (c.toNat - 48) : Nat) : Int) by omega)
                clear HS HB HD hd hab
                go_wp2
                go_roundw
                case rel => exact ⟨k + 1, a * 10 + (c.toNat - 48), by omega, by go_num, by rw [HCA.out], HS2, HB2, by first | rfl | trivial⟩
                case measure => simp [intOf]; omega
              · have HX := Lib.hid (numV_none (s := s) (HD.out.trans (by rw [hc, if_neg hd])))
                have hcases : c.toNat < 48 ∨ (48 ≤ c.toNat ∧ 57 < c.toNat) := by omega
                rcases hcases with h | ⟨h, h'⟩
                · have j1 : (c.toNat : Int) < 48 := by omega
                  clear HS HB HD hd h
                  go_wp2
                  go_ret
                  exact ⟨ret_int HX.out.symm, rfl⟩
                · have j1 : ¬ (c.toNat : Int) < 48 := by omega
                  have j2 : (57 : Int) < (c.toNat : Int) := by omega
                  clear HS HB HD hd h h'
                  go_wp2
                  go_ret
                  exact ⟨ret_int HX.out.symm, rfl⟩
            · have hki : ¬ (k : Int) < (s.size : Int) := by omega
              have HX := Lib.hid (show numV s = (a : Int) by unfold numV; rw [HS.out, List.drop_of_length_le (by rw [hsl]; omega)]; rfl)
              clear HS HB
              go_wp2
              go_ret
              exact ⟨ret_int HX.out.symm, rfl⟩

theorem bs_inj : ∀ {L M : List ByteArray}, (L.map fun x => x.data.toList) = (M.map fun x => x.data.toList) → L = M
  | [], [], _ => rfl
  | [], _ :: _, h => by simp at h
  | _ :: _, [], h => by simp at h
  | x :: L, y :: M, h => by
    rw [List.map_cons, List.map_cons] at h
    injection h with h1 h2
    rw [bs_inj h2, show x = y from (bytes_of h1).trans rfl]
theorem ext_list (s : ByteArray) (a b : Nat) : (s.extract a b).data.toList = (s.data.toList.drop a).take (b - a) := by
  rw [ByteArray.data_extract]
  simp [List.extract]
theorem cut_one {l : List UInt8} {a b : Nat} {x : UInt8} (hab : a ≤ b) (hx : l[b]? = some x) : (l.drop a).take (b + 1 - a) = (l.drop a).take (b - a) ++ [x] := by
  rw [show b + 1 - a = b - a + 1 by omega]
  refine take_at (xs := l.drop a) (i := b - a) ?_
  rw [List.getElem?_drop, show a + (b - a) = b by omega]
  exact hx
set_option maxRecDepth 100000 in
set_option maxHeartbeats 4000000 in
theorem rwords_c (s : ByteArray) (m : Nat) (w : World) (hm : m ≤ 100) (hs : s.size ≤ 1000000) :
    Calls Tryz.prog 48 #[.string s, .int .i64 ((m : Int) + 1)] w fun e w' => ∃ v, e = .returned v ∧ OwnRep 1 (flat strEnc) 9 w.heap.size w' (splBN 32 m s) v ∧ Below w.heap.size w w' := by
  have HIS := Lib.hid (splBN_is 32 m s)
  have H0 := Lib.hid (show splN 32 m [] s.data.toList = (([] : List ByteArray).map fun x => x.data.toList) ++ splN 32 (m - 0) ((s.data.toList.drop 0).take (0 - 0)) (s.data.toList.drop 0) from rfl)
  have hsl : s.data.toList.length = s.size := Array.length_toList
  go_enter Tryz.func48, Tryz.ntmps48
  go_wp2
  go_loopw [5, 6, 7] (fun o f i wr => ∃ (k a : Nat) (out : List ByteArray) (ov : Value), a ≤ k ∧ k ≤ s.size ∧ out.length ≤ m ∧ i = .int .i64 k ∧ f = .int .i64 a ∧ ov = o ∧ Hid (splN 32 m [] s.data.toList = (out.map fun x => x.data.toList) ++ splN 32 (m - out.length) ((s.data.toList.drop a).take (k - a)) (s.data.toList.drop k)) ∧ Hid (OwnRep 1 (flat strEnc) 9 w.heap.size wr out ov) ∧ Below w.heap.size w wr) (fun _ _ i _ => s.size - (intOf i).toNat)
  case atStart => exact ⟨0, 0, [], _, Nat.le_refl _, Nat.zero_le _, Nat.zero_le _, rfl, rfl, rfl, H0, Lib.hid OwnRep.nil_, Below.refl _ _⟩
  case round =>
    clear H0
    obtain ⟨k, a, out, ov, hak, hk, hol, rfl, rfl, rfl, HS, HO, hbr⟩ := hrel
    obtain ⟨Ao, no, co, rfl, hno⟩ := own_form strS HO.out
    have HNO := Lib.hid hno.out
    have hnm : no ≤ m := by rw [hno.out]; exact hol
    obtain ⟨ol, hol2⟩ : ∃ ol, out.length = ol := ⟨_, rfl⟩
    rw [hol2] at HS hol
    have HOL := Lib.hid hol2
    have hn2 : no = ol := by rw [HNO.out, hol2]
    clear hno
    subst hn2
    have hwn : IntKind.i64.wrap ((no : Int) + 1) = (no : Int) + 1 := IntWalk.i64_in _ (by omega)
    have hwk : IntKind.i64.wrap ((k : Int) + 1) = (k : Int) + 1 := IntWalk.i64_in _ (by omega)
    have hlta := HO.out.own_lt
    have hsz := hbr.size
    by_cases hgo : k < s.size ∧ no < m
    · obtain ⟨hlt, hlm⟩ := hgo
      have hki : (k : Int) < (s.size : Int) := by omega
      have hmi : (no : Int) + 1 < (m : Int) + 1 := by omega
      have HX := Lib.hid (byte_at hlt)
      have HST := Lib.hid (HS.out.trans (by rw [drop_at HX.out, show m - no = (m - no - 1) + 1 by omega, splN_cons]))
      have hlt' : k < s.size := hlt
      by_cases hb : s[k]'hlt = 32
      · have hbi : ((s[k]'hlt).toNat : Int) = 32 := by rw [hb]; rfl
        have hai : (a : Int) ≤ (k : Int) := by omega
        have hks : (k : Int) ≤ (s.size : Int) := by omega
        obtain ⟨t, ht⟩ : ∃ t, s.extract a k = t := ⟨_, rfl⟩
        have HT := Lib.hid (show t.data.toList = (s.data.toList.drop a).take (k - a) by rw [← ht]; exact ext_list s a k)
        have HN := Lib.hid (show splN 32 m [] s.data.toList = ((out ++ [t]).map fun x => x.data.toList) ++ splN 32 (m - (out ++ [t]).length) ((s.data.toList.drop (k + 1)).take (k + 1 - (k + 1))) (s.data.toList.drop (k + 1)) by
          rw [HST.out, if_pos hb, List.map_append, List.append_assoc, List.length_append, HOL.out]
          simp only [List.map_cons, List.map_nil, List.length_cons, List.length_nil, Nat.zero_add, Nat.sub_self, List.take_zero]
          rw [HT.out, show m - (no + 1) = m - no - 1 by omega]
          rfl)
        clear HS HST hb
        go_wp2_with (at_builtin; refine stop_intro ?_)
        refine stop_elim ?_
        refine wpList_append_rep rfl strS strE_ w.heap.size (.tmp 25) (.tmp 30) rfl rfl (HO.out.alloc strS _) rfl (ys := [t]) (SlRep.one_new strS (F := fun _ => False) ?hgA (rfl : [Value.string t] = _) ?hF1A) ?FA ?nA (by decide) ?hbaseA ?_
        case hgA => rfl
        case hF1A => exact fun _ h => h.elim
        case FA =>
          intro bb hbb
          rcases hbb with hbb | hbb
          · exact hbb.elim
          · subst hbb
            exact ⟨by simp, fun he => by have := (hlta _ he).2; omega⟩
        case nA => have := HOL.out; simp; omega
        case hbaseA => simp; omega
        intro v6 w6 hown6 hg6 hat6
        have hb6 := (hbr.alloc hsz _).grown hg6 (by simp; omega) (fun k hk => (hlta k hk).1)
        obtain ⟨A6, n6, c6, rfl, -⟩ := own_form strS hown6
        have HO6 := Lib.hid hown6
        clear hown6 hg6 hat6
        go_wp2
        go_roundw
        case rel => exact ⟨k + 1, k + 1, out ++ [t], _, Nat.le_refl _, by omega, by have := HOL.out; simp; omega, by go_num, by go_num, rfl, HN, HO6, hb6⟩
        case measure => simp [intOf]; omega
      · have hbi : ¬ ((s[k]'hlt).toNat : Int) = 32 := fun e => hb (UInt8.toNat_inj.1 (by show (s[k]'hlt).toNat = 32; omega))
        have HN := Lib.hid (show splN 32 m [] s.data.toList = (out.map fun x => x.data.toList) ++ splN 32 (m - out.length) ((s.data.toList.drop a).take (k + 1 - a)) (s.data.toList.drop (k + 1)) by
          rw [HST.out, if_neg hb, HOL.out, cut_one hak HX.out, show (m - no - 1) + 1 = m - no by omega])
        clear HS HST hb
        go_wp2
        go_roundw
        case rel => exact ⟨k + 1, a, out, _, by omega, by omega, by rw [HOL.out]; exact hol, by go_num, rfl, rfl, HN, HO, hbr⟩
        case measure => simp [intOf]; omega
    · have hai : (a : Int) ≤ (s.size : Int) := by omega
      obtain ⟨t, ht⟩ : ∃ t, s.extract a s.size = t := ⟨_, rfl⟩
      have HT := Lib.hid (show t.data.toList = (s.data.toList.drop a).take (s.size - a) by rw [← ht]; exact ext_list s a s.size)
      have HFN := Lib.hid (show out ++ [t] = splBN 32 m s by
        apply bs_inj
        rw [HIS.out, HS.out, List.map_append]
        congr 1
        have e : (s.data.toList.drop a).take (s.size - a) = (s.data.toList.drop a).take (k - a) ++ s.data.toList.drop k := by
          have h1 : s.data.toList.drop k = (s.data.toList.drop a).drop (k - a) := by rw [List.drop_drop]; congr 1; omega
          rw [h1, List.take_append_drop, List.take_of_length_le (by rw [List.length_drop, hsl]; exact Nat.le_refl _)]
        show [t.data.toList] = _
        rw [HT.out, e]
        by_cases h0 : m - no = 0
        · rw [h0, splN_zero]
        · have hd : s.data.toList.drop k = [] := List.drop_of_length_le (by rw [hsl]; omega)
          rw [hd, List.append_nil, show m - no = (m - no - 1) + 1 by omega]
          rfl)
      have hcases : (¬ (k : Int) < (s.size : Int) ∧ k ≤ s.size) ∨ ((k : Int) < (s.size : Int) ∧ ¬ (no : Int) + 1 < (m : Int) + 1) := by omega
      clear HS hgo
      rcases hcases with ⟨j1, j2⟩ | ⟨j1, j2⟩
      all_goals
        go_wp2_with (at_builtin; refine stop_intro ?_)
        refine stop_elim ?_
        refine wpList_append_rep rfl strS strE_ w.heap.size (.tmp 34) (.tmp 38) rfl rfl (HO.out.alloc strS _) rfl (ys := [t]) (SlRep.one_new strS (F := fun _ => False) ?hgB (rfl : [Value.string t] = _) ?hF1B) ?FB ?nB (by decide) ?hbaseB ?_
        case hgB => rfl
        case hF1B => exact fun _ h => h.elim
        case FB =>
          intro bb hbb
          rcases hbb with hbb | hbb
          · exact hbb.elim
          · subst hbb
            exact ⟨by simp, fun he => by have := (hlta _ he).2; omega⟩
        case nB => have := HOL.out; simp; omega
        case hbaseB => simp; omega
        intro v6 w6 hown6 hg6 hat6
        have hb6 := (hbr.alloc hsz _).grown hg6 (by simp; omega) (fun k hk => (hlta k hk).1)
        obtain ⟨A6, n6, c6, rfl, -⟩ := own_form strS hown6
        have HO6 := Lib.hid hown6
        clear hown6 hg6 hat6
        go_wp2
        go_ret
        exact ⟨_, rfl, by rw [← HFN.out]; exact HO6.out, hb6⟩
/-- what numbers returns -/
def nmsQ (tl : List (List UInt8)) (w : World) (e : Ending) (w' : World) : Prop := (numsO tl = none ∧ e = .returned (.tuple #[.slice none 0 0, .bool false]) ∧ Below w.heap.size w w') ∨ ∃ l v, numsO tl = some l ∧ e = .returned (.tuple #[v, .bool true]) ∧ OwnRep 1 (flat intEnc) 3 w.heap.size w' (toZ l) v ∧ Below w.heap.size w w'
set_option maxRecDepth 100000 in
set_option maxHeartbeats 4000000 in
theorem rnumbers_c (ts : List ByteArray) (v : Value) (w : World) (B : Nat) (hB : B ≤ w.heap.size) (h : SlRep 1 (flat strEnc) w (fun b => b < B) ts v) (hl : ts.length ≤ 100) :
    Calls Tryz.prog 49 #[v] w fun e w' => nmsQ (ts.map fun x => x.data.toList) w e w' := by
  obtain ⟨A, c, rfl, -⟩ := id h
  have HT := Lib.hid (fun (k : Nat) (x : ByteArray) (hx : ts[k]? = some x) (W : World) (hW : Below w.heap.size w W) => sl_str (h.below strS (hW.mono hB)) hx)
  obtain ⟨tl, htl⟩ : ∃ tl, (ts.map fun x => x.data.toList) = tl := ⟨_, rfl⟩
  have HTL := Lib.hid htl
  rw [htl]
  have H0 := Lib.hid (show numsO tl = (numsO (tl.drop 0)).map (([] : List Nat) ++ ·) by simp)
  clear htl
  go_enter Tryz.func49, Tryz.ntmps49
  go_wp2
  go_loopw [4, 5] (fun o i wr => ∃ (k : Nat) (done : List Nat) (ov : Value), k ≤ ts.length ∧ done.length = k ∧ i = .int .i64 k ∧ ov = o ∧ Hid (numsO tl = (numsO (tl.drop k)).map (done ++ ·)) ∧ Hid (OwnRep 1 (flat intEnc) 3 w.heap.size wr (toZ done) ov) ∧ Below w.heap.size w wr) (fun _ i _ => ts.length - (intOf i).toNat)
  case atStart => exact ⟨0, [], _, Nat.zero_le _, rfl, rfl, rfl, H0, Lib.hid OwnRep.nil_, Below.refl _ _⟩
  case round =>
    clear H0
    obtain ⟨k, done, ov, hk, hdl, rfl, rfl, HS, HO, hbr⟩ := hrel
    obtain ⟨Ao, no, co, rfl, hno⟩ := own_form intS HO.out
    have hsz := hbr.size
    have hlta := HO.out.own_lt
    by_cases hlt : k < ts.length
    · obtain ⟨x, hx⟩ := get_at ts hlt
      obtain ⟨g, off, rfl, hg, z0⟩ := HT.out k x hx _ hbr
      have hgw : g < wr.heap.size := by have : g < B := hg; omega
      have hki : (k : Int) < (ts.length : Int) := by omega
      have hwk : IntKind.i64.wrap ((k : Int) + 1) = (k : Int) + 1 := IntWalk.i64_in _ (by omega)
      have HD := Lib.hid (HS.out.trans (by rw [show tl.drop k = x.data.toList :: tl.drop (k + 1) by rw [← HTL.out]; exact drop_at (by rw [List.getElem?_map, hx]; rfl), numsO_cons]))
      clear hx hno
      go_wp2_with fail
      refine (rnumber_c x _).mono ?_
      rintro e w1 ⟨rfl, rfl⟩
      cases hn : numO x.data.toList with
      | none =>
        have HX := Lib.hid (show numsO tl = none by rw [HD.out, hn]; rfl)
        rw [numV_none hn]
        clear hn HS HD
        go_wp2
        go_ret2
        exact .inl ⟨HX.out, rfl, hbr⟩
      | some n =>
        have HN := Lib.hid (show numsO tl = (numsO (tl.drop (k + 1))).map ((done ++ [n]) ++ ·) by
          rw [HD.out, hn]
          cases numsO (tl.drop (k + 1)) <;> simp)
        have hv : numV x = (n : Int) := by unfold numV; rw [hn]; rfl
        rw [hv]
        obtain ⟨m, hm⟩ : ∃ m : Int, (n : Int) = m := ⟨_, rfl⟩
        have hm0 : ¬ m < 0 := by omega
        have HM := Lib.hid (show toZ (done ++ [n]) = toZ done ++ [m] by unfold toZ; rw [List.map_append, ← hm]; rfl)
        have hmd : decide (m < 0) = false := by simpa using hm0
        rw [hm]
        clear hn HS HD hv hm
        go_wp2_with (at_builtin; refine stop_intro ?_)
        refine stop_elim ?_
        refine wpList_append_rep rfl intS intE_ w.heap.size (.tmp 20) (.tmp 22) rfl rfl (HO.out.alloc intS _) rfl (ys := [m]) (SlRep.one_new intS (F := fun _ => False) ?hgC (rfl : [Value.int .i64 m] = _) ?hF1C) ?FC ?nC (by decide) ?hbaseC ?_
        case hgC => rfl
        case hF1C => exact fun _ h => h.elim
        case FC =>
          intro bb hbb
          rcases hbb with hbb | hbb
          · exact hbb.elim
          · subst hbb
            exact ⟨by simp, fun he => by have := (hlta _ he).2; omega⟩
        case nC => simp [toZ]; omega
        case hbaseC => simp; omega
        intro v6 w6 hown6 hg6 hat6
        have hb6 := (hbr.alloc hsz _).grown hg6 (by simp; omega) (fun k hk => (hlta k hk).1)
        obtain ⟨A6, n6, c6, rfl, -⟩ := own_form intS hown6
        have HO6 := Lib.hid hown6
        clear hown6 hg6 hat6
        have HO7 := Lib.hid (show OwnRep 1 (flat intEnc) 3 w.heap.size w6 (toZ (done ++ [n])) (.slice A6 n6 c6) by rw [HM.out]; exact HO6.out)
        go_wp2
        go_roundw
        case rel => exact ⟨k + 1, done ++ [n], _, by omega, by simp; omega, by go_num, rfl, HN, HO7, hb6⟩
        case measure => simp [intOf]; omega
    · have hki : ¬ (k : Int) < (ts.length : Int) := by omega
      have HX := Lib.hid (show numsO tl = some done by rw [HS.out, List.drop_of_length_le (by rw [← HTL.out, List.length_map]; omega)]; simp [numsO])
      clear hno HS
      go_wp2
      go_ret2
      exact .inr ⟨done, _, HX.out, rfl, HO.out, hbr⟩

theorem bytes_any {w : World} {base : Nat} {l : List UInt8} {v : Value} (h : OwnRep 1 (flat bytEnc) 5 base w l v) : (convert 63 9 v).run Tryz.prog w = .ok (.string ⟨l.toArray⟩) w := by
  rcases Nat.eq_zero_or_pos l.length with h0 | h0
  · obtain rfl := List.eq_nil_of_length_eq_zero h0
    obtain ⟨A, c, rfl, -⟩ := h.toSl bytS
    rcases A with _ | ad
    · have := run_convert_bytes_nil (P := Tryz.prog) w 63 5 Tryz.underlying63 Tryz.underlying5 0 c 9 Tryz.underlying9
      exact this
    · exact run_convert_bytes_back w 63 9 5 ad c [] Tryz.underlying63 Tryz.underlying5 Tryz.underlying9 (fun j hj => absurd hj (Nat.not_lt_zero _))
  · have hl : l.length = l.length := rfl
    obtain ⟨css, h1, h2, hrow⟩ := id h
    rcases hrow.2 with ⟨_, h3⟩ | ⟨g, cap, cur, rfl, hbg, hg, hcap, hm, hs, ht⟩
    · omega
    · exact bytes_back (h.toSl bytS)
theorem hexdigI {n : Int} (h0 : 0 ≤ n) (h : n < 16) : (⟨#[48, 49, 50, 51, 52, 53, 54, 55, 56, 57, 97, 98, 99, 100, 101, 102]⟩ : ByteArray)[n.toNat]'(by show _ < 16; omega) = hexD n.toNat := hexdig (n := n.toNat) (by show _ < 16; omega)
theorem hexpair {l : List UInt8} {x y : UInt8} {n : Nat} (h1 : x = hexD ((n : Int) / 16).toNat) (h2 : y = hexD ((n : Int) % 16).toNat) (_ : 0 ≤ (n : Int) / 16) (_ : 0 ≤ (n : Int) % 16) : l ++ [hexD (n / 16)] ++ [hexD (n % 16)] = l ++ [x, y] := by
  have e1 : ((n : Int) / 16).toNat = n / 16 := by omega
  have e2 : ((n : Int) % 16).toNat = n % 16 := by omega
  rw [h1, h2, e1, e2]; simp
set_option maxRecDepth 100000 in
set_option maxHeartbeats 4000000 in
theorem rhex_c (s : ByteArray) (w : World) (hs : s.size ≤ 1000000) : Calls Tryz.prog 44 #[.string s] w fun e w' => e = .returned (.string ⟨(hexT s.data.toList).toArray⟩) ∧ Below w.heap.size w w' := by
  have HL := Lib.hid (show s.data.toList.length = s.size from Array.length_toList)
  go_enter Tryz.func44, Tryz.ntmps44
  go_wp2
  go_loopw [3, 4] (fun o i wr => ∃ (k : Nat) (ov : Value), k ≤ s.size ∧ i = .int .i64 k ∧ ov = o ∧ Hid (OwnRep 1 (flat bytEnc) 5 w.heap.size wr (hexT (s.data.toList.take k)) ov) ∧ Below w.heap.size w wr) (fun _ i _ => s.size - (intOf i).toNat)
  case atStart => exact ⟨0, _, Nat.zero_le _, rfl, rfl, Lib.hid OwnRep.nil_, Below.refl _ _⟩
  case round =>
    obtain ⟨k, ov, hk, rfl, rfl, HO, hbr⟩ := hrel
    obtain ⟨Ao, no, co, rfl, hno⟩ := own_form bytS HO.out
    by_cases hlt : k < s.size
    · have hki : (k : Int) < (s.size : Int) := by omega
      have hx := (s[k]'hlt).toNat_lt
      have hand : bits .and .u8 ((s[k]'hlt).toNat : Int) 15 = ((s[k]'hlt).toNat : Int) % 16 := u8_and15 _ (by omega) (by omega)
      have hd1 : (0 : Int) ≤ ((s[k]'hlt).toNat : Int) / 16 ∧ ((s[k]'hlt).toNat : Int) / 16 < 16 := by omega
      have hd2 : (0 : Int) ≤ ((s[k]'hlt).toNat : Int) % 16 ∧ ((s[k]'hlt).toNat : Int) % 16 < 16 := by omega
      have hwk : IntKind.i64.wrap ((k : Int) + 1) = (k : Int) + 1 := IntWalk.i64_in _ (by omega)
      have HT := Lib.hid (hexT_snoc (show s.data.toList[k]? = some (s[k]'hlt) by rw [List.getElem?_eq_getElem (by rw [HL.out]; exact hlt)]; rfl))
      have hlen : (hexT (s.data.toList.take k)).length ≤ 2000000 := by rw [hexT_len, List.length_take]; omega
      have hlt' : k < s.size := hlt
      have hlta := HO.out.own_lt
      have hsz := hbr.size
      obtain ⟨x, hxx⟩ : ∃ x, (⟨#[48, 49, 50, 51, 52, 53, 54, 55, 56, 57, 97, 98, 99, 100, 101, 102]⟩ : ByteArray)[(((s[k]'hlt).toNat : Int) / 16).toNat]'(by show _ < 16; omega) = x := ⟨_, rfl⟩
      obtain ⟨y, hyy⟩ : ∃ y, (⟨#[48, 49, 50, 51, 52, 53, 54, 55, 56, 57, 97, 98, 99, 100, 101, 102]⟩ : ByteArray)[(((s[k]'hlt).toNat : Int) % 16).toNat]'(by show _ < 16; omega) = y := ⟨_, rfl⟩
      have HXY := Lib.hid (And.intro (hxx.symm.trans (hexdigI (by omega) (by omega))) (hyy.symm.trans (hexdigI (by omega) (by omega))))
      obtain ⟨wX, hwX⟩ : ∃ W : World, (wr.alloc (.cells #[.int .u8 x.toNat, .int .u8 y.toNat] 5)).drew = W := ⟨_, rfl⟩
      have bX : Below wr.heap.size wr wX := by rw [← hwX]; exact ((Below.refl _ _).alloc (Nat.le_refl _) _).drew
      have kA := HO.out.below bytS bX
      have kS : SlRep 1 (flat bytEnc) ((wr.alloc (.cells #[.int .u8 x.toNat, .int .u8 y.toNat] 5)).drew) (fun b => b = wr.heap.size) [x, y] (.slice (some ⟨wr.heap.size, 0, none⟩) 2 2) := sl_at bytS (css := [bytEnc x, bytEnc y]) rfl (heap_newA wr _) (fun i z cs hz hcs => by
        rcases i with _ | _ | i
        · injection hz with hz; injection hcs with hcs; subst hz hcs; rfl
        · injection hz with hz; injection hcs with hcs; subst hz hcs; rfl
        · simp at hz) rfl rfl (by simp)
      have kF : ∀ b, b = wr.heap.size → b < wX.heap.size ∧ (Value.slice Ao no co).ownBlock ≠ some b := fun b hb => ⟨by rw [← hwX, hb]; show _ < (wr.heap.push _).size; simp, fun e => by have := (hlta _ e).2; omega⟩
      have kB : w.heap.size ≤ wX.heap.size := Nat.le_trans hsz bX.size
      have kN : (hexT (s.data.toList.take k)).length + ([x, y] : List UInt8).length ≤ 4294967296 := by simp only [List.length_cons, List.length_nil]; omega
      subst hwX
      go_wp2
      go_region_law? (refine step_append_rep rfl bytS bytE_ w.heap.size (.tmp 11) (.tmp 22) rfl rfl kA rfl (ys := [x, y]) kS kF kN (by decide) kB ?_; intro v6 w6 hown6 hg6 hat6)
      all_goals
        have hb6 := ((hbr.alloc hsz _).drew).grown hg6 kB (fun k hk => (hlta k hk).1)
        obtain ⟨A6, n6, c6, rfl, -⟩ := own_form bytS hown6
        have HO7 := Lib.hid (show OwnRep 1 (flat bytEnc) 5 w.heap.size w6 (hexT (s.data.toList.take (k + 1))) (.slice A6 n6 c6) by
          rw [HT.out, hexpair HXY.out.1 HXY.out.2 hd1.1 hd2.1]
          exact hown6)
        clear hown6 hg6 hat6
        go_wp2
        go_roundw
        case rel => exact ⟨k + 1, _, by omega, by go_num, rfl, HO7, hb6⟩
        case measure => simp [intOf]; omega
    · have hki : ¬ (k : Int) < (s.size : Int) := by omega
      have hO := HO.out
      rw [List.take_of_length_le (by rw [HL.out]; omega)] at hO
      have hcv := bytes_any hO
      clear HO hno
      go_wp2
      go_ret
      exact ⟨rfl, hbr⟩

attribute [local go_sem] Oper.semAt_some
/-- What Unhex answers. -/
def runhQ (l : List UInt8) (e : Ending) : Prop := ∃ (d : ByteArray) (b : Bool), e = .returned (.tuple #[.string d, .bool b]) ∧ ((b = true ∧ unhexO l = some d.data.toList) ∨ (b = false ∧ unhexO l = none))
theorem unhexO_none {l : List UInt8} (h : unhexG l = none) : unhexO l = none := by unfold unhexO; split <;> simp_all
theorem hexAdd (x y : Nat) : (16 * (x : Int) + (y : Int)) % 256 = ((UInt8.ofNat (16 * x + y)).toNat : Int) := by
  rw [UInt8.toNat_ofNat']
  omega
set_option maxRecDepth 100000 in
set_option maxHeartbeats 4000000 in
theorem runhex_c (s : ByteArray) (w : World) (hs : s.size ≤ 1000000) : Calls Tryz.prog 50 #[.string s] w fun e w' => runhQ s.data.toList e ∧ Below w.heap.size w w' := by
  have HL := Lib.hid (show s.data.toList.length = s.size from Array.length_toList)
  go_enter Tryz.func50, Tryz.ntmps50
  go_wp2
  go_loopw [4, 5] (fun o i wr => ∃ (n : Nat) (acc : List UInt8) (ov : Value), n ≤ s.size ∧ 2 * acc.length = n ∧ i = .int .i64 n ∧ ov = o ∧ Hid (unhexG s.data.toList = (unhexG (s.data.toList.drop n)).map (acc ++ ·)) ∧ Hid (OwnRep 1 (flat bytEnc) 5 w.heap.size wr acc ov) ∧ Below w.heap.size w wr) (fun _ i _ => s.size - (intOf i).toNat)
  case atStart => exact ⟨0, [], _, by omega, rfl, rfl, rfl, Lib.hid (by simp), Lib.hid OwnRep.nil_, Below.refl _ _⟩
  case round =>
    obtain ⟨n, acc, ov, hn, hacc, rfl, rfl, HS, HO, hbr⟩ := hrel
    obtain ⟨Ao, no, co, rfl, hno⟩ := own_form bytS HO.out
    have hsz := hbr.size
    have hw1 : IntKind.i64.wrap ((n : Int) + 1) = (n : Int) + 1 := IntWalk.i64_in _ (by omega)
    by_cases hlt : n + 1 < s.size
    · have hl1 : n < s.size := by omega
      have HD := Lib.hid (show s.data.toList.drop n = s[n]'hl1 :: s[n + 1]'hlt :: s.data.toList.drop (n + 2) from drop_two (by rw [HL.out]; exact hlt))
      have hni : (n : Int) < (s.size : Int) := by omega
      have hni2 : (n : Int) + 1 < (s.size : Int) := by omega
      have hn0 : (0 : Int) ≤ (n : Int) + 1 := by omega
      have htn : ((n : Int) + 1).toNat = n + 1 := by omega
      have hw2 : IntKind.i64.wrap ((n : Int) + 2) = (n : Int) + 2 := IntWalk.i64_in _ (by omega)
      have H1 := Lib.hid (fun W => rdigit_c (s[n]'hl1) W)
      have H2 := Lib.hid (fun W => rdigit_c (s[n + 1]'hlt) W)
      cases ha : hexV (s[n]'hl1) with
      | none =>
        have hva : digV (s[n]'hl1) = -1 := by unfold digV; rw [ha]; rfl
        have HE := Lib.hid (show unhexG s.data.toList = none by rw [HS.out, HD.out, unhexG_no (.inl ha)]; rfl)
        clear HS HD
        go_wp2
        go_quiet ((go_at_call 71; (first | (with_reducible refine (H1.out _).mono ?_) | (with_reducible refine (H2.out _).mono ?_)); rintro e w1 ⟨rfl, rfl⟩; exact ⟨rfl, _, rfl⟩))
        go_wp2
        go_ret2
        exact ⟨⟨_, false, rfl, .inr ⟨rfl, unhexO_none HE.out⟩⟩, below_drewN hbr _⟩
      | some x =>
        have hva : digV (s[n]'hl1) = (x : Int) := by unfold digV; rw [ha]; rfl
        have hx := (hexV_D _ x ha).2
        have hxn : ¬ (x : Int) < 0 := by omega
        have hxd : decide ((x : Int) < 0) = false := by simp
        cases hb2 : hexV (s[n + 1]'hlt) with
        | none =>
          have hvb : digV (s[n + 1]'hlt) = -1 := by unfold digV; rw [hb2]; rfl
          have HE := Lib.hid (show unhexG s.data.toList = none by rw [HS.out, HD.out, unhexG_no (.inr hb2)]; rfl)
          clear HS HD
          go_wp2
          go_quiet ((go_at_call 71; (first | (with_reducible refine (H1.out _).mono ?_) | (with_reducible refine (H2.out _).mono ?_)); rintro e w1 ⟨rfl, rfl⟩; exact ⟨rfl, _, rfl⟩))
          go_wp2
          go_ret2
          exact ⟨⟨_, false, rfl, .inr ⟨rfl, unhexO_none HE.out⟩⟩, below_drewN hbr _⟩
        | some y =>
          have hvb : digV (s[n + 1]'hlt) = (y : Int) := by unfold digV; rw [hb2]; rfl
          have hy := (hexV_D _ y hb2).2
          have hyn : ¬ (y : Int) < 0 := by omega
          have hyd : decide ((y : Int) < 0) = false := by simp
          have h16 : IntKind.i64.wrap (16 * (x : Int)) = 16 * (x : Int) := IntWalk.i64_in _ (by omega)
          have h17 : IntKind.i64.wrap (16 * (x : Int) + (y : Int)) = 16 * (x : Int) + (y : Int) := IntWalk.i64_in _ (by omega)
          obtain ⟨z, hz⟩ : ∃ z, UInt8.ofNat (16 * x + y) = z := ⟨_, rfl⟩
          have HE := Lib.hid (show unhexG s.data.toList = (unhexG (s.data.toList.drop (n + 2))).map ((acc ++ [z]) ++ ·) by
            rw [HS.out, HD.out, unhexG_yes ha hb2, Option.map_map, hz]
            congr 1
            funext l
            simp)
          have h18 : (16 * (x : Int) + (y : Int)) % 256 = (z.toNat : Int) := by rw [hexAdd, hz]
          have h19 : IntKind.u8.wrap (16 * (x : Int) + (y : Int)) = (z.toNat : Int) := h18
          clear hz
          have hnl : acc.length ≤ 1000000 := by omega
          have hlta := HO.out.own_lt
          clear HS HD
          go_wp2
          go_quiet ((go_at_call 71; (first | (with_reducible refine (H1.out _).mono ?_) | (with_reducible refine (H2.out _).mono ?_)); rintro e w1 ⟨rfl, rfl⟩; exact ⟨rfl, _, rfl⟩))
          have hbq : Below wr.heap.size wr (wr.drewN nq) := below_drewN (Below.refl _ _) nq
          have HQ := Lib.hid (HO.out.below bytS hbq)
          have hbr2 := below_drewN hbr nq
          have hsz2 : w.heap.size ≤ (wr.drewN nq).heap.size := hsz
          go_wp2_with (at_builtin; refine stop_intro ?_)
          refine stop_elim ?_
          refine wpList_append_rep rfl bytS bytE_ w.heap.size (.tmp 30) (.tmp 36) rfl rfl (HQ.out.alloc bytS _) rfl (ys := [z]) (SlRep.one_new bytS (F := fun _ => False) ?hgC (rfl : [Value.int .u8 z.toNat] = _) ?hF1C) ?FC ?nC (by decide) ?hbaseC ?_
          case hgC => rfl
          case hF1C => exact fun _ h => h.elim
          case FC =>
            intro bb hbb
            rcases hbb with hbb | hbb
            · exact hbb.elim
            · subst hbb
              exact ⟨by rw [World.size_alloc]; show wr.heap.size < wr.heap.size + 1; omega, fun he => by have := (hlta _ he).2; omega⟩
          case nC => simp; omega
          case hbaseC => rw [World.size_alloc]; omega
          intro v6 w6 hown6 hg6 hat6
          have hb6 := (hbr2.alloc hsz2 _).grown hg6 (by rw [World.size_alloc]; omega) (fun k hk => (hlta k hk).1)
          obtain ⟨A6, n6, c6, rfl, -⟩ := own_form bytS hown6
          have HO6 := Lib.hid hown6
          clear hown6 hg6 hat6 HQ HO hno
          go_wp2
          go_roundw
          case rel => exact ⟨n + 2, acc ++ [z], _, by omega, by simp; omega, by go_num, rfl, HE, HO6, hb6⟩
          case measure => simp [intOf]; omega
    · have hni2 : ¬ (n : Int) + 1 < (s.size : Int) := by omega
      have HE := Lib.hid (show unhexG s.data.toList = some acc by
        rw [HS.out]
        have hd : (s.data.toList.drop n).length < 2 := by rw [List.length_drop, HL.out]; omega
        rcases hl : s.data.toList.drop n with _ | ⟨c, _ | ⟨c2, r⟩⟩
        · simp [unhexG]
        · simp [unhexG]
        · rw [hl] at hd; simp only [List.length_cons] at hd; omega)
      have hcv := bytes_any HO.out
      clear HS HO hno
      by_cases h64 : s.size = 64
      · have h64i : (s.size : Int) = 64 := by omega
        go_wp2
        go_ret2
        exact ⟨⟨_, true, rfl, .inl ⟨rfl, by unfold unhexO; rw [if_neg (by rw [HL.out]; simp [h64]), HE.out]⟩⟩, hbr⟩
      · have h64i : ((s.size : Int) == 64) = false := by rw [beq_eq_false_iff_ne]; omega
        go_wp2
        go_ret2
        exact ⟨⟨_, false, rfl, .inr ⟨rfl, by unfold unhexO; rw [if_pos (by rw [HL.out]; exact h64)]⟩⟩, hbr⟩
end Go.Proofs.YtenaifmkejmdaaaGreatDoor
