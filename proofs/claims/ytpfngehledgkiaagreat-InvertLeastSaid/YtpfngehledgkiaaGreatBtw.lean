/- The program: Find and Prefix, over sort.Search. -/
import Derived.Test.YtpfngehledgkiaaGreatIvK
import Derived.Deep.LoopGhost
import Derived.Shelf.Abstract
namespace Go.Proofs.YtpfngehledgkiaaGreat
open Go.RowKit

set_option maxRecDepth 100000 in
set_option maxHeartbeats 4000000 in
theorem search_c (g : FuncId) (c0 c1 : Value) (n m : Nat) (p : Nat → Bool) (w : World) (eg : ∀ (args : Array Value) (W : World), (callFunc g args).run Tryz.prog W = .ok (.enter g args) W) (hn : n ≤ 1000000) (hm : m ≤ n) (h1 : ∀ i, i < m → p i = false) (h2 : ∀ i, m ≤ i → i < n → p i = true)
    (hf : ∀ (W : World) (i : Nat), Below w.heap.size w W → i < n → Calls Tryz.prog g #[.int .i64 i, c0, c1] W fun e w' => e = .returned (.bool (p i)) ∧ Below W.heap.size W w') :
    Calls Tryz.prog 112 #[.int .i64 n, .func (.func g) #[] #[c0, c1]] w fun e w' => e = .returned (.int .i64 m) ∧ Below w.heap.size w w' := by
  have HF := Lib.hid hf
  have HI := Lib.hid (And.intro h1 h2)
  clear hf h1 h2
  go_enter Tryz.func112, Tryz.ntmps112
  go_wp2
  go_loopw [5, 6] (fun s5 s6 wr => ∃ (lo hi : Nat), s5 = .int .i64 lo ∧ s6 = .int .i64 hi ∧ lo ≤ m ∧ m ≤ hi ∧ hi ≤ n ∧ Below w.heap.size w wr) (fun s5 s6 _ => (intOf s6).toNat - (intOf s5).toNat)
  case atStart => exact ⟨0, n, rfl, rfl, Nat.zero_le _, hm, Nat.le_refl _, Below.refl _ _⟩
  case round =>
    obtain ⟨lo, hi, rfl, rfl, hlm, hmh, hin, hb⟩ := hrel
    by_cases hlt : lo < hi
    · have hc := HF.out wr ((lo + hi) / 2) hb (by omega)
      rw [show (((lo + hi) / 2 : Nat) : Int) = ((lo : Int) + (hi : Int)) / 2 by omega] at hc
      by_cases hq : (lo + hi) / 2 < m
      · rw [HI.out.1 _ hq] at hc
        go_wp2_with fail
        refine hc.mono ?_
        rintro e w1 ⟨rfl, hb1⟩
        go_wp2
        go_roundw
        case rel => exact ⟨(lo + hi) / 2 + 1, hi, by rw [show ((lo : Int) + (hi : Int)) / 2 + 1 = (((lo + hi) / 2 + 1 : Nat) : Int) by omega], rfl, by omega, hmh, hin, hb.trans (hb1.mono hb.size)⟩
        case measure => simp [intOf]; omega
      · rw [HI.out.2 _ (by omega) (by omega)] at hc
        go_wp2_with fail
        refine hc.mono ?_
        rintro e w1 ⟨rfl, hb1⟩
        go_wp2
        go_roundw
        case rel => exact ⟨lo, (lo + hi) / 2, rfl, by rw [show ((lo : Int) + (hi : Int)) / 2 = (((lo + hi) / 2 : Nat) : Int) by omega], hlm, by omega, by omega, hb.trans (hb1.mono hb.size)⟩
        case measure => simp [intOf]; omega
    · obtain rfl : lo = m := by omega
      go_wp2
      go_ret
      exact ⟨rfl, hb⟩
set_option maxRecDepth 100000 in
set_option maxHeartbeats 4000000 in
theorem between1_c (g : FuncId) (c0 : Value) (less : ByteArray → Bool) (l : List Post) (v : Value) (i : Nat) (a b : Nat) (w : World) (B : Nat) (hB : B ≤ w.heap.size) (h : Posts w B l v) (hi : i < l.length) (eg : ∀ (args : Array Value) (W : World), (callFunc g args).run Tryz.prog W = .ok (.enter g args) W)
    (ha : w.cell? ⟨a, 0, none⟩ = some (.func (.func g) #[] #[c0])) (hb : w.cell? ⟨b, 0, none⟩ = some v)
    (hg : ∀ (W : World) (x : ByteArray), Below w.heap.size w W → Calls Tryz.prog g #[.string x, c0] W fun e w' => e = .returned (.bool (less x)) ∧ W = w') :
    Calls Tryz.prog 113 #[.int .i64 i, .pointer (some ⟨a, 0, none⟩), .pointer (some ⟨b, 0, none⟩)] w fun e w' => e = .returned (.bool (!less ((l[i]?.map Post.word).getD ⟨#[]⟩))) ∧ Below w.heap.size w w' := by
  obtain ⟨A, c, rfl, hc1, hc2, _⟩ := id h
  obtain ⟨x, hx⟩ := get_at l hi
  obtain ⟨bb, off, rfl, hbB, g0, -⟩ := Posts.at_ h hx
  have hbw : bb < w.heap.size := by have : bb < B := hbB; omega
  have hal := World.block_lt_of_cell? w ⟨a, 0, none⟩ ha
  have hbl := World.block_lt_of_cell? w ⟨b, 0, none⟩ hb
  have HG := Lib.hid (fun (W : World) (hW : Below w.heap.size w W) => hg W x.word hW)
  have HE := Lib.hid (show (l[i]?.map Post.word).getD ⟨#[]⟩ = x.word by rw [hx]; rfl)
  rw [HE.out]
  have hki : (i : Int) < (l.length : Int) := by omega
  clear hg HE hx
  go_enter Tryz.func113, Tryz.ntmps113
  go_wp2
  go_quiet ((go_at_fn g; refine (HG.out _ (below_drewN (Below.refl _ _) _)).mono ?_; rintro e w1 ⟨rfl, rfl⟩; exact ⟨rfl, _, rfl⟩))
  go_wp2
  go_ret
  exact ⟨rfl, below_drewN (Below.refl _ _) _⟩
theorem take_at_less {f : Post → Bool} {l : List Post} {i : Nat} {x : Post} (hx : l[i]? = some x) (hi : i < (l.takeWhile f).length) : f x = true := by
  have h := List.takeWhile_append_dropWhile (p := f) (l := l)
  have : (l.takeWhile f)[i]? = some x := by
    rw [← h, List.getElem?_append_left hi] at hx
    exact hx
  exact takeWhile_all x (List.mem_of_getElem? this)
theorem drop_at_less {f : Post → Bool} {l : List Post} {i : Nat} {x : Post} (hx : l[i]? = some x) (hi : (l.takeWhile f).length ≤ i) : x ∈ l.dropWhile f := by
  have h := List.takeWhile_append_dropWhile (p := f) (l := l)
  rw [← h, List.getElem?_append_right hi] at hx
  exact List.mem_of_getElem? hx
theorem drop_is_less (f : Post → Bool) : ∀ (l : List Post), l.drop (l.takeWhile f).length = l.dropWhile f
  | [] => rfl
  | x :: r => by
    rw [List.takeWhile_cons, List.dropWhile_cons]
    split
    · rw [List.length_cons, List.drop_succ_cons]
      exact drop_is_less f r
    · rfl
def betF (less other : ByteArray → Bool) (l : List Post) : Int × Nat := if chkL l ≠ 0 then (0, 0) else prgF less other l
set_option maxRecDepth 100000 in
set_option maxHeartbeats 4000000 in
theorem between_c (g1 g2 : FuncId) (c0 : Value) (less other : ByteArray → Bool) (l : List Post) (v : Value) (w : World) (B : Nat) (hB : B ≤ w.heap.size) (h : Posts w B l v) (hw : ∀ p ∈ l, p.word.size ≤ 1000000)
    (eg1 : ∀ (args : Array Value) (W : World), (callFunc g1 args).run Tryz.prog W = .ok (.enter g1 args) W) (eg2 : ∀ (args : Array Value) (W : World), (callFunc g2 args).run Tryz.prog W = .ok (.enter g2 args) W)
    (hg1 : ∀ (W : World) (x : ByteArray), Below w.heap.size w W → Calls Tryz.prog g1 #[.string x, c0] W fun e w' => e = .returned (.bool (less x)) ∧ W = w')
    (hg2 : ∀ (W : World) (x : ByteArray), Below w.heap.size w W → Calls Tryz.prog g2 #[.string x, c0] W fun e w' => e = .returned (.bool (other x)) ∧ W = w')
    (hmono : ∀ x y : Post, ple x y → less x.word = false → less y.word = false) :
    Calls Tryz.prog 76 #[v, .func (.func g1) #[] #[c0], .func (.func g2) #[] #[c0]] w fun e w' => e = .returned (.tuple #[.int .i64 (betF less other l).1, .int .i64 ((betF less other l).2 : Nat)]) ∧ Below w.heap.size w w' := by
  obtain ⟨A, c, rfl, hc1, hc2, _⟩ := id h
  have b1 : Below w.heap.size w ((w.alloc (.cells #[.slice A l.length c] 29)).alloc (.cells #[.func (.func g1) #[] #[c0]] 70)) := ((Below.refl _ _).alloc (Nat.le_refl _) _).alloc (by simp) _
  have HCK := Lib.hid (fun (W : World) (hW : Below w.heap.size w W) => icheck_c l (.slice A l.length c) W B (Nat.le_trans hB hW.size) (h.below pstS (hW.mono hB)) hw)
  have KC := Lib.hid (fun (W : World) (hW : Below (w.heap.size + 2) ((w.alloc (.cells #[.slice A l.length c] 29)).alloc (.cells #[.func (.func g1) #[] #[c0]] 70)) W) => (⟨(hW.cell (p := ⟨w.heap.size, 0, none⟩) (by simp)).trans (by simp), (hW.cell (p := ⟨w.heap.size + 1, 0, none⟩) (by simp)).trans (by simp)⟩ : W.cell? ⟨w.heap.size, 0, none⟩ = some (.slice A l.length c) ∧ W.cell? ⟨w.heap.size + 1, 0, none⟩ = some (.func (.func g1) #[] #[c0])))
  have hb0 : Below (w.heap.size + 2) ((w.alloc (.cells #[.slice A l.length c] 29)).alloc (.cells #[.func (.func g1) #[] #[c0]] 70)) ((w.alloc (.cells #[.slice A l.length c] 29)).alloc (.cells #[.func (.func g1) #[] #[c0]] 70)) := Below.refl _ _
  by_cases hck : chkL l = 0
  · have hsrt := strict_sorted (chkL_zero hck).2.2
    have hlen := (chkL_zero hck).1
    have HBE := Lib.hid (show betF less other l = prgF less other l by unfold betF; rw [if_neg (by simpa using hck)])
    rw [hck] at HCK
    have hml : (l.takeWhile fun x => less x.word).length ≤ l.length := (List.takeWhile_sublist _).length_le
    have HSE := Lib.hid (fun (W : World) (hW : Below (w.heap.size + 2) ((w.alloc (.cells #[.slice A l.length c] 29)).alloc (.cells #[.func (.func g1) #[] #[c0]] 70)) W) => search_c 113 (.pointer (some ⟨w.heap.size + 1, 0, none⟩)) (.pointer (some ⟨w.heap.size, 0, none⟩)) l.length (l.takeWhile fun x => less x.word).length (fun i => !less ((l[i]?.map Post.word).getD ⟨#[]⟩)) W (fun args W => by kernel_rfl) (by omega) hml
      (fun i hi => by
        obtain ⟨x, hx⟩ := get_at l (show i < l.length by omega)
        have := take_at_less (f := fun x => less x.word) hx hi
        simp only [hx, Option.map_some, Option.getD_some]
        simpa using this)
      (fun i hi hin => by
        obtain ⟨x, hx⟩ := get_at l hin
        have := dropWhile_all (p := fun x : Post => less x.word) (R := ple) hmono hsrt x (drop_at_less hx hi)
        simp only [hx, Option.map_some, Option.getD_some]
        simpa using this)
      (fun W' i hW' hin => by
        have hbW := b1.trans ((hW.trans (hW'.mono (by have := hW.size; simp at this; omega))).mono (by omega))
        have hk := KC.out _ (hW.trans (hW'.mono (by have := hW.size; simp at this; omega)))
        exact between1_c g1 c0 less l (.slice A l.length c) i (w.heap.size + 1) w.heap.size W' B (Nat.le_trans hB hbW.size) (h.below pstS (hbW.mono hB)) hin eg1 hk.2 hk.1 (fun W2 x h2 => hg1 W2 x (hbW.trans (h2.mono hbW.size)))))
    have HG2 := Lib.hid hg2
    have HDR := Lib.hid (drop_is_less (fun x => less x.word) l)
    have HPR := Lib.hid (show prgF less other l = if ((l.drop (l.takeWhile fun x => less x.word).length).takeWhile fun x => !other x.word).length = 0 then (0, 0) else (((l.takeWhile fun x => less x.word).length : Int), ((l.drop (l.takeWhile fun x => less x.word).length).takeWhile fun x => !other x.word).length) by unfold prgF; rw [HDR.out])
    generalize (l.takeWhile fun x => less x.word).length = m at *
    have HXS := Lib.hid (fun (i : Nat) (x : Post) (hx : l[i]? = some x) (W : World) (hW : Below w.heap.size w W) => Posts.at_ (h.below pstS (hW.mono hB)) hx)
    clear hck hsrt HDR hg1 hg2 hmono h
    go_enter Tryz.func76, Tryz.ntmps76
    go_wp2_with fail
    refine (HCK.out _ b1).mono ?_
    rintro e w1 ⟨rfl, hb1⟩
    have hbX := bnd_call hb0 (by simp) hb1
    obtain ⟨z0, z1⟩ := KC.out _ hbX
    have zl := World.block_lt_of_cell? w1 ⟨w.heap.size, 0, none⟩ z0
    go_wp2_with fail
    refine (HSE.out _ hbX).mono ?_
    rintro e w2 ⟨rfl, hb2⟩
    have hbX := bnd_call hbX (by simp) hb2
    clear z0 z1 zl hb1 hb2 HSE HCK
    have HC0 := Lib.hid (show ((l.drop m).takeWhile fun x => !other x.word).length = 0 + ((l.drop (m + 0)).takeWhile fun x => !other x.word).length by simp)
    go_wp2
    go_loopw [9] (fun s wr => ∃ k : Nat, s = .int .i64 k ∧ m + k ≤ l.length ∧ Hid (((l.drop m).takeWhile fun x => !other x.word).length = k + ((l.drop (m + k)).takeWhile fun x => !other x.word).length) ∧ Below (w.heap.size + 2) ((w.alloc (.cells #[.slice A l.length c] 29)).alloc (.cells #[.func (.func g1) #[] #[c0]] 70)) wr) (fun s _ => l.length - (intOf s).toNat)
    case atStart => exact ⟨0, rfl, by omega, HC0, hbX⟩
    case round =>
      clear HC0 hbX
      obtain ⟨k, rfl, hk, hh, hbX⟩ := hrel
      obtain ⟨z0, z1⟩ := KC.out _ hbX
      have zl := World.block_lt_of_cell? wr ⟨w.heap.size, 0, none⟩ z0
      have Br := b1.trans (hbX.mono (by omega))
      have hw1 : IntKind.i64.wrap ((m : Int) + (k : Int)) = (m : Int) + (k : Int) := IntWalk.i64_in _ (by omega)
      by_cases hlt : m + k < l.length
      · obtain ⟨x, hx⟩ := get_at l hlt
        obtain ⟨b, off, rfl, hbB, g0, -⟩ := HXS.out _ _ hx _ Br
        have hbw : b < wr.heap.size := by have : b < B := hbB; have := Br.size; omega
        have hd := drop_at hx
        have HG := Lib.hid (HG2.out wr x.word Br)
        have hki : (m : Int) + (k : Int) < (l.length : Int) := by omega
        cases ho : other x.word
        · have HN := Lib.hid (show ((l.drop m).takeWhile fun x => !other x.word).length = (k + 1) + ((l.drop (m + (k + 1))).takeWhile fun x => !other x.word).length by
            rw [hh.out, hd, List.takeWhile_cons, if_pos (by simp [ho]), List.length_cons]
            rw [show m + (k + 1) = m + k + 1 by omega]
            omega)
          rw [ho] at HG
          clear hd hh hx ho
          go_wp2_with fail
          refine HG.out.mono ?_
          rintro e w3 ⟨rfl, rfl⟩
          go_wp2
          go_roundw
          case rel => exact ⟨k + 1, by go_num, by omega, HN, hbX⟩
          case measure => simp [intOf]; omega
        · have HN := Lib.hid (show ((l.drop m).takeWhile fun x => !other x.word).length = k by
            rw [hh.out, hd, List.takeWhile_cons, if_neg (by simp [ho])]
            rfl)
          rw [ho] at HG
          clear hd hh hx ho
          by_cases hz : k = 0
          · have HV := Lib.hid (show betF less other l = (0, 0) by rw [HBE.out, HPR.out, if_pos (by rw [HN.out]; exact hz)])
            have hz1 : ((k : Int) == 0) = true := by simp [hz]
            clear hz
            go_wp2_with fail
            refine HG.out.mono ?_
            rintro e w3 ⟨rfl, rfl⟩
            go_wp2
            go_ret2
            exact ⟨by rw [HV.out]; rfl, Br⟩
          · have HV := Lib.hid (show betF less other l = ((m : Int), k) by rw [HBE.out, HPR.out, if_neg (by rw [HN.out]; exact hz), HN.out])
            have hz1 : ((k : Int) == 0) = false := by simp; omega
            clear hz
            go_wp2_with fail
            refine HG.out.mono ?_
            rintro e w3 ⟨rfl, rfl⟩
            go_wp2
            go_ret2
            exact ⟨by rw [HV.out]; rfl, Br⟩
      · have HN := Lib.hid (show ((l.drop m).takeWhile fun x => !other x.word).length = k by
            rw [hh.out, List.drop_of_length_le (by omega)]
            rfl)
        have hki : ¬ (m : Int) + (k : Int) < (l.length : Int) := by omega
        clear hh
        by_cases hz : k = 0
        · have HV := Lib.hid (show betF less other l = (0, 0) by rw [HBE.out, HPR.out, if_pos (by rw [HN.out]; exact hz)])
          have hz1 : ((k : Int) == 0) = true := by simp [hz]
          clear hz
          go_wp2
          go_ret2
          exact ⟨by rw [HV.out]; rfl, Br⟩
        · have HV := Lib.hid (show betF less other l = ((m : Int), k) by rw [HBE.out, HPR.out, if_neg (by rw [HN.out]; exact hz), HN.out])
          have hz1 : ((k : Int) == 0) = false := by simp; omega
          clear hz
          go_wp2
          go_ret2
          exact ⟨by rw [HV.out]; rfl, Br⟩
  · have HBE := Lib.hid (show betF less other l = (0, 0) by unfold betF; rw [if_pos hck])
    have hn : (chkL l != 0) = true := by simpa using hck
    clear hck
    go_enter Tryz.func76, Tryz.ntmps76
    go_wp2_with fail
    refine (HCK.out _ b1).mono ?_
    rintro e w1 ⟨rfl, hb1⟩
    go_wp2
    go_ret2
    exact ⟨by rw [HBE.out]; rfl, b1.trans (hb1.mono (by simp; omega))⟩
end Go.Proofs.YtpfngehledgkiaaGreat
