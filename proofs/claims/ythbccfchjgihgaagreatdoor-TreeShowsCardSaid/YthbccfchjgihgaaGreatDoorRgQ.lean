/- The reference: Decimal, Word, Print. -/
import Derived.Test.YthbccfchjgihgaaGreatDoorRfJ
import Derived.Test.YthbccfchjgihgaaGreatDoorLbR
import Derived.Test.YthbccfchjgihgaaGreatDoorLwP
import Derived.Laws.IdiomStrings
import Derived.Deep.RegionLaw
namespace Go.Proofs.YthbccfchjgihgaaGreatDoor
open Go.RowKit

theorem digits_len : ∀ (k n : Nat), n < 10 ^ (k + 1) → (Lib.decDigits n).length ≤ k + 1
  | 0, n, h => by
    rw [Lib.decDigits, dif_pos (by omega)]
    simp
  | k + 1, n, h => by
    rw [Lib.decDigits]
    split
    · simp
    · have := digits_len k (n / 10) (by rw [Nat.pow_succ] at h; omega)
      simp only [List.length_append, List.length_singleton]
      omega
def bytEnc (x : UInt8) : List Value := [.int .u8 x.toNat]
theorem bytS : Shape 1 (flat bytEnc) := flat_shape 1 _ (fun _ => rfl) (fun x u hu => by simp [bytEnc] at hu; subst hu; rfl)
theorem bytE_ : Elem Tryz.prog 92 5 1 1 := by
  obtain ⟨i, h1, h2, h3, h4⟩ := info_parts (P := Tryz.prog) (e := 5) (z := .int .u8 0) (size := 1) (bytes := 1) (by kernel_rfl)
  exact ⟨Tryz.underlying92, ⟨i, _, h1, h2, h3, h4, rfl⟩, by decide⟩
theorem bytes_back {w : World} {F : Nat → Prop} {l : List UInt8} {g cap : Nat} (h : SlRep 1 (flat bytEnc) w F l (.slice (some ⟨g, 0, none⟩) l.length cap)) : (convert 92 9 (.slice (some ⟨g, 0, none⟩) l.length cap)).run Tryz.prog w = .ok (.string ⟨l.toArray⟩) w := by
  refine run_convert_bytes_back w 92 9 5 ⟨g, 0, none⟩ cap l Tryz.underlying92 Tryz.underlying5 Tryz.underlying9 (fun j hj => ?_)
  obtain ⟨A', c', e, h1, h2, h3⟩ := h
  obtain ⟨b, off, cs, hA, hlt, hr, hc⟩ := h3 j l[j] (List.getElem?_eq_getElem hj)
  injection e with e1 e2 e3
  rw [← e1] at hA
  injection hA with hA
  injection hA with hA1 hA2
  subst hA1 hA2
  have hr' : cs = bytEnc l[j] := hr
  subst hr'
  have := hc 0 _ rfl
  rw [show (⟨g, 0, none⟩ : Addr).add j = ⟨g, 0 + j * 1 + 0, none⟩ by unfold Addr.add; split <;> simp_all]
  exact this
theorem dec_small {n : Nat} (h : n < 10) : Lib.decDigits n = [UInt8.ofNat (48 + n)] := by rw [Lib.decDigits, dif_pos h]
theorem dec_big {n : Nat} (h : ¬ n < 10) : Lib.decDigits n = Lib.decDigits (n / 10) ++ Lib.decDigits (n % 10) := by
  rw [Lib.decDigits, dif_neg h, dec_small (Nat.mod_lt _ (by decide))]
set_option maxRecDepth 100000 in
set_option maxHeartbeats 2000000 in
theorem rdecimal_c : ∀ (N n : Nat), n < N → n ≤ 1073741824 → ∀ w : World, Calls Tryz.prog 79 #[.int .i64 n] w fun e w' => e = .returned (.string ⟨(Lib.decDigits n).toArray⟩) ∧ Below w.heap.size w w'
  | 0, n, h, _ => absurd h (Nat.not_lt_zero _)
  | N + 1, n, hn, hm => fun w => by
    by_cases h10 : n < 10
    · have hi : (n : Int) < 10 := by omega
      have HD := Lib.hid (dec_small h10)
      have hu : IntKind.u8.wrap (48 + (n : Int)) = ((UInt8.ofNat (48 + n)).toNat : Int) := by
        rw [UInt8.toNat_ofNat']
        show (48 + (n : Int)) % 256 = _
        omega
      have hw : IntKind.i64.wrap (48 + (n : Int)) = 48 + (n : Int) := IntWalk.i64_in _ (by omega)
      obtain ⟨b, hb⟩ : ∃ b, UInt8.ofNat (48 + n) = b := ⟨_, rfl⟩
      rw [hb] at HD hu
      have hsl : SlRep 1 (flat bytEnc) (w.alloc (.cells #[.int .u8 b.toNat] 5)) (fun b => False ∨ b = w.heap.size) [b] (.slice (some ⟨w.heap.size, 0, none⟩) 1 1) := SlRep.one_new bytS (F := fun _ => False) rfl (rfl : [Value.int .u8 b.toNat] = _) (fun _ h => h.elim)
      have hcv : (convert 92 9 (.slice (some ⟨w.heap.size, 0, none⟩) 1 1)).run Tryz.prog (w.alloc (.cells #[.int .u8 b.toNat] 5)) = .ok (.string ⟨[b].toArray⟩) (w.alloc (.cells #[.int .u8 b.toNat] 5)) := bytes_back hsl
      have HB := Lib.hid ((Below.refl _ _).alloc (Nat.le_refl _) _ : Below w.heap.size w (w.alloc (.cells #[.int .u8 b.toNat] 5)))
      clear hsl hb h10
      go_enter Tryz.func79, Tryz.ntmps79
      go_wp2
      go_ret
      exact ⟨by rw [HD.out]; rfl, HB.out⟩
    · have hi : ¬ (n : Int) < 10 := by omega
      have HD := Lib.hid (dec_big h10)
      have H1 := Lib.hid (rdecimal_c N (n / 10) (by omega) (by omega))
      have H2 := Lib.hid (rdecimal_c N (n % 10) (by omega) (by omega))
      have hq : IntKind.i64.wrap (Int.tdiv (n : Int) 10) = ((n / 10 : Nat) : Int) := by
        rw [Int.tdiv_eq_ediv_of_nonneg (by omega)]
        rw [IntWalk.i64_in _ (by omega)]
        omega
      have hr : IntKind.i64.wrap (Int.tmod (n : Int) 10) = ((n % 10 : Nat) : Int) := by
        rw [Int.tmod_eq_emod_of_nonneg (by omega)]
        rw [IntWalk.i64_in _ (by omega)]
        omega
      have HC := Lib.hid (show ∀ x y : ByteArray, x = ⟨(Lib.decDigits (n / 10)).toArray⟩ → y = ⟨(Lib.decDigits (n % 10)).toArray⟩ → x ++ y = ⟨(Lib.decDigits n).toArray⟩ by
        rintro x y rfl rfl
        rw [HD.out]
        apply ByteArray.ext
        simp)
      have HS := Lib.hid (show ∀ m : Nat, m ≤ 1073741824 → (Lib.decDigits m).length ≤ 10 from fun m hm => digits_len 9 m (by omega))
      obtain ⟨x, hx⟩ : ∃ x : ByteArray, x = ⟨(Lib.decDigits (n / 10)).toArray⟩ := ⟨_, rfl⟩
      obtain ⟨y, hy⟩ : ∃ y : ByteArray, y = ⟨(Lib.decDigits (n % 10)).toArray⟩ := ⟨_, rfl⟩
      have hxs : x.size ≤ 10 := by rw [hx]; exact HS.out _ (by omega)
      have hys : y.size ≤ 10 := by rw [hy]; exact HS.out _ (by omega)
      have HXY := Lib.hid (HC.out x y hx hy)
      rw [← hx] at H1
      rw [← hy] at H2
      have hlim : ¬ 9223372036854775807 < x.size + y.size := by omega
      clear HC HS HD hx hy h10
      go_enter Tryz.func79, Tryz.ntmps79
      go_wp2_with fail
      refine (H1.out _).mono ?_
      rintro e w1 ⟨rfl, hb1⟩
      go_wp2_with fail
      refine (H2.out _).mono ?_
      rintro e w2 ⟨rfl, hb2⟩
      go_wp2
      go_ret
      exact ⟨by show Ending.returned (.string (x ++ y)) = _; rw [HXY.out], hb1.trans (hb2.mono hb1.size)⟩
set_option maxRecDepth 100000 in
theorem rword_c (lv : Nat) (h1 : 1 ≤ lv) (h4 : lv ≤ 4) (w : World) : Calls Tryz.prog 80 #[.int .i64 lv] w fun e w' => e = .returned (.string (wordS lv)) ∧ Below w.heap.size w w' := by
  have HB := Lib.hid (show Below w.heap.size w (w.alloc (.cells #[.string ⟨#[]⟩, .string ⟨#[102, 111, 110, 100, 115]⟩, .string ⟨#[115, 101, 114, 105, 101, 115]⟩, .string ⟨#[102, 105, 108, 101]⟩, .string ⟨#[105, 116, 101, 109]⟩] 9)) from (Below.refl _ _).alloc (Nat.le_refl _) _)
  rcases (by omega : lv = 1 ∨ lv = 2 ∨ lv = 3 ∨ lv = 4) with rfl | rfl | rfl | rfl
  all_goals
    go_enter Tryz.func80, Tryz.ntmps80
    go_wp2
    go_ret
    exact ⟨rfl, HB.out⟩
theorem bnd_mono {n : Nat} {w0 w2 W : World} (h : Below n w0 w2) (hn : n ≤ w0.heap.size) (hW : Below w2.heap.size w2 W) : Below n w0 W := h.trans (hW.mono (Nat.le_trans hn h.size))
/-- what is written so far -/
def outP (t : Tre) (l : List Int) : List UInt8 := l.flatMap fun x => outL (unitO t.brs x) ((pthF t.brs x).length - 1)
theorem outP_snoc (t : Tre) {l : List Int} {k : Nat} {v : Int} (h : l[k]? = some v) : outP t (l.take (k + 1)) = outP t (l.take k) ++ outL (unitO t.brs v) ((pthF t.brs v).length - 1) := by
  unfold outP
  rw [take_at h, List.flatMap_append]; simp
theorem outP_len {t : Tre} (T : RightT t) : ∀ l : List Int, (∀ x ∈ l, ∃ b ∈ t.brs, b.id = x) → (outP t l).length ≤ 300 * l.length
  | [], _ => by simp [outP]
  | x :: l, h => by
    have h1 := outP_len T l (fun y hy => h y (List.mem_cons_of_mem _ hy))
    obtain ⟨b, hb, rfl⟩ := h x (by simp)
    have hd := T.dep_pos hb
    have hl : (pthF t.brs b.id).length = depN t.brs b.id := by unfold pthF depN; rw [List.length_reverse]
    have h2 := T.ln_le (⟨(b.id, depN t.brs b.id - 1), b, hb, rfl, by show depN t.brs b.id - 1 + 1 + 0 = depN t.brs b.id; omega⟩ : PX t 0)
    unfold lnX at h2
    simp only at h2
    unfold outP at *
    rw [List.flatMap_cons, List.length_append, List.length_cons, hl]
    omega
theorem rprint_is {t : Tre} (h : rightT t = true) : printT t = outP t (belT t 0) := by
  rw [← print_ref]
  unfold rprintT outP
  rw [if_pos h]
theorem line_parts {s0 dec wd ti : ByteArray} {P a b : List UInt8} {m : Nat} (h1 : s0.data.toList = P ++ List.replicate m 32) (h2 : dec.data.toList = a) (h3 : wd.data.toList = b) : (s0 ++ (dec ++ ⟨#[32]⟩ ++ wd ++ ⟨#[32]⟩ ++ ti) : ByteArray).data.toList = P ++ (List.replicate m 32 ++ (a ++ [32] ++ b ++ [32] ++ ti.data.toList)) := by
  simp [h1, h2, h3]
theorem dec_itoa (n : Nat) : Lib.itoa (n : Int) = Lib.decDigits n := by
  unfold Lib.itoa
  rw [if_neg (by omega), Int.toNat_natCast]
set_option maxRecDepth 100000 in
set_option maxHeartbeats 16000000 in
theorem rprint_c (t : Tre) (hz : SizT t) (hmk : ∀ b ∈ t.brs, b.mark.size ≤ 100000) (vr vb : Value) (w : World) (B : Nat) (hB : B ≤ w.heap.size) (h : TreRep w B t vr vb) :
    Calls Tryz.prog 36 #[treV vr vb] w fun e w' => e = .returned (.tuple #[.string ⟨(printT t).toArray⟩, .int .i64 (printE t)]) ∧ Below w.heap.size w w' := by
  have b1 := tre_new w vr vb
  have hs1 : w.heap.size + 1 ≤ (w.alloc (treC vr vb)).heap.size := by simp
  have KC := Lib.hid (fun (W : World) (hW : Below (w.heap.size + 1) (w.alloc (treC vr vb)) W) => treW_at hW)
  have HUP := Lib.hid (fun (W : World) (hW : Below (w.heap.size + 1) (w.alloc (treC vr vb)) W) => b1.trans (hW.mono (Nat.le_succ _)))
  have HR := Lib.hid (fun (W : World) (hW : Below w.heap.size w W) => (⟨Nat.le_trans hB hW.size, h.below (hW.mono hB)⟩ : B ≤ W.heap.size ∧ TreRep W B t vr vb))
  have HRT := Lib.hid (rright_c t hz hmk vr vb (w.alloc (treC vr vb)) B (Nat.le_trans hB b1.size) (h.below (b1.mono hB)))
  have HFI := Lib.hid (fun (u : Int) (W : World) (hW : Below w.heap.size w W) => rfind_c t u vr vb W B (HR.out W hW).1 (HR.out W hW).2)
  have HPA := Lib.hid (fun (u : Int) (W : World) (hW : Below w.heap.size w W) => rpath_c t hz.brs u vr vb W B (HR.out W hW).1 (HR.out W hW).2)
  obtain ⟨Ar, cr, rfl, -⟩ := id h.tops
  obtain ⟨A, ca, rfl, -⟩ := id h.brs
  have bX : Below (w.heap.size + 1) (w.alloc (treC (.slice Ar t.roots.length cr) (.slice A t.brs.length ca))) (w.alloc (treC (.slice Ar t.roots.length cr) (.slice A t.brs.length ca))) := Below.refl _ _
  cases hr : rightT t
  · have HX := Lib.hid (show printT t = [] ∧ printE t = 1 by unfold printT printE; rw [hr]; exact ⟨rfl, rfl⟩)
    rw [hr] at HRT
    clear hr h
    rw [HX.out.1, HX.out.2]
    go_enter Tryz.func36, Tryz.ntmps36
    go_wp2_with fail
    refine HRT.out.mono ?_
    rintro e w1 ⟨rfl, hb1⟩
    have bX := bnd_call bX hs1 hb1
    go_wp2
    go_ret2
    exact ⟨rfl, HUP.out _ bX⟩
  · have T := right_of hr
    have HX := Lib.hid (show printE t = 0 by unfold printE; rw [hr]; rfl)
    have HUN := Lib.hid (fun (W : World) (hW : Below w.heap.size w W) => runder_c t hz T 0 (.inl rfl) (.slice Ar t.roots.length cr) (.slice A t.brs.length ca) W B (HR.out W hW).1 (HR.out W hW).2)
    unfold underQ at HUN
    have hall := rprint_is hr
    have hmem : ∀ x ∈ belT t 0, ∃ b ∈ t.brs, b.id = x := fun x hx => by simpa using T.all_mem.1 hx
    have hlen : (belT t 0).length ≤ 100000 := Nat.le_trans (T.bel_len (.inl rfl)) hz.brs
    obtain ⟨all, hal⟩ : ∃ l, belT t 0 = l := ⟨_, rfl⟩
    rw [hal] at HUN hall hmem hlen
    have HALL := Lib.hid hall
    have HMEM := Lib.hid hmem
    have HTL := Lib.hid (fun (k : Nat) => (by
      have := outP_len T (all.take k) (fun x hx => hmem x (List.mem_of_mem_take hx))
      have h2 := List.length_take_le' k all
      have : 300 * (all.take k).length ≤ 300 * 100000 := Nat.mul_le_mul_left _ (by omega)
      omega : (outP t (all.take k)).length ≤ 30000000))
    have HT := Lib.hid T
    rw [hr] at HRT
    clear hr hall hal hmem h
    rw [HX.out]
    go_enter Tryz.func36, Tryz.ntmps36
    go_wp2_with fail
    refine HRT.out.mono ?_
    rintro e w1 ⟨rfl, hb1⟩
    have bX := bnd_call bX hs1 hb1
    obtain ⟨z0, z1, zl⟩ := KC.out _ bX
    go_wp2_with fail
    refine (HUN.out _ (HUP.out _ bX)).mono ?_
    rintro e w2 ⟨vl, rfl, hownL, hb2⟩
    have bX := bnd_call bX hs1 hb2
    have hL2 := hownL.toSl intS
    have HL := Lib.hid (fun (W : World) (hW : Below w2.heap.size w2 W) => hL2.below intS hW)
    obtain ⟨Al, cl, rfl, hcl1, hcl2, -⟩ := id hL2
    have HW := Lib.hid (fun (W : World) (hW : Below w2.heap.size w2 W) => bnd_mono bX hs1 hW)
    clear z0 z1 zl hb1 hb2 hownL hL2 bX
    go_wp2
    go_loopw [4, 6] (fun t4 i wr => ∃ (k : Nat) (s : ByteArray), k ≤ all.length ∧ i = .int .i64 k ∧ t4 = .string s ∧ Hid (s.data.toList = outP t (all.take k)) ∧ Below w2.heap.size w2 wr) (fun _ i _ => all.length - (intOf i).toNat)
    case atStart => exact ⟨0, ⟨#[]⟩, Nat.zero_le _, rfl, rfl, by show _ = _; simp [outP], Below.refl _ _⟩
    case round =>
      obtain ⟨k, s, hk, rfl, rfl, HS, bi⟩ := hrel
      obtain ⟨wo, rfl⟩ : ∃ wo : World, wo = wr := ⟨_, rfl⟩
      have bX := HW.out _ bi
      have bw := HUP.out _ bX
      by_cases hlt : k < all.length
      · obtain ⟨u, hu⟩ := get_at all hlt
        obtain ⟨c, hc, hcu⟩ := HMEM.out u (List.mem_of_getElem? hu)
        subst hcu
        have HSN := Lib.hid (outP_snoc t hu)
        obtain ⟨bl, ol, rfl, hbl, q0⟩ := Ints.at_ (HL.out _ bi) hu
        have hbl' : bl < wo.heap.size := Nat.lt_of_lt_of_le hbl bi.size
        have HLC := Lib.hid (fun (W : World) (hW : Below wo.heap.size wo W) => (⟨(hW.cell (p := ⟨bl, ol + k, none⟩) hbl').trans q0, Nat.lt_of_lt_of_le hbl' hW.size⟩ : W.cell? ⟨bl, ol + k, none⟩ = some (.int .i64 c.id) ∧ bl < W.heap.size))
        have hkk : (k : Int) < (all.length : Int) := by omega
        have hwk : IntKind.i64.wrap ((k : Int) + 1) = (k : Int) + 1 := IntWalk.i64_in _ (by omega)
        have HF := Lib.hid (by have := HFI.out c.id; rwa [findU_mem HT.out hc] at this : ∀ (W : World), Below w.heap.size w W → Calls Tryz.prog 19 #[treV (.slice Ar t.roots.length cr) (.slice A t.brs.length ca), .int .i64 c.id] W fun e w' => e = .returned (.tuple #[untV c, .bool true]) ∧ Below W.heap.size W w')
        have HP := Lib.hid (HPA.out c.id)
        have HCM := Lib.hid hc
        have hss := HTL.out k
        rw [← HS.out] at hss
        have hss' : s.size ≤ 30000000 := hss
        obtain ⟨xa, hxa⟩ : ∃ xa, depN t.brs c.id = xa + 1 := ⟨depN t.brs c.id - 1, by have := HT.out.dep_pos hc; omega⟩
        have hx12 : xa + 1 ≤ 12 := by rw [← hxa]; exact (HT.out.upIs hc).2
        obtain ⟨ps, hps⟩ : ∃ l, rpathF t.brs c.id = l := ⟨_, rfl⟩
        have hpl : ps.length = xa + 1 := by rw [← hps, ← hxa]; unfold depN; show (pthF t.brs c.id).length = _; unfold pthF; rw [List.length_reverse]
        rw [hps] at HP
        have HPL := Lib.hid hpl
        have hps2 := HT.out.pos c hc
        have hnm := name_le (HT.out.name c hc).1
        have hmkl := HT.out.mark_le hc
        obtain ⟨lv, hlv, hl1, hl4⟩ : ∃ lv : Nat, c.level = (lv : Int) ∧ 1 ≤ lv ∧ lv ≤ 4 := ⟨c.level.toNat, by omega, by omega, by omega⟩
        obtain ⟨m, hm⟩ : ∃ m : Nat, c.id = (m : Int) := ⟨c.id.toNat, by omega⟩
        have hm2 : m ≤ 1073741824 := by omega
        obtain ⟨de, hde⟩ : ∃ de : ByteArray, de = ⟨(Lib.decDigits m).toArray⟩ := ⟨_, rfl⟩
        obtain ⟨wd, hwd⟩ : ∃ wd : ByteArray, wd = wordS lv := ⟨_, rfl⟩
        have hdel : de.data.toList = Lib.itoa c.id := by rw [hde, hm, dec_itoa]
        have hwdl : wd.data.toList = wordL lv := by rw [hwd]; rfl
        have hdes : de.size ≤ 10 := by rw [hde]; exact digits_len 9 m (by omega)
        have hwds : wd.size ≤ 6 := by rw [bytes_size hwdl]; exact word_le _
        have HDE := Lib.hid (by have := rdecimal_c (m + 1) m (Nat.lt_succ_self m) hm2; rwa [← hm, ← hde] at this : ∀ W : World, Calls Tryz.prog 79 #[.int .i64 c.id] W fun e w' => e = .returned (.string de) ∧ Below W.heap.size W w')
        have HWD := Lib.hid (by have := rword_c lv hl1 hl4; rwa [← hlv, ← hwd] at this : ∀ W : World, Calls Tryz.prog 80 #[.int .i64 c.level] W fun e w' => e = .returned (.string wd) ∧ Below W.heap.size W w')
        have hpx : (pthF t.brs c.id).length = ps.length := congrArg List.length hps
        have hln : outL (unitO t.brs c.id) ((pthF t.brs c.id).length - 1) = List.replicate (2 * xa) 32 ++ (Lib.itoa c.id ++ [32] ++ wordL lv ++ [32] ++ c.title.data.toList ++ markL c) ++ [10] := by
          rw [HT.out.unit_of hc, show (pthF t.brs c.id).length - 1 = xa by omega, ← hlv]
          rfl
        clear hpx
        rw [hln, ← hdel, ← hwdl] at HSN
        clear hln hdel hwdl hde hwd hm hm2 hlv hl1 hl4 hps hxa hpl hps2 m
        have hbD := bX.drew
        have bo := (Below.refl wo.heap.size wo)
        have hwo : w.heap.size + 1 ≤ wo.heap.size := Nat.le_trans hs1 bX.size
        have hZ0 : (wo.alloc untO).heap[wo.heap.size]? = some untO := heap_newT wo untO
        have KEEP := Lib.hid (fun (W : World) (hW : Below wo.heap.size wo W) => And.intro (KC.out W (bX.trans (hW.mono hwo))) (HLC.out W hW))
        have oD := bo.drew
        have oZ := (bo.alloc (Nat.le_refl _) untO).drew
        have oA := oD
        have oB := oD
        have oP := oD
        clear hu q0 hbl hss hc
        go_wp2
        go_cut [7, 8] (fun v7 v8 W => ∃ g, v7 = .pointer (some ⟨g, 0, none⟩) ∧ v8 = .bool true ∧ wo.heap.size ≤ g ∧ W.heap[g]? = some (untC c) ∧ Below wo.heap.size wo W)
        case first =>
          go_region_held3 (fun W => (W.cell? ⟨w.heap.size, 0, none⟩ = some (.slice Ar t.roots.length cr) ∧ W.cell? ⟨w.heap.size, 1, none⟩ = some (.slice A t.brs.length ca) ∧ w.heap.size < W.heap.size) ∧ W.cell? ⟨bl, ol + k, none⟩ = some (.int .i64 c.id) ∧ bl < W.heap.size) (first | with_reducible exact KEEP.out _ oD | with_reducible exact KEEP.out _ oZ | with_reducible exact KEEP.out _ oA | with_reducible exact KEEP.out _ oB | with_reducible exact KEEP.out _ oP) (first
            | (go_at_call 19; (with_reducible refine (HF.out _ (bw.trans (oD.mono bw.size))).mono ?_); rintro e w5 ⟨rfl, hb5⟩; have oD := oD.trans (hb5.mono oD.size); have oA := oD.alloc oD.size untO; have oB := oD.alloc oD.size (untC c))
            | (go_at_call 19; (with_reducible refine (HF.out _ (bw.trans (oZ.mono bw.size))).mono ?_); rintro e w5 ⟨rfl, hb5⟩; have oZ := oZ.trans (hb5.mono oZ.size); have oP := put5_below (x := c) oZ (Nat.le_refl wo.heap.size); have hZ5 := ((hb5.block wo.heap.size (by simp)).trans hZ0).trans (congrArg some untO_is); obtain ⟨c0, c1, c2, c3, c4, cl⟩ := unt_cells hZ5; have f0 := Lib.frozen_of_heap hZ5 0; have f1 := Lib.frozen_of_heap hZ5 1; have f2 := Lib.frozen_of_heap hZ5 2; have f3 := Lib.frozen_of_heap hZ5 3; have f4 := Lib.frozen_of_heap hZ5 4; have hPA := put5_at (x := c) hZ5))
          · go_wp2_with fail
            go_meet
            exact ⟨w5.heap.size, rfl, rfl, oD.size, heap_newT w5 (untC c), oB⟩
          · go_wp2_with fail
            go_meet
            exact ⟨wo.heap.size, rfl, rfl, Nat.le_refl _, hPA, oP⟩
        case rest =>
          obtain ⟨g, rfl, rfl, hgw, hg, oX⟩ := hcut
          clear oA oB oP oZ oD hbD hZ0 bo KEEP
          have hgc : g < wc.heap.size := heap_ltT hg
          have KX := Lib.hid (fun (W : World) (hW : Below wc.heap.size wc W) => (by
            have o := oX.trans (hW.mono oX.size)
            have hg' := (hW.block g hgc).trans hg
            obtain ⟨c0, -, c2, c3, c4, cl⟩ := unt_cells hg'
            exact ⟨KC.out W (bX.trans (o.mono hwo)), c0, c2, c3, c4, cl⟩ : (W.cell? ⟨w.heap.size, 0, none⟩ = some (.slice Ar t.roots.length cr) ∧ W.cell? ⟨w.heap.size, 1, none⟩ = some (.slice A t.brs.length ca) ∧ w.heap.size < W.heap.size) ∧ W.cell? ⟨g, 0, none⟩ = some (.int .i64 c.id) ∧ W.cell? ⟨g, 2, none⟩ = some (.int .i64 c.level) ∧ W.cell? ⟨g, 3, none⟩ = some (.string c.title) ∧ W.cell? ⟨g, 4, none⟩ = some (.string c.mark) ∧ g < W.heap.size))
          have HUX := Lib.hid (fun (W : World) (hW : Below wc.heap.size wc W) => (⟨bw.trans ((oX.trans (hW.mono oX.size)).mono bw.size), bi.trans ((oX.trans (hW.mono oX.size)).mono bi.size)⟩ : Below w.heap.size w W ∧ Below w2.heap.size w2 W))
          go_wp2
          go_loopw [4, 9] (fun t4 i wr => ∃ (q : Nat) (s1 : ByteArray), 1 ≤ q ∧ q ≤ xa + 1 ∧ i = .int .i64 q ∧ t4 = .string s1 ∧ Hid (s1.data.toList = outP t (all.take k) ++ List.replicate (2 * (q - 1)) 32) ∧ Below wc.heap.size wc wr) (fun _ i _ => xa + 1 - (intOf i).toNat)
          case atStart => exact ⟨1, s, Nat.le_refl _, by omega, rfl, rfl, by show _ = _; rw [HS.out]; simp, Below.refl _ _⟩
          case round =>
            obtain ⟨q, s1, hq1, hq2, rfl, rfl, HQ, bq⟩ := hrel
            have hs1 : s1.size ≤ 30000100 := by
              rw [bytes_size HQ.out, List.length_append, List.length_replicate, ← HS.out]
              have : s.data.toList.length = s.size := Array.length_toList
              omega
            obtain ⟨⟨z0, z1, zl⟩, c0, c2, c3, c4, cl⟩ := KX.out _ bq
            go_wp2_with fail
            refine (HP.out _ (HUX.out _ bq).1).mono ?_
            rintro e w6 ⟨vp, rfl, hown, hb6⟩
            obtain ⟨Ap, cp, rfl, -⟩ := id (hown.toSl intS)
            have bq := bq.trans (hb6.mono bq.size)
            clear z0 z1 zl c0 c2 c3 c4 cl hown hb6
            obtain ⟨⟨z0, z1, zl⟩, c0, c2, c3, c4, cl⟩ := KX.out _ bq
            by_cases hlt : q < xa + 1
            · have hqi : (q : Int) < (ps.length : Int) := by rw [HPL.out]; omega
              have hwq : IntKind.i64.wrap ((q : Int) + 1) = (q : Int) + 1 := IntWalk.i64_in _ (by omega)
              have hz1 : ¬ 9223372036854775807 < s1.size + 2 := by omega
              go_wp2
              go_roundw
              case rel => exact ⟨q + 1, _, by omega, by omega, by go_num, rfl, by
                show _ = _
                rw [ByteArray.data_append, Array.toList_append, HQ.out, List.append_assoc, show 2 * (q + 1 - 1) = 2 * (q - 1) + 2 by omega, ← List.replicate_append_replicate]
                rfl, bq⟩
              case measure => simp [intOf]; omega
            · have hqi : ¬ (q : Int) < (ps.length : Int) := by rw [HPL.out]; omega
              obtain rfl : q = xa + 1 := by omega
              have HQ := Lib.hid (show s1.data.toList = outP t (all.take k) ++ List.replicate (2 * xa) 32 by rw [HQ.out]; rfl)
              have hz1 : ¬ 9223372036854775807 < de.size + 1 := by omega
              have hz2 : ¬ 9223372036854775807 < de.size + 1 + wd.size := by omega
              have hz3 : ¬ 9223372036854775807 < de.size + 1 + wd.size + 1 := by omega
              have hz4 : ¬ 9223372036854775807 < de.size + 1 + wd.size + 1 + c.title.size := by omega
              have hz5 : ¬ 9223372036854775807 < s1.size + (de.size + 1 + wd.size + 1 + c.title.size) := by omega
              have bD := bq.drew
              have KY := Lib.hid (fun (W : World) (hW : Below wc.heap.size wc W) => (⟨(KX.out W hW).2.1, (KX.out W hW).2.2.1, (KX.out W hW).2.2.2.1, (KX.out W hW).2.2.2.2.2⟩ : W.cell? ⟨g, 0, none⟩ = some (.int .i64 c.id) ∧ W.cell? ⟨g, 2, none⟩ = some (.int .i64 c.level) ∧ W.cell? ⟨g, 3, none⟩ = some (.string c.title) ∧ g < W.heap.size))
              go_wp2
              go_region_held3 (fun W => W.cell? ⟨g, 0, none⟩ = some (.int .i64 c.id) ∧ W.cell? ⟨g, 2, none⟩ = some (.int .i64 c.level) ∧ W.cell? ⟨g, 3, none⟩ = some (.string c.title) ∧ g < W.heap.size) (with_reducible exact KY.out _ bD) (first
                | (go_at_call 79; (with_reducible refine (HDE.out _).mono ?_); rintro e w7 ⟨rfl, hb7⟩; have bD := bD.trans (hb7.mono bD.size))
                | (go_at_call 80; (with_reducible refine (HWD.out _).mono ?_); rintro e w7 ⟨rfl, hb7⟩; have bD := bD.trans (hb7.mono bD.size)))
              have HS2 := Lib.hid (line_parts (dec := de) (wd := wd) (ti := c.title) HQ.out rfl rfl)
              have hs2 : (s1 ++ (de ++ ⟨#[32]⟩ ++ wd ++ ⟨#[32]⟩ ++ c.title) : ByteArray).size ≤ 30000200 := by
                simp only [ByteArray.size_append]
                show s1.size + (de.size + 1 + wd.size + 1 + c.title.size) ≤ _
                omega
              generalize (s1 ++ (de ++ ⟨#[32]⟩ ++ wd ++ ⟨#[32]⟩ ++ c.title) : ByteArray) = s2 at *
              clear z0 z1 zl c0 c2 c3 c4 cl hz1 hz2 hz3 hz4 hz5 KY
              have c4 := (KX.out _ bD).2.2.2.2.1
              have cl := (KX.out _ bD).2.2.2.2.2
              have bXX := (HUX.out _ bD).2
              by_cases hm : c.mark = ⟨#[]⟩
              · have hm0 : c.mark.data.toList = [] := by rw [hm]
                have hmk0 : markL c = [] := by unfold markL; rw [if_pos hm]
                have HSN := Lib.hid (show (s2 ++ ⟨#[10]⟩ : ByteArray).data.toList = outP t (all.take (k + 1)) by
                  rw [ByteArray.data_append, Array.toList_append, HS2.out, HSN.out, hmk0]
                  simp)
                have hz1 : ¬ 9223372036854775807 < s2.size + 1 := by omega
                clear hmk0 hm0
                rw [hm] at c4
                go_wp2
                go_roundw
                case rel => exact ⟨k + 1, _, by omega, by go_num, rfl, HSN, bXX⟩
                case measure => simp [intOf]; omega
              · have hmk1 : markL c = [32, 91] ++ c.mark.data.toList ++ [93] := by unfold markL; rw [if_neg hm]
                have HSN := Lib.hid (show (s2 ++ (⟨#[32, 91]⟩ ++ c.mark ++ ⟨#[93]⟩) ++ ⟨#[10]⟩ : ByteArray).data.toList = outP t (all.take (k + 1)) by
                  simp only [ByteArray.data_append, Array.toList_append]
                  rw [HS2.out, HSN.out, hmk1]
                  simp)
                have hz1 : ¬ 9223372036854775807 < 2 + c.mark.size := by omega
                have hz2 : ¬ 9223372036854775807 < 2 + c.mark.size + 1 := by omega
                have hz3 : ¬ 9223372036854775807 < s2.size + (2 + c.mark.size + 1) := by omega
                have hz4 : ¬ 9223372036854775807 < s2.size + (2 + c.mark.size + 1) + 1 := by omega
                have hme : c.mark.toList.isEmpty = false := by
                  rw [str_empty, decide_eq_false_iff_not]
                  intro e
                  exact hm (ByteArray.ext (Array.eq_empty_of_size_eq_zero e))
                clear hmk1 hm
                go_wp2
                go_roundw
                case rel => exact ⟨k + 1, _, by omega, by go_num, rfl, HSN, bXX⟩
                case measure => simp [intOf]; omega
      · have hkk : ¬ (k : Int) < (all.length : Int) := by omega
        have HE := Lib.hid (show s = ⟨(printT t).toArray⟩ by
          refine ByteArray.ext (Array.toList_inj.1 ?_)
          rw [HS.out, HALL.out, List.take_of_length_le (by omega)])
        have he := HE.out
        subst he
        go_wp2
        go_ret2
        exact ⟨rfl, bw⟩
end Go.Proofs.YthbccfchjgihgaaGreatDoor
