/- InvertRanges returns true. -/
import Derived.Test.YtpfngehledgkiaaGreatAwI
import Derived.Test.YtpfngehledgkiaaGreatLbQ
import Derived.Test.YtpfngehledgkiaaGreatRqB
import Derived.Test.YtpfngehledgkiaaGreatLbT
namespace Go.Proofs.YtpfngehledgkiaaGreat
open Go.RowKit

theorem rangesB {l : List Post} (h0 : chkL l = 0) (word : ByteArray) {fi pf : Int × Nat} (h1 : findF l word = fi) (h2 : prefF_ l word = pf) :
    (∀ (i : Nat) x, l[i]? = some x → (x.word.toList == word.toList) = (decide (fi.1 ≤ (i : Int)) && decide ((i : Int) < fi.1 + (fi.2 : Int)))) ∧ (∀ (i : Nat) x, l[i]? = some x → pfxB word x.word = (decide (pf.1 ≤ (i : Int)) && decide ((i : Int) < pf.1 + (pf.2 : Int)))) ∧ (fi.2 = 0 → fi.1 = 0) ∧ (pf.2 = 0 → pf.1 = 0) ∧ 0 ≤ fi.1 ∧ 0 ≤ pf.1 ∧ fi.1 + fi.2 ≤ l.length ∧ pf.1 + pf.2 ≤ l.length := by
  have hs := strict_sorted (chkL_zero h0).2.2
  unfold findF at h1
  unfold prefF_ at h2
  rw [if_neg (show ¬ (chkL l ≠ 0) from fun h => h h0)] at h1 h2
  obtain ⟨a1, a2, a3, a4⟩ := find_at hs word h1
  obtain ⟨b1, b2, b3, b4⟩ := prefix_at hs word h2
  exact ⟨fun i x hx => by rw [str_eq]; exact a1 i x hx, b1, a2, b2, a3, b3, a4, b4⟩
theorem wrdG_len : ∀ (l : List Post) (q : Option ByteArray), (wrdG q l).length ≤ l.length
  | [], _ => Nat.le_refl _
  | p :: r, q => by
    unfold wrdG
    split
    · exact Nat.le_trans (wrdG_len r q) (Nat.le_succ _)
    · rw [List.length_cons, List.length_cons]
      exact Nat.succ_le_succ (wrdG_len r _)
set_option maxRecDepth 100000 in
set_option maxHeartbeats 16000000 in
theorem ranges_law (l : List Post) (word : ByteArray) (v : Value) (w : World) (B : Nat) (hB : B ≤ w.heap.size) (h : Posts w B l v) :
    Calls Tryz.prog 6 #[v, .string word] w fun e w' => e = .returned (.bool true) ∧ Below w.heap.size w w' := by
  have HA := Lib.hid (fun (W : World) => awake5_c W)
  have HFW := Lib.hid (fun (W : World) (hW : Below w.heap.size w W) => rfew5_c l v W B (h.below pstS (hW.mono hB)))
  have b0 : Below w.heap.size w (w.alloc (.cells #[v] 29)) := (Below.refl _ _).alloc (Nat.le_refl _) _
  have hb0 : Below (w.heap.size + 1) (w.alloc (.cells #[v] 29)) (w.alloc (.cells #[v] 29)) := Below.refl _ _
  have KC := Lib.hid (fun (W : World) (hW : Below (w.heap.size + 1) (w.alloc (.cells #[v] 29)) W) => (⟨(hW.cell (p := ⟨w.heap.size, 0, none⟩) (by simp)).trans (by simp), by have := hW.size; simp at this; omega⟩ : W.cell? ⟨w.heap.size, 0, none⟩ = some v ∧ w.heap.size < W.heap.size))
  by_cases hf : fewP l = true ∧ word.size ≤ 40
  · obtain ⟨hf1, hf2⟩ := hf
    obtain ⟨hn, hs⟩ := fewP_iff.1 hf1
    have hs6 : ∀ p ∈ l, p.word.size ≤ 1000000 := fun p hp => by have := hs p hp; omega
    have HCL := Lib.hid (fun (W : World) (hW : Below w.heap.size w W) => clonePosts_c l v W B (Nat.le_trans hB hW.size) (h.below pstS (hW.mono hB)) (by omega))
    have HF := Lib.hid (fun (u : Value) (W : World) (hu : Posts W W.heap.size l u) => iFind_c l u word W W.heap.size (Nat.le_refl _) hu hs6)
    have HP := Lib.hid (fun (u : Value) (W : World) (hu : Posts W W.heap.size l u) => iPrefix_c l u word W W.heap.size (Nat.le_refl _) hu hs6)
    have HC := Lib.hid (fun (u : Value) (W : World) (hu : Posts W W.heap.size l u) => icheck_c l u W W.heap.size (Nat.le_refl _) hu hs6)
    have HW := Lib.hid (fun (u : Value) (W : World) (hu : Posts W W.heap.size l u) => iWords_c l u W W.heap.size (Nat.le_refl _) hu hs6)
    have hw4 : ¬ (40 : Int) < (word.size : Int) := by omega
    rw [hf1] at HFW
    obtain ⟨A, c, rfl, hc1, hc2, -⟩ := id h
    by_cases hck : chkL l = 0
    · obtain ⟨fi, hfi⟩ : ∃ x, findF l word = x := ⟨_, rfl⟩
      obtain ⟨pf, hpf⟩ : ∃ x, prefF_ l word = x := ⟨_, rfl⟩
      obtain ⟨hr1, hr2, hz1, hz2, hr3, hr4, hr5, hr6⟩ := rangesB hck word hfi hpf
      obtain ⟨at_, n⟩ := fi
      obtain ⟨from_, m⟩ := pf
      simp only at hr1 hr2 hz1 hz2 hr3 hr4 hr5 hr6
      have HR1 := Lib.hid hr1
      have HR2 := Lib.hid hr2
      have HWS := Lib.hid (wrdL_spec (strict_sorted (chkL_zero hck).2.2))
      rw [hfi] at HF
      rw [hpf] at HP
      rw [hck] at HC
      rw [if_pos hck] at HW
      clear hf1 hs hs6 hfi hpf hr1 hr2 hck
      go_enter Tryz.func6, Tryz.ntmps6
      go_wp2_with fail
      refine (HA.out _).mono ?_
      rintro e w1 ⟨rfl, b1⟩
      have bX := bnd_call hb0 (by simp) b1
      obtain ⟨z0, zl⟩ := KC.out _ bX
      go_wp2_with fail
      refine (HFW.out _ (b0.trans (bX.mono (Nat.le_succ _)))).mono ?_
      rintro e w2 ⟨rfl, rfl⟩
      go_wp2_with fail
      refine (HCL.out _ (b0.trans (bX.mono (Nat.le_succ _)))).mono ?_
      rintro e wc1 ⟨u1, rfl, hu1, bc1⟩
      have bX := bnd_call bX (by simp) bc1
      have hu1 := hu1.toSl pstS
      clear b1 z0 zl
      obtain ⟨z0, zl⟩ := KC.out _ bX
      go_wp2_with fail
      refine (HF.out _ _ hu1).mono ?_
      rintro e wd1 ⟨rfl, bd1⟩
      have bX := bnd_call bX (by simp) bd1
      clear bc1 bd1 hu1 z0 zl
      obtain ⟨z0, zl⟩ := KC.out _ bX
      go_wp2_with fail
      refine (HCL.out _ (b0.trans (bX.mono (Nat.le_succ _)))).mono ?_
      rintro e wc2 ⟨u2, rfl, hu2, bc2⟩
      have bX := bnd_call bX (by simp) bc2
      have hu2 := hu2.toSl pstS
      clear z0 zl
      obtain ⟨z0, zl⟩ := KC.out _ bX
      go_wp2_with fail
      refine (HP.out _ _ hu2).mono ?_
      rintro e wd2 ⟨rfl, bd2⟩
      have bX := bnd_call bX (by simp) bd2
      clear bc2 bd2 hu2 z0 zl
      obtain ⟨z0, zl⟩ := KC.out _ bX
      go_wp2_with fail
      refine (HCL.out _ (b0.trans (bX.mono (Nat.le_succ _)))).mono ?_
      rintro e wc3 ⟨u3, rfl, hu3, bc3⟩
      have bX := bnd_call bX (by simp) bc3
      have hu3 := hu3.toSl pstS
      clear z0 zl
      obtain ⟨z0, zl⟩ := KC.out _ bX
      go_wp2_with fail
      refine (HW.out _ _ hu3).mono ?_
      rintro e wd3 ⟨x3, rfl, hx3, bd3⟩
      have bX := bnd_call bX (by simp) bd3
      clear bc3 hu3 z0 zl
      obtain ⟨z0, zl⟩ := KC.out _ bX
      have HX3 := Lib.hid ((hx3.toSl strS).mono strS (Nat.le_refl _))
      go_wp2_with fail
      refine (HCL.out _ (b0.trans (bX.mono (Nat.le_succ _)))).mono ?_
      rintro e wc4 ⟨u4, rfl, hu4, bc4⟩
      have bX := bnd_call bX (by simp) bc4
      have hu4 := hu4.toSl pstS
      clear z0 zl
      obtain ⟨z0, zl⟩ := KC.out _ bX
      go_wp2_with fail
      refine (HC.out _ _ hu4).mono ?_
      rintro e wd4 ⟨rfl, bd4⟩
      have bX := bnd_call bX (by simp) bd4
      have hx4 := (((hx3.toSl strS).below strS bc4).mono strS bc4.size).below strS bd4
      have HX4 := Lib.hid (hx4.mono strS bd4.size)
      clear bc4 bd4 hu4 z0 zl hx3 hx4 bd3
      obtain ⟨z0, zl⟩ := KC.out _ bX
      obtain ⟨Aw, cw, rfl, -⟩ := id HX4.out
      have HZ1 : n ≠ 0 ∨ at_ = 0 := Classical.byCases (fun h : n = 0 => .inr (hz1 h)) .inl
      have HZ2 : m ≠ 0 ∨ from_ = 0 := Classical.byCases (fun h : m = 0 => .inr (hz2 h)) .inl
      clear hz1 hz2
      have HIS := Lib.hid (isSortedS_c (wrdL l) (.slice Aw (wrdL l).length cw) wd4 (fun b => b < wd4.heap.size) (fun _ h => h) HX4.out HWS.out.1)
      go_wp2_with fail
      any_goals (exfalso; omega)
      all_goals
        refine HIS.out.mono ?_
        rintro e wi ⟨rfl, ni, rfl⟩
        have bX := bX.trans (below_of_drew (w := wd4) (w' := wd4.drewN ni) _ ⟨_, rfl⟩)
        clear z0 zl
        obtain ⟨z0, zl⟩ := KC.out _ bX
        go_wp2
      all_goals
        go_loopw [83] (fun i wr => ∃ k : Nat, k ≤ l.length ∧ i = .int .i64 k ∧ Below (w.heap.size + 1) (w.alloc (.cells #[.slice A l.length c] 29)) wr ∧ Below wd4.heap.size wd4 wr) (fun i _ => l.length - (intOf i).toNat)
        case atStart => exact ⟨0, Nat.zero_le _, rfl, bX, below_of_drew _ ⟨_, rfl⟩⟩
        case round =>
          clear bX z0 zl
          obtain ⟨k, hk, rfl, bX, bY⟩ := hrel
          obtain ⟨z0, zl⟩ := KC.out _ bX
          have bW := b0.trans (bX.mono (Nat.le_succ _))
          have hsW := bW.size
          by_cases hlt : k < l.length
          · obtain ⟨x, hx⟩ := get_at l hlt
            have e1 := HR1.out k x hx
            have e2 := HR2.out k x hx
            have HM := Lib.hid (HWS.out.2.2 x (List.mem_of_getElem? hx))
            obtain ⟨b, off, e9, hbB, g0, g1, g2, g3⟩ := Posts.at_ (h.below pstS (bW.mono hB)) hx
            subst e9
            have hbw : b < wr.heap.size := by have : b < B := hbB; omega
            have hki : (k : Int) < (l.length : Int) := by omega
            have hc1 : (x.word.toList == word.toList) = true ∧ at_ ≤ k ∧ (k : Int) < at_ + n ∨ (x.word.toList == word.toList) = false ∧ at_ ≤ k ∧ ¬ ((k : Int) < at_ + n) ∨ (x.word.toList == word.toList) = false ∧ ¬ (at_ ≤ k) := by
              rw [e1]
              by_cases q1 : at_ ≤ k <;> by_cases q2 : (k : Int) < at_ + n <;> simp [q1, q2]
            have hc2 : pfxB word x.word = true ∧ from_ ≤ k ∧ (k : Int) < from_ + m ∨ pfxB word x.word = false ∧ from_ ≤ k ∧ ¬ ((k : Int) < from_ + m) ∨ pfxB word x.word = false ∧ ¬ (from_ ≤ k) := by
              rw [e2]
              by_cases q1 : from_ ≤ k <;> by_cases q2 : (k : Int) < from_ + m <;> simp [q1, q2]
            clear e1 e2 hx
            have HPX := Lib.hid (fun (W : World) => hasPrefix_c x.word word W)
            generalize pfxB word x.word = pb at *
            have HCT := Lib.hid (fun (W : World) (hW : Below wd4.heap.size wd4 W) => show Calls Tryz.prog 35 #[.slice Aw (wrdL l).length cw, .string x.word] W fun e w' => e = .returned (.bool true) ∧ W = w' by
              have := scontains_c x.word (wrdL l) (.slice Aw (wrdL l).length cw) W (fun b => b < wd4.heap.size) (fun b hb => by have : b < wd4.heap.size := hb; have := hW.size; omega) (HX4.out.below strS hW)
              rwa [show ((wrdL l).any fun y => decide (y = x.word)) = true from List.any_eq_true.2 ⟨x.word, HM.out, by simp⟩] at this)
            have hbx : ∀ (B' : Nat) (o : Obj), B' ≤ wr.heap.size → Below B' wr (wr.alloc o) := fun B' o h => (Below.refl _ _).alloc h o
            rcases hc1 with ⟨he, q1, q2⟩ | ⟨he, q1, q2⟩ | ⟨he, q1⟩
            all_goals first
              | (exfalso; omega)
              | (rcases hc2 with ⟨hpb, q3, q4⟩ | ⟨hpb, q3, q4⟩ | ⟨hpb, q3⟩
                 all_goals first
                   | (exfalso; omega)
                   | (rw [hpb] at HPX
                      go_wp2_with fail
                      all_goals try (exfalso; omega)
                      refine (HPX.out _).mono ?_
                      rintro e wp ⟨rfl, rfl⟩
                      go_wp2_with fail
                      all_goals try (exfalso; omega)
                      refine (HCT.out _ (bY.trans (hbx _ _ bY.size))).mono ?_
                      rintro e wp ⟨rfl, rfl⟩
                      go_wp2
                      go_roundw
                      case rel => exact ⟨k + 1, by omega, by go_num, bX.trans (hbx _ _ (by have := bX.size; simp at this; exact this)), bY.trans (hbx _ _ bY.size)⟩
                      case measure => simp [intOf]; omega))
          · have hki : ¬ (k : Int) < (l.length : Int) := by omega
            have hwl : (wrdL l).length ≤ 100000 := by have := wrdG_len l none; unfold wrdL; omega
            have HNO := Lib.hid (show ((wrdL l).any fun s => !(l.any fun x => decide (x.word = s))) = false by
              rw [List.any_eq_false]
              intro y hy
              obtain ⟨p, hp, e⟩ := HWS.out.2.1 y hy
              rw [show (l.any fun x => decide (x.word = y)) = true from List.any_eq_true.2 ⟨p, hp, by simp [e]⟩]
              simp)
            go_wp2_with fail
            refine (cloneS_c (wrdL l) _ wr wd4.heap.size bY.size (HX4.out.below strS bY) hwl).mono ?_
            rintro e w9 ⟨v9, rfl, h9, b9⟩
            have b9W := bX.trans (b9.mono (by have := bX.size; simp at this; exact this))
            have bY9 := bY.trans (b9.mono bY.size)
            have HC9 := Lib.hid (compactS_c (wrdL l) v9 w9 (fun b => b < w9.heap.size) (fun _ h => h) (h9.toSl strS) HWS.out.1)
            obtain ⟨A9, c9, e9, -⟩ := h9.toSl strS
            subst e9
            go_wp2_with fail
            refine HC9.out.mono ?_
            rintro e w10 ⟨rfl, n10, rfl⟩
            have b10W := b9W.trans (below_of_drew (w := w9) (w' := w9.drewN n10) _ ⟨_, rfl⟩)
            have bY10 := bY9.trans (below_of_drew (w := w9) (w' := w9.drewN n10) _ ⟨_, rfl⟩)
            clear z0 zl
            obtain ⟨z0, zl⟩ := KC.out _ b10W
            have HCF := Lib.hid (strIdx1_any 39 (.pointer (some ⟨w.heap.size, 0, none⟩)) (fun s => !(l.any fun x => decide (x.word = s))) (wrdL l) (.slice Aw (wrdL l).length cw) (w9.drewN n10) wd4.heap.size bY10.size (HX4.out.below strS bY10) enter_rg1 (fun x W _ hW _ => by
              have bXW := b10W.trans (hW.mono (by have := b10W.size; simp at this; exact this))
              have bW := b0.trans (bXW.mono (Nat.le_succ _))
              obtain ⟨y0, yl⟩ := KC.out _ bXW
              exact rg1_c x l (.slice A l.length c) w.heap.size W B (Nat.le_trans hB bW.size) (h.below pstS (bW.mono hB)) y0 yl))
            rw [HNO.out] at HCF
            go_wp2_with fail
            refine HCF.out.mono ?_
            rintro e w11 ⟨rfl, b11⟩
            go_wp2
            go_ret
            exact ⟨rfl, (b0.trans (b10W.mono (Nat.le_succ _))).trans (b11.mono (by have := (b0.trans (b10W.mono (Nat.le_succ _))).size; exact this))⟩
    · have hfi : findF l word = (0, 0) := by unfold findF; rw [if_pos hck]
      have hpf : prefF_ l word = (0, 0) := by unfold prefF_; rw [if_pos hck]
      have hne : (chkL l != 0) = true := by simpa using hck
      rw [hfi] at HF
      rw [hpf] at HP
      rw [if_neg hck] at HW
      generalize chkL l = ck at *
      clear hf1 hs hs6 hfi hpf hck
      go_enter Tryz.func6, Tryz.ntmps6
      go_wp2_with fail
      refine (HA.out _).mono ?_
      rintro e w1 ⟨rfl, b1⟩
      have bX := bnd_call hb0 (by simp) b1
      obtain ⟨z0, zl⟩ := KC.out _ bX
      go_wp2_with fail
      refine (HFW.out _ (b0.trans (bX.mono (Nat.le_succ _)))).mono ?_
      rintro e w2 ⟨rfl, rfl⟩
      go_wp2_with fail
      refine (HCL.out _ (b0.trans (bX.mono (Nat.le_succ _)))).mono ?_
      rintro e wc1 ⟨u1, rfl, hu1, bc1⟩
      have bX := bnd_call bX (by simp) bc1
      have hu1 := hu1.toSl pstS
      clear b1 z0 zl
      obtain ⟨z0, zl⟩ := KC.out _ bX
      go_wp2_with fail
      refine (HF.out _ _ hu1).mono ?_
      rintro e wd1 ⟨rfl, bd1⟩
      have bX := bnd_call bX (by simp) bd1
      clear bc1 bd1 hu1 z0 zl
      obtain ⟨z0, zl⟩ := KC.out _ bX
      go_wp2_with fail
      refine (HCL.out _ (b0.trans (bX.mono (Nat.le_succ _)))).mono ?_
      rintro e wc2 ⟨u2, rfl, hu2, bc2⟩
      have bX := bnd_call bX (by simp) bc2
      have hu2 := hu2.toSl pstS
      clear z0 zl
      obtain ⟨z0, zl⟩ := KC.out _ bX
      go_wp2_with fail
      refine (HP.out _ _ hu2).mono ?_
      rintro e wd2 ⟨rfl, bd2⟩
      have bX := bnd_call bX (by simp) bd2
      clear bc2 bd2 hu2 z0 zl
      obtain ⟨z0, zl⟩ := KC.out _ bX
      go_wp2_with fail
      refine (HCL.out _ (b0.trans (bX.mono (Nat.le_succ _)))).mono ?_
      rintro e wc3 ⟨u3, rfl, hu3, bc3⟩
      have bX := bnd_call bX (by simp) bc3
      have hu3 := hu3.toSl pstS
      clear z0 zl
      obtain ⟨z0, zl⟩ := KC.out _ bX
      go_wp2_with fail
      refine (HW.out _ _ hu3).mono ?_
      rintro e wd3 ⟨x3, rfl, hx3, bd3⟩
      have bX := bnd_call bX (by simp) bd3
      clear bc3 hu3 z0 zl
      obtain ⟨z0, zl⟩ := KC.out _ bX
      have HX3 := Lib.hid ((hx3.toSl strS).mono strS (Nat.le_refl _))
      go_wp2_with fail
      refine (HCL.out _ (b0.trans (bX.mono (Nat.le_succ _)))).mono ?_
      rintro e wc4 ⟨u4, rfl, hu4, bc4⟩
      have bX := bnd_call bX (by simp) bc4
      have hu4 := hu4.toSl pstS
      clear z0 zl
      obtain ⟨z0, zl⟩ := KC.out _ bX
      go_wp2_with fail
      refine (HC.out _ _ hu4).mono ?_
      rintro e wd4 ⟨rfl, bd4⟩
      have bX := bnd_call bX (by simp) bd4
      have hx4 := (((hx3.toSl strS).below strS bc4).mono strS bc4.size).below strS bd4
      have HX4 := Lib.hid (hx4.mono strS bd4.size)
      clear bc4 bd4 hu4 z0 zl hx3 hx4 bd3
      obtain ⟨z0, zl⟩ := KC.out _ bX
      obtain ⟨Aw, cw, rfl, -⟩ := id HX4.out
      go_wp2
      go_ret
      exact ⟨rfl, b0.trans (bX.mono (Nat.le_succ _))⟩
  · cases hf1 : fewP l
    · rw [hf1] at HFW
      clear hf
      obtain ⟨A, c, rfl, hc1, hc2, -⟩ := id h
      go_enter Tryz.func6, Tryz.ntmps6
      go_wp2_with fail
      refine (HA.out _).mono ?_
      rintro e w1 ⟨rfl, b1⟩
      have bX := bnd_call hb0 (by simp) b1
      obtain ⟨z0, zl⟩ := KC.out _ bX
      go_wp2_with fail
      refine (HFW.out _ (b0.trans (bX.mono (Nat.le_succ _)))).mono ?_
      rintro e w2 ⟨rfl, rfl⟩
      go_wp2
      go_ret
      exact ⟨rfl, b0.trans (bX.mono (Nat.le_succ _))⟩
    · have hw4 : (40 : Int) < (word.size : Int) := by
        have : ¬ word.size ≤ 40 := fun h => hf ⟨hf1, h⟩
        omega
      rw [hf1] at HFW
      clear hf
      obtain ⟨A, c, rfl, hc1, hc2, -⟩ := id h
      go_enter Tryz.func6, Tryz.ntmps6
      go_wp2_with fail
      refine (HA.out _).mono ?_
      rintro e w1 ⟨rfl, b1⟩
      have bX := bnd_call hb0 (by simp) b1
      obtain ⟨z0, zl⟩ := KC.out _ bX
      go_wp2_with fail
      refine (HFW.out _ (b0.trans (bX.mono (Nat.le_succ _)))).mono ?_
      rintro e w2 ⟨rfl, rfl⟩
      go_wp2
      go_ret
      exact ⟨rfl, b0.trans (bX.mono (Nat.le_succ _))⟩
end Go.Proofs.YtpfngehledgkiaaGreat
