/- TransferSums returns true. -/
import Derived.Test.YtenaifmkejmdaaaDoorAwT
namespace Go.Proofs.YtenaifmkejmdaaaDoor
open Go.RowKit

theorem chkG_neg : ∀ (r : List Item) (i : Nat) (q : Option Int) (fs : List Int), (chkG i q fs r).2 = 0 → (chkG i q fs r).1 = -1
  | [], _, _, _, _ => rfl
  | x :: r, i, q, fs, h => by
    rw [chkG_cons] at h ⊢
    by_cases h1 : itemE x ≠ 0
    · rw [if_pos h1] at h; exact absurd h h1
    · rw [if_neg h1] at h ⊢
      by_cases h2 : (q.any fun n => decide (x.number ≤ n)) = true
      · rw [if_pos h2] at h; cases h
      · rw [if_neg h2] at h ⊢
        by_cases h3 : x.file ∈ fs
        · rw [if_pos h3] at h; cases h
        · rw [if_neg h3] at h ⊢
          exact chkG_neg r _ _ _ h
theorem chkF_right {l : TL} (h : rightB l = true) : chkF l = (-1, 0) := by
  have h2 : (chkF l).2 = 0 := by simpa [rightB] using h
  have h1 : (chkF l).1 = -1 := by
    unfold chkF at h2 ⊢
    split
    · rfl
    · split
      · rfl
      · split
        · rfl
        · rename_i a b c
          rw [if_neg a, if_neg b, if_neg c] at h2
          exact chkG_neg _ _ _ _ h2
  exact Prod.ext h1 h2
theorem chkF_wrong {l : TL} (h : rightB l = false) : (chkF l).2 ≠ 0 := by simpa [rightB] using h
theorem few_len {l : TL} (h : fewT l = true) : l.items.length ≤ 129 := by
  unfold fewT at h
  rw [Bool.and_eq_true] at h
  have h1 := h.1
  rcases Nat.lt_or_ge 12 l.items.length with h2 | h2
  · simp [h2] at h1; omega
  · omega
abbrev anyF (m : Int) (l : List Item) : Bool := l.any fun x => decide (x.first = m)
abbrev anyL (m : Int) (l : List Item) : Bool := l.any fun x => decide (x.last = m)
theorem anyF_snoc {l : List Item} {k : Nat} {x : Item} (m : Int) (h : l[k]? = some x) : anyF m (l.take (k + 1)) = (anyF m (l.take k) || decide (x.first = m)) := by rw [take_at h]; simp [anyF]
theorem anyL_snoc {l : List Item} {k : Nat} {x : Item} (m : Int) (h : l[k]? = some x) : anyL m (l.take (k + 1)) = (anyL m (l.take k) || decide (x.last = m)) := by rw [take_at h]; simp [anyL]
theorem any_min {l : TL} (h : rightB l = true) : anyF (totA l) l.items = true ∧ anyL (totB l) l.items = true ∧ ∀ x ∈ l.items, totA l ≤ x.first ∧ x.last ≤ totB l := by
  have hok := right_ok h
  have e1 : totA l = minG (fst0 l) l.items := by unfold totA; rw [h]; rfl
  have e2 : totB l = maxG (lst0 l) l.items := by unfold totB; rw [h]; rfl
  obtain ⟨x0, hx0⟩ := get_at l.items (List.length_pos_iff.2 hok.ne)
  have hf : fst0 l = x0.first ∧ lst0 l = x0.last := by unfold fst0 lst0; rw [List.head?_eq_getElem?, hx0]; exact ⟨rfl, rfl⟩
  have hm := List.mem_of_getElem? hx0
  refine ⟨?_, ?_, fun x hx => ⟨by rw [e1]; exact (minG_le _ _).2 x hx, by rw [e2]; exact (maxG_le _ _).2 x hx⟩⟩
  · rw [List.any_eq_true]
    rcases minG_hit l.items (fst0 l) with h | ⟨x, hx, h⟩
    · exact ⟨x0, hm, by simp only [decide_eq_true_eq]; rw [e1, h, hf.1]⟩
    · exact ⟨x, hx, by simp only [decide_eq_true_eq]; rw [e1, h]⟩
  · rw [List.any_eq_true]
    rcases maxG_hit l.items (lst0 l) with h | ⟨x, hx, h⟩
    · exact ⟨x0, hm, by simp only [decide_eq_true_eq]; rw [e2, h, hf.2]⟩
    · exact ⟨x, hx, by simp only [decide_eq_true_eq]; rw [e2, h]⟩
theorem up_box {w W : World} {l : TL} {v : Value} (hX : Below (w.heap.size + 1) (w.alloc (tlC l v)) W) : Below w.heap.size w W := ((Below.refl _ _).alloc (Nat.le_refl _) _ : Below w.heap.size w (w.alloc (tlC l v))).trans (hX.mono (Nat.le_succ _))
theorem beq_dec (a b : Int) : (a == b) = decide (a = b) := by rw [Bool.eq_iff_iff]; simp
set_option maxRecDepth 100000 in
set_option maxHeartbeats 8000000 in
theorem sums_law (l : TL) (v : Value) (w : World) (B : Nat) (hB : B ≤ w.heap.size) (h : TLRep w B l v) (hV : VarOk w) :
    Calls Tryd.prog 5 #[tlV l v] w fun e w' => e = .returned (.bool true) ∧ Below w.heap.size w w' := by
  have b00 : Below w.heap.size w (w.alloc (tlC l v)) := (Below.refl _ _).alloc (Nat.le_refl _) _
  have hb0 : Below (w.heap.size + 1) (w.alloc (tlC l v)) (w.alloc (tlC l v)) := Below.refl _ _
  have KC := Lib.hid (fun (W : World) (hW : Below (w.heap.size + 1) (w.alloc (tlC l v)) W) => tlW_at hW)
  have HA := Lib.hid (fun (W : World) (hW : Below w.heap.size w W) => awake_c W (hV.below hW))
  have HFW := Lib.hid (fun (W : World) (hW : Below w.heap.size w W) => few_c l v W B (Nat.le_trans hB hW.size) (h.below itmS (hW.mono hB)))
  have HCP := Lib.hid (fun (hF : fewT l = true) (W : World) (hW : Below w.heap.size w W) => cp_c l v W B (Nat.le_trans hB hW.size) (h.below itmS (hW.mono hB)) (by have := few_len hF; omega))
  have HTO := Lib.hid (fun (v' : Value) (W : World) (hW : Below w.heap.size w W) (hr : TLRep W W.heap.size l v') => total_c l v' W _ (Nat.le_refl _) hr (hV.below hW))
  have HCK := Lib.hid (fun (v' : Value) (W : World) (hW : Below w.heap.size w W) (hr : TLRep W W.heap.size l v') => check_c l v' W _ (Nat.le_refl _) hr (hV.below hW))
  obtain ⟨A, c, rfl, -⟩ := id h
  have HIT := Lib.hid (fun (k : Nat) (x : Item) (hx : l.items[k]? = some x) (W : World) (hW : Below w.heap.size w W) => Items.at_ (h.below itmS (hW.mono hB)) hx)
  go_enter Tryd.func5, Tryd.ntmps5
  go_wp2_with fail
  refine (HA.out _ b00).mono ?_
  rintro e w1 ⟨rfl, hb1⟩
  have hbX := bnd_call hb0 (by simp) hb1
  obtain ⟨z0, z1, z2, z3, zl⟩ := KC.out _ hbX
  clear hb1
  go_wp2_with fail
  refine (HFW.out _ (up_box hbX)).mono ?_
  rintro e w2 ⟨rfl, hb2⟩
  have hbX := bnd_call hbX (by simp) hb2
  clear hb2 z0 z1 z2 z3 zl
  obtain ⟨z0, z1, z2, z3, zl⟩ := KC.out _ hbX
  cases hf : fewT l
  · clear hf
    go_wp2_with fail
    refine (HA.out _ (up_box hbX)).mono ?_
    rintro e w3 ⟨rfl, hb3⟩
    have hbX := bnd_call hbX (by simp) hb3
    go_wp2
    go_ret
    exact ⟨rfl, up_box hbX⟩
  · have HCP := Lib.hid (HCP.out hf)
    clear hf h
    go_wp2_with fail
    refine (HCP.out _ (up_box hbX)).mono ?_
    rintro e w3 ⟨v3, rfl, h3, hb3⟩
    have hbX := bnd_call hbX (by simp) hb3
    have h3 := h3.toSl itmS
    have HT := Lib.hid (HTO.out v3 _ (up_box hbX) h3)
    obtain ⟨A3, c3, rfl, -⟩ := h3
    clear hb3 z0 z1 z2 z3 zl
    obtain ⟨z0, z1, z2, z3, zl⟩ := KC.out _ hbX
    go_wp2_with fail
    refine HT.out.mono ?_
    rintro e w4 ⟨rfl, hb4⟩
    have hbX := bnd_call hbX (by simp) hb4
    have hbY := hbX.alloc (by have := hbX.size; simp at this; omega) (datC (totA l) (totB l))
    have KD := Lib.hid (fun (W : World) (hW : Below (w4.heap.size + 1) (w4.alloc (datC (totA l) (totB l))) W) => (have hd := (hW.block w4.heap.size (by simp)).trans (heap_newA w4 (datC (totA l) (totB l))); have hc := dat_cells hd; ⟨hc.1, hc.2.1, hc.2.2.2.2⟩ : W.cell? ⟨w4.heap.size, 0, none⟩ = some (.int .i64 (totA l)) ∧ W.cell? ⟨w4.heap.size, 1, none⟩ = some (.int .i64 (totB l)) ∧ w4.heap.size < W.heap.size))
    have hbD : Below (w4.heap.size + 1) (w4.alloc (datC (totA l) (totB l))) (w4.alloc (datC (totA l) (totB l))) := Below.refl _ _
    clear hb4 HT z0 z1 z2 z3 zl
    obtain ⟨z0, z1, z2, z3, zl⟩ := KC.out _ hbY
    go_wp2_with fail
    refine (HCP.out _ (up_box hbY)).mono ?_
    rintro e w5 ⟨v5, rfl, h5, hb5⟩
    have hbD := bnd_call hbD (by simp) hb5
    have hbX := bnd_call hbY (by simp) hb5
    have h5 := h5.toSl itmS
    have HC := Lib.hid (HCK.out v5 _ (up_box hbX) h5)
    obtain ⟨A5, c5, rfl, -⟩ := h5
    clear hb5 hbY z0 z1 z2 z3 zl
    cases hr : rightB l
    · have HX : totP l = 0 ∧ totE l = 1 := by unfold totP totE; rw [hr]; exact ⟨rfl, rfl⟩
      have hcw := chkF_wrong hr
      have hcn : ((chkF l).2 != 0) = true := by simpa using hcw
      obtain ⟨z0, z1, z2, z3, zl⟩ := KC.out _ hbX
      rw [HX.1, HX.2]
      clear hr HX
      go_wp2_with fail
      refine HC.out.mono ?_
      rintro e w6 ⟨rfl, hb6⟩
      have hbX := bnd_call hbX (by simp) hb6
      go_wp2
      go_ret
      exact ⟨rfl, up_box hbX⟩
    · have HX : totE l = 0 := by unfold totE; rw [hr]; rfl
      have HP : totP l = sumP l.items := by unfold totP; rw [hr]; rfl
      have hok := right_ok hr
      have hck := chkF_right hr
      have HM := Lib.hid (any_min hr)
      have HSN := Lib.hid (fun (k : Nat) (x : Item) (hx : l.items[k]? = some x) => And.intro (sumP_snoc hx) (And.intro (anyF_snoc (totA l) hx) (anyL_snoc (totB l) hx)))
      have HSL := Lib.hid (fun (k : Nat) => sumP_le (l.items.take k) (fun x hx => hok.item x (List.mem_of_mem_take hx)))
      have HSM := Lib.hid (fun (x : Item) (hx : x ∈ l.items) => (hok.item x hx).pages)
      have hsx := sumP_le l.items hok.item
      have hlen := hok.len
      unfold chkP at HC
      rw [hck] at HC
      rw [HX, HP]
      obtain ⟨z0, z1, z2, z3, zl⟩ := KC.out _ hbX
      clear hr HX HP hok hck
      go_wp2_with fail
      refine HC.out.mono ?_
      rintro e w6 ⟨rfl, hb6⟩
      have hbX := bnd_call hbX (by simp) hb6
      have hbD := bnd_call hbD (by simp) hb6
      clear hb6 z0 z1 z2 z3 zl HC
      obtain ⟨z0, z1, z2, z3, zl⟩ := KC.out _ hbX
      go_wp2
      clear z0 z1 z2 z3 zl
      go_loopw [3, 8, 9, 54] (fun n f g i wr => ∃ k : Nat, k ≤ l.items.length ∧ i = .int .i64 k ∧ n = .int .i64 (sumP l.items - sumP (l.items.take k)) ∧ f = .bool (anyF (totA l) (l.items.take k)) ∧ g = .bool (anyL (totB l) (l.items.take k)) ∧ Below w6.heap.size w6 wr) (fun _ _ _ i _ => l.items.length - (intOf i).toNat)
      case atStart => exact ⟨0, Nat.zero_le _, rfl, by rw [List.take_zero, sumP_nil, Int.sub_zero], rfl, rfl, Below.refl _ _⟩
      case round =>
        obtain ⟨k, hk, rfl, rfl, rfl, rfl, hbr⟩ := hrel
        have hbXr := hbX.trans (hbr.mono (by have := hbX.size; simp at this; omega))
        have hbDr := hbD.trans (hbr.mono (by have := hbD.size; simp at this; omega))
        by_cases hlt : k < l.items.length
        · obtain ⟨x, hx⟩ := get_at l.items hlt
          obtain ⟨b, off, rfl, hbB, g0, g1, g2, g3, g4, g5, g6⟩ := HIT.out k x hx _ (up_box hbXr)
          have hbw : b < wr.heap.size := by have : b < B := hbB; have := (up_box hbXr).size; omega
          obtain ⟨s1, s2, s3⟩ := HSN.out k x hx
          have hpg := HSM.out x (List.mem_of_getElem? hx)
          have hmm := HM.out.2.2 x (List.mem_of_getElem? hx)
          have hsl := HSL.out k
          have htl : (l.items.take k).length ≤ 128 := by rw [List.length_take]; omega
          have HS := Lib.hid (And.intro s1 (And.intro s2 s3))
          have hki : (k : Int) < (l.items.length : Int) := by omega
          obtain ⟨d0, d1, dl⟩ := KD.out _ hbDr
          clear s1 s2 s3 hx
          generalize sumP (l.items.take k) = sp at *
          generalize sumP l.items = sa at *
          generalize anyF (totA l) (l.items.take k) = f at *
          generalize anyL (totB l) (l.items.take k) = g at *
          generalize totA l = mn at *
          generalize totB l = mx at *
          have hwn : IntKind.i64.wrap (sa - sp - x.pages) = sa - sp - x.pages := IntWalk.i64_in _ (by omega)
          have n1 : decide (x.first < mn) = false := by simp; omega
          have n2 : decide (mx < x.last) = false := by simp; omega
          have hba := hbr.alloc hbr.size (itmC x)
          have HBA := Lib.hid hba
          clear hba hsl hmm hpg
          cases f <;> cases g
          all_goals
            go_wp2
            go_quiet (fail)
            go_wp2
            go_roundw
            case rel =>
              refine ⟨k + 1, by omega, by go_num, by rw [HS.out.1]; congr 1; omega, by rw [HS.out.2.1]; simp [beq_dec], by rw [HS.out.2.2]; simp [beq_dec], ?_⟩
              exact below_drewN HBA.out _
            case measure => simp [intOf]; omega
        · have hk2 : k = l.items.length := by omega
          subst hk2
          rw [List.take_length] at *
          have h1 := HM.out.1
          have h2 := HM.out.2.1
          have hki : ¬ (l.items.length : Int) < (l.items.length : Int) := by omega
          rw [h1, h2, Int.sub_self]
          clear h1 h2
          go_wp2
          go_ret
          exact ⟨rfl, up_box hbXr⟩
end Go.Proofs.YtenaifmkejmdaaaDoor
