/- The reference: Document. -/
import Derived.Test.YtbmlnflacdockaaDoorPrW
namespace Go.Proofs.YtbmlnflacdockaaDoor
open Go.RowKit

set_option maxRecDepth 100000 in
set_option maxHeartbeats 4000000 in
theorem rtag_c (s : ByteArray) (hs : s.size ≤ 4611686018427387904) (w : World) :
    Calls Tryd.prog 84 #[.string s] w fun e w' => e = .returned (.bool (tagB s)) ∧ w' = w := by
  have HE := Lib.hid (show letF s = 0 + letG (s.data.toList.drop 0) by rw [Nat.zero_add]; rfl)
  go_enter Tryd.func84, Tryd.ntmps84
  go_wp2
  go_loop [3] (fun v => ∃ k : Nat, k ≤ s.size ∧ v = .int .i64 k ∧ Hid (letF s = k + letG (s.data.toList.drop k))) (fun v => s.size - (intOf v).toNat)
  case atStart => exact ⟨0, Nat.zero_le _, rfl, HE⟩
  case round =>
    clear HE
    obtain ⟨k, hk, rfl, HS⟩ := hrel
    by_cases hlt : k < s.size
    · have hgd : s.data.toList[k]? = some s[k] := by
        rw [Array.getElem?_toList, Array.getElem?_eq_getElem (h := hlt)]
        rfl
      have HN := Lib.hid (show letF s = k + if 97 ≤ s[k].toNat ∧ s[k].toNat ≤ 122 then letG (s.data.toList.drop (k + 1)) + 1 else 0 by rw [HS.out, drop_at hgd, letG_cons])
      clear hgd
      by_cases h1 : s[k].toNat < 97
      · have d1 : decide ((s[k].toNat : Int) < 97) = true := decide_eq_true (by omega)
        have HM := Lib.hid (show tagB s = false by
          have : letF s = k := by rw [HN.out, if_neg (by omega)]; omega
          unfold tagB
          rw [this, decide_eq_false (p := k = s.size) (by omega)]; simp)
        clear h1 HN HS
        go_wp2
        go_ret
        exact ⟨ret_bool HM.out.symm, rfl⟩
      · have d1 : decide ((s[k].toNat : Int) < 97) = false := decide_eq_false (by omega)
        by_cases h2 : 122 < s[k].toNat
        · have d2 : decide ((122 : Int) < (s[k].toNat : Int)) = true := decide_eq_true (by omega)
          have HM := Lib.hid (show tagB s = false by
            have : letF s = k := by rw [HN.out, if_neg (by omega)]; omega
            unfold tagB
            rw [this, decide_eq_false (p := k = s.size) (by omega)]; simp)
          clear h1 h2 HN HS
          go_wp2
          go_ret
          exact ⟨ret_bool HM.out.symm, rfl⟩
        · have d2 : decide ((122 : Int) < (s[k].toNat : Int)) = false := decide_eq_false (by omega)
          have HM := Lib.hid (show letF s = (k + 1) + letG (s.data.toList.drop (k + 1)) by rw [HN.out, if_pos (by omega)]; omega)
          clear h1 h2 HN HS
          go_wp2
          go_roundw
          case rel => exact ⟨k + 1, by omega, by go_num, HM⟩
          case measure => simp [intOf]; omega
    · have HM := Lib.hid (show tagB s = (decide (1 ≤ s.size) && decide (s.size ≤ 16)) by
        have : letF s = s.size := by rw [HS.out, List.drop_of_length_le (by rw [← Lib.size_eq]; omega)]; simp [letG]; omega
        unfold tagB
        rw [this]; simp)
      by_cases g1 : 1 ≤ s.size
      · have d1 : decide ((1 : Int) ≤ (s.size : Int)) = true := decide_eq_true (by omega)
        have HR := Lib.hid (show tagB s = decide ((s.size : Int) ≤ 16) by rw [HM.out, decide_eq_true g1, Bool.true_and, decide_eq_decide]; omega)
        clear g1 HM HS
        go_wp2
        go_ret
        exact ⟨ret_bool HR.out.symm, rfl⟩
      · have d1 : decide ((1 : Int) ≤ (s.size : Int)) = false := decide_eq_false (by omega)
        have HR := Lib.hid (show tagB s = false by rw [HM.out, decide_eq_false g1]; rfl)
        clear g1 HM HS
        go_wp2
        go_ret
        exact ⟨ret_bool HR.out.symm, rfl⟩
def fltB (b : Int) (x : Node) : Int :=
  if x.depth < 0 ∨ b + 1 < x.depth ∨ 12 < x.depth then 5 else if tagB x.tag = false then 4 else if 4096 < x.text.size then 8 else 0
def befN (p : Option Node) : Int := match p with
  | none => -1
  | some q => q.depth
theorem fltB_eq {p : Option Node} (x : Node) (hp : ∀ q, p = some q → 0 ≤ q.depth ∧ q.depth ≤ 12) : fltB (befN p) x = fltF p x := by
  unfold fltB fltF
  have : (x.depth < 0 ∨ befN p + 1 < x.depth ∨ 12 < x.depth) ↔ (x.depth < 0 ∨ mostF p < x.depth) := by
    unfold befN mostF
    cases p with
    | none => simp only; omega
    | some q => have := hp q rfl; simp only; omega
  by_cases h : x.depth < 0 ∨ mostF p < x.depth
  · rw [if_pos h, if_pos (this.2 h)]
  · rw [if_neg h, if_neg (fun c => h (this.1 c))]
set_option maxRecDepth 100000 in
set_option maxHeartbeats 4000000 in
theorem rfault_c (x : Node) (b : Int) (hb1 : -1 ≤ b) (hb2 : b ≤ 12) (hx : x.tag.size ≤ 4611686018427387904) (w : World) :
    Calls Tryd.prog 71 #[.agg #[.int .i64 x.depth, .string x.tag, .string x.text], .int .i64 b] w fun e w' => e = .returned (.int .i64 (fltB b x)) ∧ Below w.heap.size w w' := by
  have HT := Lib.hid (fun (W : World) => rtag_c x.tag hx W)
  have bx := (Below.refl w.heap.size w).alloc (Nat.le_refl _) (.cells #[.int .i64 x.depth, .string x.tag, .string x.text] 30)
  have hw1 : IntKind.i64.wrap (b + 1) = b + 1 := IntWalk.i64_in _ (by omega)
  by_cases h1 : x.depth < 0 ∨ b + 1 < x.depth ∨ 12 < x.depth
  · have HE := Lib.hid (show fltB b x = 5 by unfold fltB; rw [if_pos h1])
    have HC := Lib.hid h1
    clear h1
    go_enter Tryd.func71, Tryd.ntmps71
    go_wp2_with fail
    all_goals first
      | (go_ret; exact ⟨ret_int HE.out.symm, bx⟩)
      | (exfalso; have := HC.out; omega)
  · have d1 : decide (x.depth < 0) = false := decide_eq_false (by omega)
    have d2 : decide (b + 1 < x.depth) = false := decide_eq_false (by omega)
    have d3 : decide (12 < x.depth) = false := decide_eq_false (by omega)
    have HF1 := Lib.hid (show fltB b x = if tagB x.tag = false then 4 else if 4096 < x.text.size then 8 else 0 by unfold fltB; rw [if_neg h1])
    clear h1
    cases ht : tagB x.tag
    · have HE := Lib.hid (show fltB b x = 4 by rw [HF1.out, if_pos ht])
      rw [ht] at HT
      clear ht HF1
      go_enter Tryd.func71, Tryd.ntmps71
      go_wp2_with fail
      refine (HT.out _).mono ?_
      rintro e w1 ⟨rfl, rfl⟩
      go_wp2
      go_ret
      exact ⟨ret_int HE.out.symm, bx⟩
    · rw [ht] at HT
      by_cases h3 : 4096 < x.text.size
      · have d4 : decide ((4096 : Int) < (x.text.size : Int)) = true := decide_eq_true (by omega)
        have HE := Lib.hid (show fltB b x = 8 by rw [HF1.out, if_neg (by simp [ht]), if_pos h3])
        clear ht HF1 h3
        go_enter Tryd.func71, Tryd.ntmps71
        go_wp2_with fail
        refine (HT.out _).mono ?_
        rintro e w1 ⟨rfl, rfl⟩
        go_wp2
        go_ret
        exact ⟨ret_int HE.out.symm, bx⟩
      · have d4 : decide ((4096 : Int) < (x.text.size : Int)) = false := decide_eq_false (by omega)
        have HE := Lib.hid (show fltB b x = 0 by rw [HF1.out, if_neg (by simp [ht]), if_neg h3])
        clear ht HF1 h3
        go_enter Tryd.func71, Tryd.ntmps71
        go_wp2_with fail
        refine (HT.out _).mono ?_
        rintro e w1 ⟨rfl, rfl⟩
        go_wp2
        go_ret
        exact ⟨ret_int HE.out.symm, bx⟩
set_option maxRecDepth 100000 in
set_option maxHeartbeats 8000000 in
theorem rfind_c (xs : List Node) (v : Value) (w : World) (B : Nat) (hB : B ≤ w.heap.size) (h : Nodes w B xs v) (hz : ∀ x ∈ xs, x.tag.size ≤ 4611686018427387904) :
    Calls Tryd.prog 57 #[v] w fun e w' => (∃ i : Int, e = .returned (.tuple #[.int .i64 i, .int .i64 (fltE xs)])) ∧ Below w.heap.size w w' := by
  obtain ⟨A, ca, rfl, hc1, hc2, _⟩ := id h
  have HZ := Lib.hid hz
  clear hz
  by_cases hs : 512 < xs.length
  · have HE := Lib.hid (show fltE xs = 8 by unfold fltE; rw [if_pos hs])
    have hd : decide ((512 : Int) < (xs.length : Int)) = true := decide_eq_true (by omega)
    clear hs
    go_enter Tryd.func57, Tryd.ntmps57
    go_wp2
    go_ret2
    exact ⟨⟨-1, by rw [HE.out]; rfl⟩, Below.refl _ _⟩
  · have hd : decide ((512 : Int) < (xs.length : Int)) = false := decide_eq_false (by omega)
    have HE := Lib.hid (show fltE xs = fltG none (xs.drop 0) by unfold fltE; rw [if_neg hs]; rfl)
    clear hs
    go_enter Tryd.func57, Tryd.ntmps57
    go_wp2
    go_loopw [4, 5] (fun v4 v5 wr => ∃ (k : Nat) (p : Option Node), k ≤ xs.length ∧ v5 = .int .i64 k ∧ v4 = .int .i64 (befN p) ∧ (∀ q, p = some q → 0 ≤ q.depth ∧ q.depth ≤ 12) ∧ Hid (fltE xs = fltG p (xs.drop k)) ∧ Below w.heap.size w wr) (fun _ v5 _ => xs.length - (intOf v5).toNat)
    case atStart => exact ⟨0, none, Nat.zero_le _, rfl, rfl, (fun q hq => (by cases hq)), HE, Below.refl _ _⟩
    case round =>
      clear HE
      obtain ⟨k, p, hk, rfl, rfl, hpq, HS, Br⟩ := hrel
      have hsr := Br.size
      by_cases hlt : k < xs.length
      · obtain ⟨x, hx⟩ := get_at xs hlt
        obtain ⟨b, off, rfl, hbB, g0, g1, g2⟩ := Nodes.at_ (h.below nodS (Br.mono hB)) hx
        have hbw : b < wr.heap.size := by omega
        have hbe : -1 ≤ befN p ∧ befN p ≤ 12 := by
          cases p with
          | none => exact ⟨by decide, by decide⟩
          | some q => have := hpq q rfl; unfold befN; simp only; omega
        have HF := Lib.hid (fun (W : World) => rfault_c x (befN p) hbe.1 hbe.2 (HZ.out x (List.mem_of_getElem? hx)) W)
        rw [fltB_eq x hpq] at HF
        have HN := Lib.hid (show fltE xs = if fltF p x = 0 then fltG (some x) (xs.drop (k + 1)) else fltF p x by rw [HS.out, drop_at hx, fltG_cons])
        have HBE := Lib.hid (show befN (some x) = x.depth from rfl)
        generalize befN p = bp at *
        by_cases h0 : fltF p x = 0
        · have HD := Lib.hid (fltF_deep h0)
          have HM := Lib.hid (show fltE xs = fltG (some x) (xs.drop (k + 1)) by rw [HN.out, if_pos h0])
          rw [h0] at HF
          clear h0 HN HS hx hbe
          go_wp2_with fail
          refine (HF.out _).mono ?_
          rintro e w1 ⟨rfl, hb1⟩
          have k0 := (hb1.cell (p := ⟨b, off + k * 3, none⟩) hbw).trans g0
          have k1 := (hb1.cell (p := ⟨b, off + k * 3 + 1, none⟩) hbw).trans g1
          have k2 := (hb1.cell (p := ⟨b, off + k * 3 + 2, none⟩) hbw).trans g2
          go_wp2
          go_roundw
          case rel => exact ⟨k + 1, some x, by omega, by go_num, by rw [HBE.out], (fun q hq => (by injection hq with hq; subst hq; exact HD.out)), HM, Br.trans (hb1.mono hsr)⟩
          case measure => simp [intOf]; omega
        · have HM := Lib.hid (show fltE xs = fltF p x by rw [HN.out, if_neg h0])
          obtain ⟨n1, n2⟩ := ne_bool h0
          clear h0 HN HS hx hbe
          go_wp2_with fail
          refine (HF.out _).mono ?_
          rintro e w1 ⟨rfl, hb1⟩
          go_wp2
          go_ret2
          exact ⟨⟨_, by rw [HM.out]; rfl⟩, Br.trans (hb1.mono hsr)⟩
      · have HM := Lib.hid (show fltE xs = 0 by rw [HS.out, List.drop_of_length_le (by omega)]; cases p <;> rfl)
        go_wp2
        go_ret2
        exact ⟨⟨_, by rw [HM.out]; rfl⟩, Br⟩
set_option maxHeartbeats 2000000 in
theorem rcheck_c (xs : List Node) (v : Value) (w : World) (B : Nat) (hB : B ≤ w.heap.size) (h : Nodes w B xs v) (hz : ∀ x ∈ xs, x.tag.size ≤ 4611686018427387904) :
    Calls Tryd.prog 35 #[v] w fun e w' => e = .returned (.int .i64 (fltE xs)) ∧ Below w.heap.size w w' := by
  have HF := Lib.hid (rfind_c xs v w B hB h hz)
  clear hz
  go_enter Tryd.func35, Tryd.ntmps35
  go_wp2_with fail
  refine HF.out.mono ?_
  rintro e w1 ⟨⟨i, rfl⟩, hb1⟩
  go_wp2
  go_ret
  exact ⟨rfl, hb1⟩
open Go.RowKit

set_option maxRecDepth 100000 in
set_option maxHeartbeats 8000000 in
theorem rdoc_c (u : Int) (lang : ByteArray) (ss : List Sect) (v : Value) (w : World) (B : Nat) (hB : B ≤ w.heap.size) (h : Sects w B ss v) (hn : ∀ k, (nodesF (ss.take k)).length ≤ 1000000) (hz : ∀ x ∈ nodesF ss, x.tag.size ≤ 4611686018427387904) :
    Calls Tryd.prog 10 #[.agg #[.int .i64 u, .string lang, v]] w fun e w' => ∃ v', e = .returned (.tuple #[v', .int .i64 (fltE (nodesF ss))]) ∧ OwnRep 3 (flat Node.enc) 30 w.heap.size w' (docL ss) v' ∧ Below w.heap.size w w' := by
  have HN := Lib.hid hn
  have HZ := Lib.hid hz
  clear hn hz
  obtain ⟨A, ca, rfl, hc1, hc2, _⟩ := id h
  have b1 : Below w.heap.size w (w.alloc (.cells #[.int .i64 u, .string lang, .slice A ss.length ca] 24)) := (Below.refl _ _).alloc (Nat.le_refl _) _
  have KC := Lib.hid (fun (W : World) (hW : Below (w.heap.size + 1) (w.alloc (.cells #[.int .i64 u, .string lang, .slice A ss.length ca] 24)) W) => (⟨(hW.cell (p := ⟨w.heap.size, 2, none⟩) (by simp)).trans (by simp), by have := hW.size; simp at this; omega⟩ : W.cell? ⟨w.heap.size, 2, none⟩ = some (.slice A ss.length ca) ∧ w.heap.size < W.heap.size))
  go_enter Tryd.func10, Tryd.ntmps10
  go_wp2
  go_loopw [4, 5] (fun v4 v5 wr => ∃ k : Nat, k ≤ ss.length ∧ v5 = .int .i64 k ∧ OwnRep 3 (flat Node.enc) 30 (w.heap.size + 1) wr (nodesF (ss.take k)) v4 ∧ Below (w.heap.size + 1) (w.alloc (.cells #[.int .i64 u, .string lang, .slice A ss.length ca] 24)) wr) (fun _ v5 _ => ss.length - (intOf v5).toNat)
  case atStart => exact ⟨0, Nat.zero_le _, rfl, OwnRep.nil_, Below.refl _ _⟩
  case round =>
    obtain ⟨k, hk, rfl, hown, hbX⟩ := hrel
    have Br := b1.trans (hbX.mono (Nat.le_succ _))
    have hsr := Br.size
    obtain ⟨z2, zl⟩ := KC.out _ hbX
    by_cases hlt : k < ss.length
    · obtain ⟨x, hx⟩ := get_at ss hlt
      have HX := Lib.hid (nodes_succ hx)
      obtain ⟨b, off, vn, rfl, hbB, g0, g1, g2, hvn⟩ := Sects.at_ (h.below secS (Br.mono hB)) hx
      have hbw : b < wr.heap.size := by omega
      obtain ⟨An, cn, rfl, -⟩ := id hvn
      clear hx
      have hlo := hown.own_lt
      have hki0 : (0 : Int) ≤ (k : Int) := by omega
      have hki1 : (k : Int) < (ss.length : Int) := by omega
      have hnx : (nodesF (ss.take k)).length + x.nodes.length ≤ 4294967296 := by
        have := HN.out (k + 1)
        rw [HX.out, List.length_append] at this
        omega
      have sF : ∀ b', b' < B → b' < wr.heap.size ∧ u4.ownBlock ≠ some b' := fun b' hb' => ⟨by omega, fun e => by have := (hlo b' e).1; omega⟩
      go_wp2_with (at_builtin; refine stop_intro ?_)
      refine stop_elim ?_
      refine wpList_append_rep rfl nodS nodE_ (w.heap.size + 1) (.tmp 14) (.tmp 20) rfl rfl hown rfl (ys := x.nodes) (F := fun b' => b' < B) hvn sF hnx (by decide) (by omega) ?_
      intro v6 w6 hown6 hg6 hat6
      have b6 := hbX.grown hg6 (by omega) (fun k hk => (hlo k hk).1)
      rw [← HX.out] at hown6
      obtain ⟨j2, jl⟩ := KC.out _ b6
      clear z2 zl
      go_wp2
      go_roundw
      case rel => exact ⟨k + 1, by omega, by go_num, hown6, b6⟩
      case measure => simp [intOf]; omega
    · have HR := Lib.hid (show ss.take k = ss from List.take_of_length_le (by omega))
      rw [HR.out] at hown
      have hcs := hown.toSl nodS
      have HM := Lib.hid (rcheck_c (nodesF ss) u4 wr wr.heap.size (Nat.le_refl _) hcs HZ.out)
      obtain ⟨A4, c4, rfl, -⟩ := id hcs
      by_cases h0 : fltE (nodesF ss) = 0
      · have HE := Lib.hid h0
        have HD := Lib.hid (show docL ss = nodesF ss by unfold docL; rw [if_pos h0])
        rw [h0] at HM
        clear h0 hcs
        go_wp2_with fail
        refine HM.out.mono ?_
        rintro e w1 ⟨rfl, hb1⟩
        go_wp2
        go_ret2
        exact ⟨_, by rw [HE.out]; rfl, by rw [HD.out]; exact (hown.below nodS hb1).base_le (Nat.le_succ _), Br.trans (hb1.mono hsr)⟩
      · obtain ⟨n1, n2⟩ := ne_bool h0
        have HH := Lib.hid (show docL ss = [] by unfold docL; rw [if_neg h0])
        clear h0 hcs
        go_wp2_with fail
        refine HM.out.mono ?_
        rintro e w1 ⟨rfl, hb1⟩
        go_wp2
        go_ret2
        exact ⟨_, rfl, by rw [HH.out]; exact OwnRep.nil_, Br.trans (hb1.mono hsr)⟩
end Go.Proofs.YtbmlnflacdockaaDoor
