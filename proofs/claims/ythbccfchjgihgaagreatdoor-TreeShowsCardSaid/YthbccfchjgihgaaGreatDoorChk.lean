/- The program: Check, right. -/
import Derived.Test.YthbccfchjgihgaaGreatDoorDep
import Derived.Test.YthbccfchjgihgaaGreatDoorSeq
namespace Go.Proofs.YthbccfchjgihgaaGreatDoor
open Go.RowKit

theorem ints_form {w : World} {F : Nat → Prop} {xs : List Int} {v : Value} (h : SlRep 1 (flat intEnc) w F xs v) (h0 : 0 < xs.length) : ∃ b off c, v = .slice (some ⟨b, off, none⟩) xs.length c ∧ ∀ j, j < xs.length → w.cell? ⟨b, off + j, none⟩ = some (.int .i64 (xs.getD j 0)) := by
  obtain ⟨A, c, rfl, -⟩ := id h
  obtain ⟨x, hx⟩ := get_at xs h0
  obtain ⟨b, off, rfl, -, -⟩ := Ints.at_ h hx
  refine ⟨b, off, c, rfl, fun j hj => ?_⟩
  obtain ⟨y, hy⟩ := get_at xs hj
  obtain ⟨b', off', e, -, g⟩ := Ints.at_ h hy
  injection e with e
  injection e with e1 e2
  subst e1 e2
  rw [g, List.getD_eq_getElem?_getD, hy]
  rfl
theorem eqInts_c (xs ys : List Int) (v v' : Value) (w : World) (F F' : Nat → Prop) (h : SlRep 1 (flat intEnc) w F xs v) (h' : SlRep 1 (flat intEnc) w F' ys v') :
    Calls Tryz.prog 24 #[v, v'] w fun e w' => e = .returned (.bool (decide (xs = ys))) ∧ Below w.heap.size w w' := by
  by_cases hl : xs.length = ys.length
  · rcases Nat.eq_zero_or_pos xs.length with h0 | h0
    · have hx : xs = [] := List.eq_nil_of_length_eq_zero h0
      have hy : ys = [] := List.eq_nil_of_length_eq_zero (by omega)
      subst hx hy
      obtain ⟨A, c, rfl, -⟩ := h
      obtain ⟨A', c', rfl, -⟩ := h'
      refine (Tryz.slices_Equal_int_empty A A' c 0 c' w (by decide)).mono ?_
      rintro e w' ⟨rfl, rfl⟩
      exact ⟨rfl, Below.refl _ _⟩
    · have hc := (by obtain ⟨A, c, e, h1, h2, _⟩ := id h; exact Nat.le_trans h1 h2 : xs.length ≤ 9223372036854775807)
      obtain ⟨b, off, c, rfl, g⟩ := ints_form h h0
      obtain ⟨b', off', c', rfl, g'⟩ := ints_form h' (by omega)
      refine (Tryz.slices_Equal_int b off xs.length c b' off' ys.length c' xs ys w (Nat.le_refl _) (Nat.le_refl _) hc (by omega) g g').mono ?_
      rintro e w' ⟨rfl, q, rfl⟩
      refine ⟨ret_bool ?_, below_drewN (Below.refl _ _) _⟩
      rw [List.take_length, List.take_length, Bool.eq_iff_iff]
      simp
  · obtain ⟨A, c, rfl, -⟩ := h
    obtain ⟨A', c', rfl, -⟩ := h'
    refine (Tryz.slices_Equal_int_lens A A' xs.length c ys.length c' w hl).mono ?_
    rintro e w' ⟨rfl, rfl⟩
    exact ⟨ret_bool (by rw [decide_eq_false (fun e => hl (by rw [e]))]), Below.refl _ _⟩
theorem kidsW_snoc {l : List Brn} {k : Nat} {x : Brn} (p : Int) (h : l[k]? = some x) : kidsW (l.take (k + 1)) p = if x.parent = p then kidsW (l.take k) p ++ [x.id] else kidsW (l.take k) p := by
  unfold kidsW
  rw [take_at h, List.filter_append]
  by_cases hp : x.parent = p
  · rw [if_pos hp]; simp [hp]
  · rw [if_neg hp]; simp [hp]
theorem kidsW_len (l : List Brn) (p : Int) : (kidsW l p).length ≤ l.length := by
  unfold kidsW
  rw [List.length_map]
  exact List.length_filter_le _ _
set_option maxRecDepth 100000 in
set_option maxHeartbeats 8000000 in
theorem just_c (t : Tre) (p : Int) (ks : List Int) (hn : t.brs.length ≤ 100000) (hk : ks.length ≤ 100000) (vr vb vk : Value) (w : World) (B : Nat) (hB : B ≤ w.heap.size) (h : TreRep w B t vr vb) (hv : Ints w B ks vk) :
    Calls Tryz.prog 45 #[treV vr vb, .int .i64 p, vk] w fun e w' => e = .returned (.bool (justB t.brs p ks)) ∧ Below w.heap.size w w' := by
  have b1 := tre_new w vr vb
  obtain ⟨Ar, cr, rfl, -⟩ := id h.tops
  obtain ⟨A, ca, rfl, hc1, hc2, _⟩ := id h.brs
  have KC := Lib.hid (fun (W : World) (hW : Below (w.heap.size + 1) (w.alloc (treC (.slice Ar t.roots.length cr) (.slice A t.brs.length ca))) W) => treW_at hW)
  have HE := Lib.hid (show justB t.brs p ks = decide (sortI ks = kidsW t.brs p) from rfl)
  have HBR := Lib.hid (fun (W : World) (hW : Below w.heap.size w W) => h.brs.below brnS (hW.mono hB))
  have HVK := Lib.hid (fun (W : World) (hW : Below w.heap.size w W) => hv.below intS (hW.mono hB))
  have HKL := Lib.hid (fun k => Nat.le_trans (kidsW_len (t.brs.take k) p) (List.length_take_le k t.brs))
  obtain ⟨Ak, ck, rfl, -⟩ := id hv
  go_enter Tryz.func45, Tryz.ntmps45
  go_wp2
  go_loopw [7, 13] (fun t7 t13 wr => ∃ k : Nat, k ≤ t.brs.length ∧ t13 = .int .i64 k ∧ OwnRep 1 (flat intEnc) 3 (w.heap.size + 1) wr (kidsW (t.brs.take k) p) t7 ∧ Below (w.heap.size + 1) (w.alloc (treC (.slice Ar t.roots.length cr) (.slice A t.brs.length ca))) wr) (fun _ t13 _ => t.brs.length - (intOf t13).toNat)
  case atStart => exact ⟨0, Nat.zero_le _, rfl, OwnRep.nil_, Below.refl _ _⟩
  case round v _ wr _ =>
    obtain ⟨k, hkl, rfl, hown, hbT⟩ := hrel
    obtain ⟨z0, z1, zl⟩ := KC.out _ hbT
    have hsT : w.heap.size + 1 ≤ wr.heap.size := by have := hbT.size; simp at this; omega
    have hbw0 := b1.trans (hbT.mono (Nat.le_succ _))
    by_cases hlt : k < t.brs.length
    · obtain ⟨x, hx⟩ := get_at t.brs hlt
      have HN := Lib.hid (kidsW_snoc p hx)
      obtain ⟨b, off, vx, rfl, hbB, g0, g1, g2, g3, g4, g5, hkr⟩ := Brns.at_ (HBR.out _ hbw0) hx
      obtain ⟨Ax, cx, rfl, -⟩ := id hkr
      have hbw : b < wr.heap.size := by have : b < B := hbB; omega
      have hkk : (k : Int) < (t.brs.length : Int) := by omega
      have hwk : IntKind.i64.wrap ((k : Int) + 1) = (k : Int) + 1 := IntWalk.i64_in _ (by omega)
      have bx := (Below.refl wr.heap.size wr).alloc (Nat.le_refl _) (brnC x (.slice Ax x.kids.length cx))
      have hbY := hbT.trans (bx.mono hsT)
      have hownX := hown.below intS bx
      clear hx hkr
      by_cases hp : x.parent = p
      · have he : (x.parent == p) = true := by simp [hp]
        rw [if_pos hp] at HN
        have hxl := hownX.own_lt
        have HXL := Lib.hid hxl
        have HZ := Lib.hid (show (wr.alloc (brnC x (.slice Ax x.kids.length cx))).heap.size = wr.heap.size + 1 by simp)
        obtain ⟨Ao, co, rfl, -⟩ := id (hown.toSl intS)
        clear hp
        go_wp2_with (at_builtin; refine stop_intro ?_)
        refine stop_elim ?_
        have kS : SlRep 1 (flat intEnc) ((wr.alloc (brnC x (.slice Ax x.kids.length cx))).alloc (.cells (intEnc x.id).toArray 3)) (fun b => False ∨ b = wr.heap.size + 1) [x.id] (.slice (some ⟨wr.heap.size + 1, 0, none⟩) 1 1) := by
          have := SlRep.one_new intS (w := wr.alloc (brnC x (.slice Ax x.kids.length cx))) (t := 3) (F := fun _ => False) (x := x.id) (cs := intEnc x.id) rfl rfl (fun b hb => hb.elim)
          rwa [show (wr.alloc (brnC x (.slice Ax x.kids.length cx))).heap.size = wr.heap.size + 1 by simp] at this
        refine wpList_append_rep (xs := kidsW (t.brs.take k) p) rfl intS intE_ (w.heap.size + 1) (.tmp 22) (.tmp 26) rfl rfl (hownX.below intS ((Below.refl _ _).alloc (Nat.le_refl _) (.cells (intEnc x.id).toArray 3))) rfl (ys := [x.id]) kS (fun b hb => ?_) ?_ (by decide) ?_ ?_
        · rcases hb with hb | rfl
          · exact hb.elim
          · exact ⟨by simp, fun e => by have := (HXL.out _ e).2; rw [HZ.out] at this; omega⟩
        · have := HKL.out k; simp; omega
        · simp; omega
        intro v6 w6 hown6 hg6 hat6
        have hb6 : Below (w.heap.size + 1) (w.alloc (treC (.slice Ar t.roots.length cr) (.slice (some ⟨b, off, none⟩) t.brs.length ca))) w6 := (hbY.alloc (by simp; omega) _).grown hg6 (by simp; omega) (fun k hk => (HXL.out _ hk).1)
        rw [← HN.out] at hown6
        clear hg6 hat6
        go_wp2
        go_roundw
        case rel => exact ⟨k + 1, by omega, by go_num, hown6, hb6⟩
        case measure => simp [intOf]; omega
      · have he : (x.parent == p) = false := by simpa using hp
        rw [if_neg hp] at HN
        rw [← HN.out] at hownX
        clear hp
        go_wp2
        go_roundw
        case rel => exact ⟨k + 1, by omega, by go_num, hownX, hbY⟩
        case measure => simp [intOf]; omega
    · have HL := Lib.hid (show t.brs.take k = t.brs from List.take_of_length_le (by omega))
      have hkk : ¬ (k : Int) < (t.brs.length : Int) := by omega
      rw [HL.out] at hown
      have HVA := Lib.hid (values_c (.slice Ak ks.length ck) wr ⟨_, _, _, rfl⟩)
      have HW := Lib.hid hown
      clear hown
      go_wp2_with fail
      refine HVA.out.mono ?_
      rintro e w2 ⟨rfl, hw2⟩
      have hb2 : Below wr.heap.size wr w2 := by rw [← hw2]; exact (Below.refl _ _).alloc (Nat.le_refl _) _
      have hbox : w2.cell? ⟨wr.heap.size, 0, none⟩ = some (.slice Ak ks.length ck) := by rw [← hw2]; simp
      have hs2 : wr.heap.size < w2.heap.size := by rw [← hw2]; simp
      have HSO := Lib.hid (sorted_c 122 #[.pointer (some ⟨wr.heap.size, 0, none⟩)] (fun _ _ => by kernel_rfl) ks w2 (by omega) (values1_c ks _ wr.heap.size w2 B (by omega) (HVK.out _ (hbw0.trans (hb2.mono hbw0.size))) hs2 hbox))
      clear hw2
      go_wp2_with fail
      refine HSO.out.mono ?_
      rintro e w3 ⟨vs, rfl, hown3, hb3⟩
      have hw3 := (HW.out.below intS (hb2.trans (hb3.mono hb2.size))).toSl intS
      have HEQ := Lib.hid (eqInts_c (sortI ks) (kidsW t.brs p) _ _ w3 _ _ (hown3.toSl intS) hw3)
      have hbE := hbw0.trans ((hb2.trans (hb3.mono hb2.size)).mono hbw0.size)
      clear hown3 hw3 hbox HSO HVA
      go_wp2_with fail
      refine HEQ.out.mono ?_
      rintro e w4 ⟨rfl, hb4⟩
      go_wp2
      go_ret
      exact ⟨ret_bool HE.out.symm, hbE.trans (hb4.mono hbE.size)⟩

def chk3 (t : Tre) : Int × Int := if justB t.brs 0 t.roots = false then (-1, 10) else (passF (fun _ => depthF t.brs) t.brs).getD (-1, 0)
def chk2 (t : Tre) : Int × Int := (passF (fun _ => kidsE t.brs) t.brs).getD (chk3 t)
def chk1 (t : Tre) : Int × Int := (passF (fun _ => placedF t.brs) t.brs).getD (chk2 t)
def chk0 (t : Tre) : Int × Int := (passF aloneF t.brs).getD (chk1 t)
def chkS (t : Tre) : Nat → Int × Int
  | 0 => chk0 t
  | 1 => chk1 t
  | 2 => chk2 t
  | 3 => chk3 t
  | _ => (-1, 0)
theorem chk_is (t : Tre) : chkF t = if 256 < t.brs.length then (-1, 8) else chk0 t := by
  unfold chkF chk0 chk1 chk2 chk3
  cases passF aloneF t.brs <;> cases passF (fun _ => placedF t.brs) t.brs <;> cases passF (fun _ => kidsE t.brs) t.brs <;> cases passF (fun _ => depthF t.brs) t.brs <;> rfl
/-- what may be read of a tree without running out of bounds -/
structure SizT (t : Tre) : Prop where
  brs : t.brs.length ≤ 100000
  tops : t.roots.length ≤ 100000
  kids : ∀ b ∈ t.brs, b.kids.length ≤ 100000
set_option maxRecDepth 100000 in
theorem kids1_c (t : Tre) (hz : SizT t) (i : Nat) (x : Brn) (hx : t.brs[i]? = some x) (vr vb : Value) (w : World) (B : Nat) (hB : B ≤ w.heap.size) (h : TreRep w B t vr vb) :
    Calls Tryz.prog 44 #[treV vr vb, .int .i64 i] w fun e w' => e = .returned (.int .i64 (kidsE t.brs x)) ∧ Below w.heap.size w w' := by
  have hil := lt_of_at hx
  have hii : (i : Int) < (t.brs.length : Int) := by omega
  have hrep := h
  have hxk := hz.kids x (List.mem_of_getElem? hx)
  obtain ⟨Ar, cr, rfl, -⟩ := id h.tops
  obtain ⟨A, ca, rfl, hc1, hc2, _⟩ := id h.brs
  obtain ⟨b, off, vk, rfl, hbB, g0, g1, g2, g3, g4, g5, hkr⟩ := Brns.at_ h.brs hx
  obtain ⟨Ak, ck, rfl, -⟩ := id hkr
  have hbw : b < w.heap.size := by have : b < B := hbB; omega
  have b2 : Below w.heap.size w ((w.alloc (treC (.slice Ar t.roots.length cr) (.slice (some ⟨b, off, none⟩) t.brs.length ca))).alloc (brnC x (.slice Ak x.kids.length ck))) := ((Below.refl _ _).alloc (Nat.le_refl _) _).alloc (by simp) _
  have HJ := Lib.hid (just_c t x.id x.kids hz.brs hxk (.slice Ar t.roots.length cr) (.slice (some ⟨b, off, none⟩) t.brs.length ca) (.slice Ak x.kids.length ck) _ B (Nat.le_trans hB b2.size) (hrep.below (b2.mono hB)) (hkr.below intS (b2.mono hB)))
  have HE := Lib.hid (show kidsE t.brs x = if justB t.brs x.id x.kids = false then 10 else 0 from rfl)
  clear hkr hxk
  go_enter Tryz.func44, Tryz.ntmps44
  go_wp2_with fail
  refine HJ.out.mono ?_
  rintro e w1 ⟨rfl, hb1⟩
  cases hj : justB t.brs x.id x.kids
  all_goals
    go_wp2
    go_ret
    exact ⟨ret_int (by rw [HE.out, hj]; rfl), b2.trans (hb1.mono b2.size)⟩
theorem passG_cons {α : Type} (f : List α → α → Int) (q : List α) (b : α) (r : List α) : passG f q (b :: r) = if f q b ≠ 0 then some ((q.length : Int), f q b) else passG f (q ++ [b]) r := rfl
abbrev fnsC : Obj := .cells #[.func (.func 46) #[] #[], .func (.func 47) #[] #[], .func (.func 44) #[] #[], .func (.func 48) #[] #[]] 68
abbrev ckW (w : World) (vr vb : Value) : World := (w.alloc (treC vr vb)).alloc fnsC
theorem ckW_at {w W : World} {vr vb : Value} (hW : Below (w.heap.size + 2) (ckW w vr vb) W) : W.cell? ⟨w.heap.size, 0, none⟩ = some vr ∧ W.cell? ⟨w.heap.size, 1, none⟩ = some vb ∧ W.cell? ⟨w.heap.size + 1, 0, none⟩ = some (.func (.func 46) #[] #[]) ∧ W.cell? ⟨w.heap.size + 1, 1, none⟩ = some (.func (.func 47) #[] #[]) ∧ W.cell? ⟨w.heap.size + 1, 2, none⟩ = some (.func (.func 44) #[] #[]) ∧ W.cell? ⟨w.heap.size + 1, 3, none⟩ = some (.func (.func 48) #[] #[]) ∧ w.heap.size < W.heap.size ∧ w.heap.size + 1 < W.heap.size := by
  have h0 : (ckW w vr vb).heap[w.heap.size]? = some (treC vr vb) := (Below.heap_alloc _ _ _ (by simp)).trans (heap_newT w _)
  have h1 : (ckW w vr vb).heap[w.heap.size + 1]? = some fnsC := by
    have := heap_newT (w.alloc (treC vr vb)) fnsC
    rwa [show (w.alloc (treC vr vb)).heap.size = w.heap.size + 1 by simp] at this
  have k0 := (hW.block w.heap.size (by omega)).trans h0
  have k1 := (hW.block (w.heap.size + 1) (by omega)).trans h1
  exact ⟨by rw [Lib.cell_of_heap k0]; rfl, by rw [Lib.cell_of_heap k0]; rfl, by rw [Lib.cell_of_heap k1]; rfl, by rw [Lib.cell_of_heap k1]; rfl, by rw [Lib.cell_of_heap k1]; rfl, by rw [Lib.cell_of_heap k1]; rfl, heap_ltT k0, heap_ltT k1⟩
abbrev chkP (t : Tre) : Value := .tuple #[.int .i64 (chkF t).1, .int .i64 (chkF t).2]
theorem ret_chk {t : Tre} {a b : Int} (h : chkF t = (a, b)) : Ending.returned (.tuple #[.int .i64 a, .int .i64 b]) = .returned (chkP t) := by
  show _ = Ending.returned (.tuple #[.int .i64 (chkF t).1, .int .i64 (chkF t).2])
  rw [h]
set_option maxRecDepth 100000 in
set_option maxHeartbeats 8000000 in
theorem check_c (t : Tre) (hz : SizT t) (vr vb : Value) (w : World) (B : Nat) (hB : B ≤ w.heap.size) (h : TreRep w B t vr vb) (hV : VarOk w) :
    Calls Tryz.prog 13 #[treV vr vb] w fun e w' => e = .returned (chkP t) ∧ Below w.heap.size w w' := by
  have b1 := tre_new w vr vb
  have hs2 : (ckW w vr vb).heap.size = w.heap.size + 2 := by simp
  have b2 : Below w.heap.size w (ckW w vr vb) := ((Below.refl _ _).alloc (Nat.le_refl _) _).alloc (by simp) _
  have hrep := h
  obtain ⟨Ar, cr, rfl, -⟩ := id h.tops
  obtain ⟨A, ca, rfl, hc1, hc2, _⟩ := id h.brs
  by_cases h256 : 256 < t.brs.length
  · have HX := Lib.hid (show chkF t = (-1, 8) by rw [chk_is, if_pos h256])
    have hi : (256 : Int) < (t.brs.length : Int) := by omega
    clear h256
    go_enter Tryz.func13, Tryz.ntmps13
    go_wp2
    go_ret2
    exact ⟨ret_chk HX.out, b1⟩
  · have H0 := Lib.hid (show chkF t = chkS t 0 by rw [chk_is, if_neg h256]; rfl)
    have hi : ¬ (256 : Int) < (t.brs.length : Int) := by omega
    have KC := Lib.hid (fun (W : World) (hW : Below (w.heap.size + 2) (ckW w (.slice Ar t.roots.length cr) (.slice A t.brs.length ca)) W) => ckW_at hW)
    have HR := Lib.hid (fun (W : World) (hW : Below w.heap.size w W) => (⟨Nat.le_trans hB hW.size, hrep.below (hW.mono hB), hV.below hW⟩ : B ≤ W.heap.size ∧ TreRep W B t (.slice Ar t.roots.length cr) (.slice A t.brs.length ca) ∧ VarOk W))
    clear h256
    go_enter Tryz.func13, Tryz.ntmps13
    go_wp2
    go_loopw [16] (fun t16 wr => ∃ k : Nat, k ≤ 4 ∧ t16 = .int .i64 k ∧ Hid (chkF t = chkS t k) ∧ (2 ≤ k → Plcd t.brs) ∧ Below (w.heap.size + 2) (ckW w (.slice Ar t.roots.length cr) (.slice A t.brs.length ca)) wr) (fun t16 _ => 4 - (intOf t16).toNat)
    case atStart => exact ⟨0, by omega, rfl, H0, fun h => absurd h (by omega), Below.refl _ _⟩
    case round =>
      clear H0
      obtain ⟨k, hk4, rfl, HS, hpl, hb⟩ := hrel
      obtain ⟨z0, z1, y0, y1, y2, y3, zl, yl⟩ := KC.out _ hb
      have hbw := b2.trans (hb.mono (by omega))
      by_cases hk : k < 4
      · have hki : (k : Int) < 4 := by omega
        obtain ⟨F, f, nxt, hcell, hF, HC, hnext, hpn, -⟩ : ∃ (F : FuncId) (f : List Brn → Brn → Int) (nxt : Int × Int), wr.cell? ⟨w.heap.size + 1, k, none⟩ = some (.func (.func F) #[] #[]) ∧ (∀ (args : Array Value) (W : World), (callFunc F args).run Tryz.prog W = .ok (.enter F args) W) ∧
            Hid (∀ (j : Nat) (x : Brn), t.brs[j]? = some x → ∀ (W : World), Below w.heap.size w W → Calls Tryz.prog F #[treV (.slice Ar t.roots.length cr) (.slice A t.brs.length ca), .int .i64 j] W fun e w' => e = .returned (.int .i64 (f (t.brs.take j) x)) ∧ Below W.heap.size W w') ∧
            Hid (chkS t k = (if k = 3 ∧ justB t.brs 0 t.roots = false then (-1, 10) else (passF f t.brs).getD (chkS t (k + 1)))) ∧ (2 ≤ k + 1 → passF f t.brs = none → Plcd t.brs) ∧ nxt = chkS t (k + 1) := by
          rcases (by omega : k = 0 ∨ k = 1 ∨ k = 2 ∨ k = 3) with rfl | rfl | rfl | rfl
          · exact ⟨_, aloneF, _, y0, fun _ _ => by kernel_rfl, Lib.hid (fun j x hx W hW => alone_c t j x hx _ _ W B (HR.out W hW).1 (HR.out W hW).2.1 (HR.out W hW).2.2), Lib.hid rfl, fun h => absurd h (by omega), rfl⟩
          · exact ⟨_, fun _ => placedF t.brs, _, y1, fun _ _ => by kernel_rfl, Lib.hid (fun j x hx W hW => placed_c t j x hx _ _ W B (HR.out W hW).1 (HR.out W hW).2.1), Lib.hid rfl, fun _ h => placed_none h, rfl⟩
          · exact ⟨_, fun _ => kidsE t.brs, _, y2, fun _ _ => by kernel_rfl, Lib.hid (fun j x hx W hW => kids1_c t hz j x hx _ _ W B (HR.out W hW).1 (HR.out W hW).2.1), Lib.hid rfl, fun _ _ => hpl (by omega), rfl⟩
          · refine ⟨_, fun _ => depthF t.brs, _, y3, fun _ _ => by kernel_rfl, Lib.hid (fun j x hx W hW => depth_c t (hpl (by omega)) hz.brs j x hx _ _ W B (HR.out W hW).1 (HR.out W hW).2.1), Lib.hid ?_, fun _ _ => hpl (by omega), rfl⟩
            show chk3 t = _
            unfold chk3
            by_cases hj : justB t.brs 0 t.roots = false
            · rw [if_pos hj, if_pos ⟨rfl, hj⟩]
            · rw [if_neg hj, if_neg (fun c => hj c.2)]; rfl
        clear y0 y1 y2 y3
        by_cases hk3 : k = 3
        · have he3 : ((k : Int) == 3) = true := by rw [beq_iff_eq]; omega
          have HJU := Lib.hid (just_c t 0 t.roots hz.brs hz.tops (.slice Ar t.roots.length cr) (.slice A t.brs.length ca) (.slice Ar t.roots.length cr) wr B (HR.out wr hbw).1 (HR.out wr hbw).2.1 (HR.out wr hbw).2.1.tops)
          cases hj : justB t.brs 0 t.roots
          · have HX := Lib.hid (show chkF t = (-1, 10) by rw [HS.out, hnext.out, if_pos ⟨hk3, hj⟩])
            rw [hj] at HJU
            clear hk3 hnext HS hj
            go_wp2_with fail
            refine HJU.out.mono ?_
            rintro e w4 ⟨rfl, hb4⟩
            have hbN := bnd_call hb (Nat.le_of_eq hs2.symm) hb4
            go_wp2
            go_ret2
            exact ⟨ret_chk HX.out, b2.trans (hbN.mono (by omega))⟩
          · have HG := Lib.hid (show chkF t = (passF f t.brs).getD (chkS t (k + 1)) by rw [HS.out, hnext.out, if_neg (fun c => by rw [hj] at c; exact absurd c.2 (by decide))])
            rw [hj] at HJU
            clear hk3 hnext HS hj
            go_wp2_with fail
            refine HJU.out.mono ?_
            rintro e w4 ⟨rfl, hb4⟩
            have hbN := bnd_call hb (Nat.le_of_eq hs2.symm) hb4
            clear hb z0 z1 zl yl hbw
            obtain ⟨z0, z1, -, -, -, -, zl, -⟩ := KC.out _ hbN
            clear hb4
            go_wp2
            have HP0 := Lib.hid (show passF f t.brs = passG f (t.brs.take 0) (t.brs.drop 0) from rfl)
            obtain ⟨wo, hwo⟩ : ∃ wo : World, wo = w4 := ⟨_, rfl⟩
            rw [← hwo] at hbN ⊢
            clear hwo
            go_loopw [33] (fun t33 wr => ∃ j : Nat, j ≤ t.brs.length ∧ t33 = .int .i64 j ∧ Hid (passF f t.brs = passG f (t.brs.take j) (t.brs.drop j)) ∧ Below (w.heap.size + 2) (ckW w (.slice Ar t.roots.length cr) (.slice A t.brs.length ca)) wr) (fun t33 _ => t.brs.length - (intOf t33).toNat)
            case atStart => exact ⟨0, Nat.zero_le _, rfl, HP0, hbN⟩
            case round =>
              clear HP0
              obtain ⟨j, hjl, rfl, HJ, hbj⟩ := hrel
              obtain ⟨z0, z1, -, -, -, -, zl, -⟩ := KC.out _ hbj
              have hbwj := b2.trans (hbj.mono (by omega))
              by_cases hlt : j < t.brs.length
              · obtain ⟨x, hx⟩ := get_at t.brs hlt
                have HD := Lib.hid (drop_at hx)
                have HT := Lib.hid (take_at hx)
                have HCX := Lib.hid (HC.out j x hx wr hbwj)
                have hjj : (j : Int) < (t.brs.length : Int) := by omega
                have hwj : IntKind.i64.wrap ((j : Int) + 1) = (j : Int) + 1 := IntWalk.i64_in _ (by have := hz.brs; omega)
                obtain ⟨fx, hfx⟩ : ∃ fx, f (t.brs.take j) x = fx := ⟨_, rfl⟩
                rw [hfx] at HCX
                by_cases he : fx = 0
                · subst he
                  have HN := Lib.hid (show passF f t.brs = passG f (t.brs.take (j + 1)) (t.brs.drop (j + 1)) by rw [HJ.out, HD.out, passG_cons, if_neg (by simp [hfx]), ← HT.out])
                  clear hx hfx
                  go_wp2_with fail
                  refine HCX.out.mono ?_
                  rintro e w5 ⟨rfl, hb5⟩
                  have hbN := bnd_call hbj (Nat.le_of_eq hs2.symm) hb5
                  go_wp2
                  go_roundw
                  case rel => exact ⟨j + 1, by omega, by go_num, HN, hbN⟩
                  case measure => simp [intOf]; omega
                · have hne : (fx != 0) = true := by simpa using he
                  have HX := Lib.hid (show chkF t = ((j : Int), fx) by
                    rw [HG.out, HJ.out, HD.out, passG_cons, if_pos (by rw [hfx]; exact he), hfx, List.length_take, Nat.min_eq_left (by omega)]
                    rfl)
                  clear hx hfx he
                  go_wp2_with fail
                  refine HCX.out.mono ?_
                  rintro e w5 ⟨rfl, hb5⟩
                  have hbN := bnd_call hbj (Nat.le_of_eq hs2.symm) hb5
                  go_wp2
                  go_ret2
                  exact ⟨ret_chk HX.out, b2.trans (hbN.mono (by omega))⟩
              · have HNO := Lib.hid (show passF f t.brs = none by rw [HJ.out, List.drop_of_length_le (by omega)]; rfl)
                have HNX := Lib.hid (show chkF t = chkS t (k + 1) by rw [HG.out, HNO.out]; rfl)
                have hjj : ¬ (j : Int) < (t.brs.length : Int) := by omega
                have hpx : 2 ≤ k + 1 → Plcd t.brs := fun h => hpn h HNO.out
                have hwk : IntKind.i64.wrap ((k : Int) + 1) = (k : Int) + 1 := IntWalk.i64_in _ (by omega)
                go_wp2
                go_roundw
                case rel => exact ⟨k + 1, by omega, by go_num, HNX, hpx, hbj⟩
                case measure => simp [intOf]; omega
        · have he3 : ((k : Int) == 3) = false := by rw [beq_eq_false_iff_ne]; omega
          have HG := Lib.hid (show chkF t = (passF f t.brs).getD (chkS t (k + 1)) by rw [HS.out, hnext.out, if_neg (fun c => hk3 c.1)])
          clear hk3 hnext HS
          go_wp2
          clear hbw
          have HP0 := Lib.hid (show passF f t.brs = passG f (t.brs.take 0) (t.brs.drop 0) from rfl)
          obtain ⟨wo, hwo⟩ : ∃ wo : World, wo = wr := ⟨_, rfl⟩
          rw [← hwo] at hb ⊢
          clear hwo
          go_loopw [33] (fun t33 wr => ∃ j : Nat, j ≤ t.brs.length ∧ t33 = .int .i64 j ∧ Hid (passF f t.brs = passG f (t.brs.take j) (t.brs.drop j)) ∧ Below (w.heap.size + 2) (ckW w (.slice Ar t.roots.length cr) (.slice A t.brs.length ca)) wr) (fun t33 _ => t.brs.length - (intOf t33).toNat)
          case atStart => exact ⟨0, Nat.zero_le _, rfl, HP0, hb⟩
          case round =>
            clear HP0
            obtain ⟨j, hjl, rfl, HJ, hbj⟩ := hrel
            obtain ⟨z0, z1, -, -, -, -, zl, -⟩ := KC.out _ hbj
            have hbwj := b2.trans (hbj.mono (by omega))
            by_cases hlt : j < t.brs.length
            · obtain ⟨x, hx⟩ := get_at t.brs hlt
              have HD := Lib.hid (drop_at hx)
              have HT := Lib.hid (take_at hx)
              have HCX := Lib.hid (HC.out j x hx wr hbwj)
              have hjj : (j : Int) < (t.brs.length : Int) := by omega
              have hwj : IntKind.i64.wrap ((j : Int) + 1) = (j : Int) + 1 := IntWalk.i64_in _ (by have := hz.brs; omega)
              obtain ⟨fx, hfx⟩ : ∃ fx, f (t.brs.take j) x = fx := ⟨_, rfl⟩
              rw [hfx] at HCX
              by_cases he : fx = 0
              · subst he
                have HN := Lib.hid (show passF f t.brs = passG f (t.brs.take (j + 1)) (t.brs.drop (j + 1)) by rw [HJ.out, HD.out, passG_cons, if_neg (by simp [hfx]), ← HT.out])
                clear hx hfx
                go_wp2_with fail
                refine HCX.out.mono ?_
                rintro e w5 ⟨rfl, hb5⟩
                have hbN := bnd_call hbj (Nat.le_of_eq hs2.symm) hb5
                go_wp2
                go_roundw
                case rel => exact ⟨j + 1, by omega, by go_num, HN, hbN⟩
                case measure => simp [intOf]; omega
              · have hne : (fx != 0) = true := by simpa using he
                have HX := Lib.hid (show chkF t = ((j : Int), fx) by
                  rw [HG.out, HJ.out, HD.out, passG_cons, if_pos (by rw [hfx]; exact he), hfx, List.length_take, Nat.min_eq_left (by omega)]
                  rfl)
                clear hx hfx he
                go_wp2_with fail
                refine HCX.out.mono ?_
                rintro e w5 ⟨rfl, hb5⟩
                have hbN := bnd_call hbj (Nat.le_of_eq hs2.symm) hb5
                go_wp2
                go_ret2
                exact ⟨ret_chk HX.out, b2.trans (hbN.mono (by omega))⟩
            · have HNO := Lib.hid (show passF f t.brs = none by rw [HJ.out, List.drop_of_length_le (by omega)]; rfl)
              have HNX := Lib.hid (show chkF t = chkS t (k + 1) by rw [HG.out, HNO.out]; rfl)
              have hjj : ¬ (j : Int) < (t.brs.length : Int) := by omega
              have hpx : 2 ≤ k + 1 → Plcd t.brs := fun h => hpn h HNO.out
              have hwk : IntKind.i64.wrap ((k : Int) + 1) = (k : Int) + 1 := IntWalk.i64_in _ (by omega)
              go_wp2
              go_roundw
              case rel => exact ⟨k + 1, by omega, by go_num, HNX, hpx, hbj⟩
              case measure => simp [intOf]; omega
      · have hk' : k = 4 := by omega
        subst hk'
        have HX := Lib.hid (show chkF t = (-1, 0) from HS.out)
        go_wp2
        go_ret2
        exact ⟨ret_chk HX.out, hbw⟩
theorem right_c (t : Tre) (hz : SizT t) (vr vb : Value) (w : World) (B : Nat) (hB : B ≤ w.heap.size) (h : TreRep w B t vr vb) (hV : VarOk w) :
    Calls Tryz.prog 69 #[treV vr vb] w fun e w' => e = .returned (.bool (rightT t)) ∧ Below w.heap.size w w' := by
  have b1 := tre_new w vr vb
  have HC := Lib.hid (check_c t hz vr vb (w.alloc (treC vr vb)) B (Nat.le_trans hB b1.size) (h.below (b1.mono hB)) (hV.below b1))
  have HE := Lib.hid (show rightT t = ((chkF t).2 == 0) by unfold rightT; rw [Bool.eq_iff_iff]; simp)
  obtain ⟨Ar, cr, rfl, -⟩ := id h.tops
  obtain ⟨A, ca, rfl, -⟩ := id h.brs
  go_enter Tryz.func69, Tryz.ntmps69
  go_wp2_with fail
  refine HC.out.mono ?_
  rintro e w1 ⟨rfl, hb1⟩
  go_wp2
  go_ret
  exact ⟨ret_bool HE.out.symm, b1.trans (hb1.mono b1.size)⟩
end Go.Proofs.YthbccfchjgihgaaGreatDoor
