/- The program: index. -/
import Derived.Test.YthbccfchjgihgaaGreatDoorTrD
namespace Go.Proofs.YthbccfchjgihgaaGreatDoor
open Go.RowKit



def idxG {α : Type} (p : α → Bool) : List α → Nat → Int
  | [], _ => -1
  | x :: l, i => if p x then (i : Int) else idxG p l (i + 1)
def idxF {α : Type} (p : α → Bool) (l : List α) : Int := idxG p l 0
theorem idxG_ge {α : Type} (p : α → Bool) : ∀ (l : List α) (i : Nat), decide (0 ≤ idxG p l i) = l.any p
  | [], i => by simp [idxG]
  | x :: l, i => by
    unfold idxG
    rw [List.any_cons]
    cases hp : p x
    · simpa using idxG_ge p l (i + 1)
    · simp
theorem idx_any {α : Type} (p : α → Bool) (l : List α) : decide (0 ≤ idxF p l) = l.any p := idxG_ge p l 0
set_option maxHeartbeats 2000000 in
theorem brnIdx_c (F : FuncId) (lb : Array Value) (p : Brn → Bool) (xs : List Brn) (v : Value) (w : World) (B : Nat) (hB : B ≤ w.heap.size) (h : SlRep 6 brnR w (fun b => b < B) xs v)
    (hF : ∀ (args : Array Value) (W : World), (callFunc F args).run Tryz.prog W = .ok (.enter F args) W)
    (hp : ∀ (x : Brn) (vk : Value) (W : World), x ∈ xs → Below w.heap.size w W → SlRep 1 (flat intEnc) W (fun b => b < B) x.kids vk → Calls Tryz.prog F (#[brnV x vk] ++ lb) W fun e w' => e = .returned (.bool (p x)) ∧ Below W.heap.size W w') :
    Calls Tryz.prog 58 #[v, .func (.func F) #[] lb] w fun e w' => e = .returned (.int .i64 (idxF p xs)) ∧ Below w.heap.size w w' := by
  obtain ⟨A, c, rfl, hc1, hc2, _⟩ := id h
  have HP := Lib.hid hp
  clear hp
  have HF := Lib.hid (show idxF p xs = idxG p (xs.drop 0) 0 from rfl)
  go_enter Tryz.func58, Tryz.ntmps58
  go_wp2
  go_loopw [8] (fun i wr => ∃ k : Nat, k ≤ xs.length ∧ i = .int .i64 k ∧ Hid (idxF p xs = idxG p (xs.drop k) k) ∧ Below w.heap.size w wr) (fun i _ => xs.length - (intOf i).toNat)
  case atStart => exact ⟨0, Nat.zero_le _, rfl, HF, Below.refl _ _⟩
  case round =>
    obtain ⟨k, hk, rfl, HS, hb⟩ := hrel
    clear HF
    have hs := hb.size
    by_cases hlt : k < xs.length
    · obtain ⟨x, hx⟩ := get_at xs hlt
      have HD := Lib.hid (drop_at hx)
      obtain ⟨b, off, vk, rfl, hbB, g0, g1, g2, g3, g4, g5, hkr⟩ := Brns.at_ (h.below brnS (hb.mono hB)) hx
      have hbw : b < wr.heap.size := by have : b < B := hbB; omega
      have HPX := Lib.hid (HP.out x vk wr (List.mem_of_getElem? hx) hb hkr)
      obtain ⟨Ak, ck, rfl, -⟩ := id hkr
      clear hx
      go_wp2_with fail
      refine HPX.out.mono ?_
      rintro e w1 ⟨rfl, hb1⟩
      cases hpx : p x
      · go_wp2
        go_roundw
        case rel => exact ⟨k + 1, by omega, by go_num, by show _ = _; rw [HS.out, HD.out]; simp [idxG, hpx], hb.trans (hb1.mono hs)⟩
        case measure => simp [intOf]; omega
      · go_wp2
        go_ret
        exact ⟨ret_int (by rw [HS.out, HD.out]; simp [idxG, hpx]), hb.trans (hb1.mono hs)⟩
    · go_wp2
      go_ret
      exact ⟨ret_int (by rw [HS.out, List.drop_of_length_le (by omega)]; rfl), hb⟩
theorem brnAny_c (F : FuncId) (lb : Array Value) (p : Brn → Bool) (xs : List Brn) (v : Value) (w : World) (B : Nat) (hB : B ≤ w.heap.size) (h : SlRep 6 brnR w (fun b => b < B) xs v)
    (hF : ∀ (args : Array Value) (W : World), (callFunc F args).run Tryz.prog W = .ok (.enter F args) W)
    (hp : ∀ (x : Brn) (vk : Value) (W : World), x ∈ xs → Below w.heap.size w W → SlRep 1 (flat intEnc) W (fun b => b < B) x.kids vk → Calls Tryz.prog F (#[brnV x vk] ++ lb) W fun e w' => e = .returned (.bool (p x)) ∧ Below W.heap.size W w') :
    Calls Tryz.prog 92 #[v, .func (.func F) #[] lb] w fun e w' => e = .returned (.bool (xs.any p)) ∧ Below w.heap.size w w' := by
  have HI := Lib.hid (brnIdx_c F lb p xs v w B hB h hF hp)
  have HE := Lib.hid (idx_any p xs)
  obtain ⟨A, c, rfl, hc1, hc2, _⟩ := id h
  clear hp hF
  go_enter Tryz.func92, Tryz.ntmps92
  go_wp2_with fail
  refine HI.out.mono ?_
  rintro e w1 ⟨rfl, hb1⟩
  go_wp2
  go_ret
  exact ⟨ret_bool (by rw [← HE.out]), hb1⟩

def ixB (l : List Brn) (id : Int) : Int := idxF (fun b => decide (b.id = id)) l
theorem idxG_find {α : Type} (p : α → Bool) : ∀ (l : List α) (i : Nat), (idxG p l i = -1 ∧ l.find? p = none) ∨ ∃ (k : Nat) (x : α), idxG p l i = ((i + k : Nat) : Int) ∧ l[k]? = some x ∧ l.find? p = some x
  | [], i => .inl ⟨rfl, rfl⟩
  | y :: l, i => by
    unfold idxG
    rw [List.find?_cons]
    cases hp : p y
    · rcases idxG_find p l (i + 1) with ⟨h1, h2⟩ | ⟨k, x, h1, h2, h3⟩
      · exact .inl ⟨by simpa using h1, h2⟩
      · exact .inr ⟨k + 1, x, by rw [if_neg (by simp), h1]; omega, by simpa using h2, h3⟩
    · exact .inr ⟨0, y, by rw [if_pos rfl]; rfl, rfl, rfl⟩
theorem ix_find (l : List Brn) (id : Int) : (ixB l id = -1 ∧ findB l id = none) ∨ ∃ (k : Nat) (x : Brn), ixB l id = (k : Int) ∧ l[k]? = some x ∧ findB l id = some x := by
  rcases idxG_find (fun b : Brn => decide (b.id = id)) l 0 with ⟨h1, h2⟩ | ⟨k, x, h1, h2, h3⟩
  · exact .inl ⟨h1, h2⟩
  · exact .inr ⟨k, x, by rw [show ixB l id = idxG (fun b : Brn => decide (b.id = id)) l 0 from rfl, h1, Nat.zero_add], h2, h3⟩
theorem index1_c (u : Int) (g : Nat) (x : Brn) (vk : Value) (hvk : ∃ A n c, vk = .slice A n c) (w : World) (h0 : w.cell? ⟨g, 0, none⟩ = some (.int .i64 u)) (hg : g < w.heap.size) :
    Calls Tryz.prog 96 #[brnV x vk, .pointer (some ⟨g, 0, none⟩)] w fun e w' => e = .returned (.bool (decide (x.id = u))) ∧ Below w.heap.size w w' := by
  obtain ⟨A, n, c, rfl⟩ := hvk
  by_cases hxu : x.id = u
  · have he : (x.id == u) = true := by simp [hxu]
    have HE := Lib.hid (show decide (x.id = u) = true by simp [hxu])
    clear hxu
    go_enter Tryz.func96, Tryz.ntmps96
    go_wp2
    go_ret
    exact ⟨ret_bool HE.out.symm, (Below.refl _ _).alloc (Nat.le_refl _) _⟩
  · have he : (x.id == u) = false := by simpa using hxu
    have HE := Lib.hid (show decide (x.id = u) = false by simp [hxu])
    clear hxu
    go_enter Tryz.func96, Tryz.ntmps96
    go_wp2
    go_ret
    exact ⟨ret_bool HE.out.symm, (Below.refl _ _).alloc (Nat.le_refl _) _⟩
abbrev ixW (w : World) (vr vb : Value) (u : Int) : World := (w.alloc (treC vr vb)).alloc (.cells #[.int .i64 u] 3)
set_option maxHeartbeats 1000000 in
theorem index_c (t : Tre) (u : Int) (vr vb : Value) (w : World) (B : Nat) (hB : B ≤ w.heap.size) (h : TreRep w B t vr vb) :
    Calls Tryz.prog 57 #[treV vr vb, .int .i64 u] w fun e w' => e = .returned (.int .i64 (ixB t.brs u)) ∧ Below w.heap.size w w' := by
  have b2 : Below w.heap.size w (ixW w vr vb u) := ((Below.refl _ _).alloc (Nat.le_refl _) _).alloc (by simp) _
  have hs2 : (ixW w vr vb u).heap.size = w.heap.size + 2 := by simp
  have HI := Lib.hid (brnIdx_c 96 #[.pointer (some ⟨w.heap.size + 1, 0, none⟩)] (fun b => decide (b.id = u)) t.brs vb (ixW w vr vb u) B (Nat.le_trans hB b2.size) (h.below (b2.mono hB)).brs (fun _ _ => by kernel_rfl)
    (fun x vk W _ hW hk => by
      obtain ⟨Ak, ck, rfl, -⟩ := id hk
      exact index1_c u (w.heap.size + 1) x _ ⟨_, _, _, rfl⟩ W ((hW.cell (p := ⟨w.heap.size + 1, 0, none⟩) (by show w.heap.size + 1 < _; rw [hs2]; omega)).trans (by simp)) (by have := hW.size; rw [hs2] at this; omega)))
  obtain ⟨Ar, cr, rfl, -⟩ := id h.tops
  obtain ⟨A, ca, rfl, -⟩ := id h.brs
  go_enter Tryz.func57, Tryz.ntmps57
  go_wp2_with fail
  refine HI.out.mono ?_
  rintro e w1 ⟨rfl, hb1⟩
  go_wp2
  go_ret
  exact ⟨rfl, b2.trans (hb1.mono b2.size)⟩
end Go.Proofs.YthbccfchjgihgaaGreatDoor
