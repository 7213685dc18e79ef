/- The program: the builder's WriteByte and WriteString; what a write keeps. -/
import Derived.Test.YthbccfchjgihgaaGreatDoorSeq
import Derived.OrdersHeld
import Derived.Deep.RegionHeld3
import Derived.Test.YthbccfchjgihgaaGreatDoorVar
import Derived.Test.YthbccfchjgihgaaGreatDoorOwn
import Derived.Test.YthbccfchjgihgaaGreatDoorBel
namespace Go.Proofs.YthbccfchjgihgaaGreatDoor
open Go.RowKit Go.Shelf

/-- a way out of a region: behind it alone -/
def OnlyOn (K : Act → World → Prop) (e : Exit) (a : Act) (w : World) : Prop := e = .normal ∧ K a w
theorem no_out (K : Act → World → Prop) : ¬ LetsOut (OnlyOn K) := fun ⟨_, _, h⟩ => by cases h.1
theorem only_panic {K : Act → World → Prop} {x : List PanicEntry} {a : Act} {w : World} {X : Prop} (h : OnlyOn K (.panic x) a w) : X := by cases h.1
theorem oper_round {P : Program} {o : Oper} {a : Act} {w : World} {n l : Nat} {K K' Kn : Act → World → Prop} {Q : Exit → Act → World → Prop} (hnd : ∀ c, o.op ≠ .defer c) (hK : ∀ a w, K a w → K' a w) (h : o.wp P a w K (OnlyOn Kn)) :
    o.wpIn (Fence.wide.inRound l) n P a w K' Q := by
  unfold Oper.wpIn
  refine ⟨fun _ _ => trivial, ?_⟩
  rw [show (Fence.wide.inRound l).round = some l from rfl, Oper.semAt_some l _ o hnd]
  unfold Oper.wp at h
  generalize (execOp a.eval o).run P w = r at h
  cases r with
  | ok x w' =>
    cases x with
    | value v => exact hK _ _ h
    | skip => exact hK _ _ h
    | defer d => exact hK _ _ h
    | enter f args =>
      refine ⟨(fun hh => by cases hh), ?_⟩
      refine (CallsIn.inRound l (callsIn_wide.2 h)).mono ?_
      rintro e w'' he
      cases e with
      | returned v => exact hK _ _ he
      | panicked chain => cases he.1
      | outgrown => exact absurd he (no_out _)
    | row row args =>
      refine ⟨(fun hh => by cases hh), ?_⟩
      intro c cs _
      obtain ⟨v, w1, hr, hs⟩ := h c cs
      exact ⟨v, w1, hK _ _ hr, stepsIn_wide.2 hs⟩
    | _ => exact h.elim
  | halt x w' =>
    cases x with
    | panic v => cases h.1
    | _ => exact h.elim
theorem any_round {P : Program} {md : Region.Mode} {ops : Array Oper} {n l : Nat} {K : Act → World → Prop} {Q : Exit → Act → World → Prop} (hnd : ∀ (i : Nat) (o : Oper), ops[i]? = some o → ∀ c, o.op ≠ .defer c) (hQ : ∀ a w, K a w → Q .normal a w) :
    ∀ (fuel : Nat) (listed : Array Bool) (a : Act) (w : World), wpAny P md ops (OnlyOn K) fuel listed a w → wpAnyIn (Fence.wide.inRound l) n P md ops Q fuel listed a w
  | 0, _, _, _, h => ⟨h.1, hQ _ _ h.2.2⟩
  | fuel + 1, listed, a, w, h => by
    refine ⟨fun hr => hQ _ _ (h.1 hr).2, fun i hi => ?_⟩
    have h1 := h.2 i hi
    unfold wpOp at h1
    unfold wpOpIn
    cases ho : ops[i]? with
    | none =>
      rw [ho] at h1
      exact any_round hnd hQ fuel _ a w h1
    | some o =>
      rw [ho] at h1
      simp only at h1 ⊢
      split
      · rename_i hw
        rw [if_pos hw] at h1
        rcases h1 with h1 | h1
        · exact oper_round (hnd i o ho) (fun a w hh => any_round hnd hQ fuel _ a w hh) h1
        · exact absurd h1.2 (no_out _)
      · rename_i hw
        rw [if_neg hw] at h1
        exact ⟨fun _ _ => trivial, any_round hnd hQ fuel _ _ w h1⟩
def noDefer : Op → Bool
  | .defer _ => false
  | _ => true
theorem noDefer_of {l : List Oper} (h : (l.all fun o => noDefer o.op) = true) (i : Nat) (o : Oper) (hi : l.toArray[i]? = some o) (c : Call) : o.op ≠ .defer c := by
  have hm : o ∈ l := by
    rw [List.getElem?_toArray] at hi
    exact List.mem_of_getElem? hi
  have := List.all_eq_true.1 h o hm
  intro e
  rw [e] at this
  cases this
theorem region_round {P : Program} {id : Nat} {ol : List Oper} {n l : Nat} {a : Act} {w : World} {K : Act → World → Prop} {Q : Exit → Act → World → Prop} {S : World → Prop} (hm : P.follows .mixedOrders = true) (hnd : (ol.all fun o => noDefer o.op) = true) (hS : S w.drew)
    (h : S w.drew → wpAnyH P .any ol.toArray (OnlyOn K) S ol.toArray.size (Array.replicate ol.toArray.size false) a w.drew) (hQ : ∀ a w, K a w → Q .normal a w) : (Code.region id ol.toArray true).wpIn (Fence.wide.inRound l) n P Q a w :=
  wpIn_region_any hm (any_round (noDefer_of hnd) hQ _ _ _ _ (wpAny_of_held _ _ _ _ (h hS)))

theorem bld_size : (Tryz.prog.info? 94).map (·.size) = some 2 := by kernel_rfl
set_option maxRecDepth 100000 in
set_option maxHeartbeats 2000000 in
theorem copy_used (b : Nat) (w : World) (h0 : w.cell? ⟨b, 0, none⟩ = some (.pointer (some ⟨b, 0, none⟩))) :
    Calls Tryz.prog 108 #[.pointer (some ⟨b, 0, none⟩)] w fun e w' => e = .returned (.tuple #[]) ∧ w' = w := by
  obtain ⟨j, hj, _⟩ := Option.map_eq_some_iff.1 bld_size
  go_enter Tryz.func108, Tryz.ntmps108
  go_wp2
  rw [Lib.run_neq_ptr_same w _ Tryz.underlying91 hj]
  go_wp2
  go_end0
  exact ⟨rfl, rfl⟩
set_option maxRecDepth 100000 in
set_option maxHeartbeats 2000000 in
theorem copy_fresh (b : Nat) (w : World) (h0 : w.cell? ⟨b, 0, none⟩ = some (.pointer none)) (hsh : w.shape? b = some (94, 2)) (hfz : w.frozen? ⟨b, 0, none⟩ = false) :
    Calls Tryz.prog 108 #[.pointer (some ⟨b, 0, none⟩)] w fun e w' => e = .returned (.tuple #[]) ∧ w' = w.setCell ⟨b, 0, none⟩ (.pointer (some ⟨b, 0, none⟩)) := by
  obtain ⟨j, hj, hjs⟩ := Option.map_eq_some_iff.1 bld_size
  go_enter Tryz.func108, Tryz.ntmps108
  go_wp2
  rw [Lib.run_to_unsafe w ⟨b, 0, none⟩ Tryz.underlying91 Tryz.underlying142 hj (by rw [hjs]; decide) hsh (Nat.zero_lt_succ 1)]
  simp only [Result.andThen]
  rw [Oper.upon_value]
  go_wp2
  rw [run_callFunc_extern Tryz.func137 (by kernel_rfl) (by kernel_rfl) (by kernel_rfl) (e := Extern.AbiNoEscape.same) (by kernel_rfl)]
  rw [Lib.run_noEscape]
  simp only [Result.andThen]
  rw [Oper.upon_value]
  go_wp2
  rw [Lib.run_from_unsafe w ⟨b, 0, none⟩ Tryz.underlying142 Tryz.underlying91 hj hsh (by kernel_rfl)]
  simp only [Result.andThen]
  rw [Oper.upon_value]
  go_wp2
  go_end0
  exact ⟨rfl, rfl⟩
/-- behind copyCheck the builder is used -/
theorem copy_c (B b : Nat) (bs : List Value) (w : World) (h : Lib.IsBuilder 94 5 B b bs w) :
    Calls Tryz.prog 108 #[.pointer (some ⟨b, 0, none⟩)] w fun e w' => e = .returned (.tuple #[]) ∧ (Lib.BuilderAt 94 5 B b (.pointer (some ⟨b, 0, none⟩)) bs w' ∧ Below B w w') := by
  rcases h with h | h
  · refine (copy_fresh b w h.cell0 h.shape h.frozen0).mono ?_
    rintro e w' ⟨rfl, rfl⟩
    exact ⟨rfl, h.used _, (Below.refl B w).setCell (p := ⟨b, 0, none⟩) h.1 _⟩
  · refine (copy_used b w h.cell0).mono ?_
    rintro e w' ⟨rfl, rfl⟩
    exact ⟨rfl, h, Below.refl B _⟩
open Go.RowKit

abbrev Bld (B b : Nat) (bs : List Value) (w : World) : Prop := Lib.IsBuilder 94 5 B b bs w
abbrev BldU (B b : Nat) (bs : List Value) (w : World) : Prop := Lib.BuilderAt 94 5 B b (.pointer (some ⟨b, 0, none⟩)) bs w
theorem heap_lt {w : World} {b : Nat} {o : Obj} (h : w.heap[b]? = some o) : b < w.heap.size := by
  rcases Nat.lt_or_ge b w.heap.size with h' | h'
  · exact h'
  · simp [Array.getElem?_eq_none h'] at h
set_option maxRecDepth 100000 in
set_option maxHeartbeats 2000000 in
/-- copyCheck, with all that it leaves -/
theorem copy2_c (B b : Nat) (bs : List Value) (p v : Value) (w : World) (hp : p = .pointer none ∨ p = .pointer (some ⟨b, 0, none⟩)) (hB : B ≤ b) (hbk : w.heap[b]? = some (.cells #[p, v] 94 (0, 0))) (hown : w.ownsRow B 5 1 v bs.length bs) (hne : v.ownBlock ≠ some b) :
    Calls Tryz.prog 108 #[.pointer (some ⟨b, 0, none⟩)] w fun e w' => e = .returned (.tuple #[]) ∧ (w'.heap[b]? = some (.cells #[.pointer (some ⟨b, 0, none⟩), v] 94 (0, 0)) ∧ w'.ownsRow B 5 1 v bs.length bs ∧ (∀ k, k ≠ b → w'.heap[k]? = w.heap[k]?) ∧ Below B w w') := by
  rcases hp with rfl | rfl
  · have h : Lib.BuilderAt 94 5 B b (.pointer none) bs w := ⟨hB, v, hbk, hown, hne⟩
    refine (copy_fresh b w h.cell0 h.shape h.frozen0).mono ?_
    rintro e w' ⟨rfl, rfl⟩
    refine ⟨rfl, ?_, ownsRow_frame hown (fun k hk => Below.heap_setCell _ _ _ _ (fun e => hne (by rw [hk, e]))), fun k hk => Below.heap_setCell _ _ _ _ hk, (Below.refl B w).setCell (p := ⟨b, 0, none⟩) hB _⟩
    simp [World.setCell, Array.getElem?_modify, hbk]
  · have h : Lib.BuilderAt 94 5 B b (.pointer (some ⟨b, 0, none⟩)) bs w := ⟨hB, v, hbk, hown, hne⟩
    refine (copy_used b w h.cell0).mono ?_
    rintro e w' ⟨rfl, rfl⟩
    exact ⟨rfl, hbk, hown, fun _ _ => rfl, Below.refl B _⟩
/-- a builder, as it was in an older world -/
theorem bld_open {B b : Nat} {bs : List Value} {w0 w : World} (h : Bld B b bs w0) (hb : Below w0.heap.size w0 w) : ∃ p v, (p = .pointer none ∨ p = .pointer (some ⟨b, 0, none⟩)) ∧ B ≤ b ∧ b < w0.heap.size ∧ w.heap[b]? = some (.cells #[p, v] 94 (0, 0)) ∧ w.ownsRow B 5 1 v bs.length bs ∧ v.ownBlock ≠ some b ∧ ∀ k, v.ownBlock = some k → k < w0.heap.size := by
  rcases h with ⟨h1, v, h2, h3, h4⟩ | ⟨h1, v, h2, h3, h4⟩
  · exact ⟨_, v, .inl rfl, h1, heap_lt h2, (hb.block _ (heap_lt h2)).trans h2, ownsRow_frame h3 (fun k hk => hb.block k (h3.lt k hk).2), h4, fun k hk => (h3.lt k hk).2⟩
  · exact ⟨_, v, .inr rfl, h1, heap_lt h2, (hb.block _ (heap_lt h2)).trans h2, ownsRow_frame h3 (fun k hk => hb.block k (h3.lt k hk).2), h4, fun k hk => (h3.lt k hk).2⟩
/-- a block that holds no bytes -/
def NoB (o : Obj) : Prop := ∀ cs fl, o ≠ .cells cs 5 fl
/-- a write leaves every block that holds no bytes and is not the builder's -/
def KeepB (b : Nat) (w w' : World) : Prop := ∀ (k : Nat) (o : Obj), k ≠ b → NoB o → w.heap[k]? = some o → w'.heap[k]? = some o
theorem own_ne {B : Nat} {v : Value} {n : Nat} {bs : List Value} {w : World} {k : Nat} {o : Obj} (h : w.ownsRow B 5 1 v n bs) (hk : w.heap[k]? = some o) (ht : NoB o) : some k ≠ v.ownBlock := by
  intro e
  rcases h.2 with ⟨h1, _⟩ | ⟨g, cap, cur, h1, _, hg, _⟩
  · rw [h1] at e; cases e
  · rw [h1] at e
    injection e with e
    subst e
    rw [hk] at hg
    injection hg with hg
    exact ht _ _ hg
set_option maxRecDepth 100000 in
set_option maxHeartbeats 2000000 in
theorem wstr3_c (B b : Nat) (bs : List Value) (s : ByteArray) (w : World) (h : Bld B b bs w) (hlen : bs.length + s.size ≤ 140737488355328) (hBw : B ≤ w.heap.size) :
    Calls Tryz.prog 74 #[.pointer (some ⟨b, 0, none⟩), .string s] w fun e w' => e = .returned (.tuple #[.int .i64 s.size, .nilIface]) ∧ (BldU B b (bs ++ Lib.strCells s) w' ∧ Below B w w' ∧ KeepB b w w') := by
  obtain ⟨i0, hi, hz0, hz1, hz2⟩ := info_parts (P := Tryz.prog) (e := 5) (z := .int .u8 0) (size := 1) (bytes := 1) (by kernel_rfl)
  obtain ⟨p, v, hp, hB, hbl, hbk0, hown0, hne, hvl⟩ := bld_open h (Below.refl _ _)
  have HC := Lib.hid (copy2_c B b bs p v w hp hB hbk0 hown0 hne)
  have HVL := Lib.hid hvl
  clear hp hbk0 h
  go_enter Tryz.func74, Tryz.ntmps74
  go_wp2_with fail
  refine HC.out.mono ?_
  rintro e w1 ⟨rfl, hbk, hown, hsame, hb1⟩
  have HS1 := Lib.hid hsame
  clear hsame
  have hs1 := hb1.size
  have hlt := heap_lt hbk
  have c0 : w1.cell? ⟨b, 0, none⟩ = some (.pointer (some ⟨b, 0, none⟩)) := by rw [Lib.cell_of_heap hbk]; rfl
  have c1 : w1.cell? ⟨b, 1, none⟩ = some v := by rw [Lib.cell_of_heap hbk]; rfl
  go_wp2_with (at_builtin; refine stop_intro ?_)
  refine stop_elim ?_
  refine Lib.wpList_append_own_string _ rfl _ _ 92 9 rfl B 5 i0 Tryz.underlying92 Tryz.underlying9 hi hz0 hz1 hz2 _ _ _ rfl hown s rfl (by unfold maxLen; omega) (by omega) (by omega) ?_
  intro v' w2 hown' hg _
  have hb2 : w2.heap[b]? = some (.cells #[.pointer (some ⟨b, 0, none⟩), v] 94 (0, 0)) := by
    rw [hg.block b hlt (fun e => hne e.symm)]
    exact hbk
  have d0 : w2.cell? ⟨b, 0, none⟩ = some (.pointer (some ⟨b, 0, none⟩)) := by rw [Lib.cell_of_heap hb2]; rfl
  have d1 : w2.cell? ⟨b, 1, none⟩ = some v := by rw [Lib.cell_of_heap hb2]; rfl
  have f1 : w2.frozen? ⟨b, 1, none⟩ = false := Lib.frozen_of_heap hb2 1
  obtain ⟨ao, n', cap, rfl⟩ : ∃ ao n' cap, v' = .slice ao n' cap := by
    rcases hown'.2 with ⟨hv, _⟩ | ⟨g, cap, cur, hv, _⟩
    · exact ⟨_, _, _, hv⟩
    · exact ⟨_, _, _, hv⟩
  go_wp2
  go_ret2
  refine ⟨rfl, Lib.BuilderAt.put (T := 94) (e := 5) hB hb2 (bs' := bs ++ Lib.strCells s) (by simpa [Lib.strCells_length] using hown') (by decide), (hb1.grown hg (by omega) (fun k hk => (hown.lt k hk).1)).setCell (p := ⟨b, 1, none⟩) hB _, fun k _ hkb ht hk => ?_⟩
  rw [Below.heap_setCell _ _ _ _ hkb, hg.block k (by have := heap_lt hk; omega) (own_ne hown0 hk ht), HS1.out k hkb]
  exact hk
set_option maxRecDepth 100000 in
set_option maxHeartbeats 2000000 in
theorem wbyte3_c (B b : Nat) (bs : List Value) (c : Int) (w : World) (h : Bld B b bs w) (hlen : bs.length + 1 ≤ 140737488355328) (hBw : B ≤ w.heap.size) :
    Calls Tryz.prog 77 #[.pointer (some ⟨b, 0, none⟩), .int .u8 c] w fun e w' => e = .returned .nilIface ∧ (BldU B b (bs ++ [.int .u8 c]) w' ∧ Below B w w' ∧ KeepB b w w') := by
  obtain ⟨i0, hi, hz0, hz1, hz2⟩ := info_parts (P := Tryz.prog) (e := 5) (z := .int .u8 0) (size := 1) (bytes := 1) (by kernel_rfl)
  obtain ⟨p, v, hp, hB, hbl, hbk0, hown0, hne, hvl⟩ := bld_open h (Below.refl _ _)
  have HC := Lib.hid (copy2_c B b bs p v w hp hB hbk0 hown0 hne)
  clear hp hbk0 h
  go_enter Tryz.func77, Tryz.ntmps77
  go_wp2_with fail
  refine HC.out.mono ?_
  rintro e w1 ⟨rfl, hbk, hown, hsame, hb1⟩
  have HS1 := Lib.hid hsame
  clear hsame
  have hs1 := hb1.size
  have hlt := heap_lt hbk
  have c0 : w1.cell? ⟨b, 0, none⟩ = some (.pointer (some ⟨b, 0, none⟩)) := by rw [Lib.cell_of_heap hbk]; rfl
  have c1 : w1.cell? ⟨b, 1, none⟩ = some v := by rw [Lib.cell_of_heap hbk]; rfl
  go_wp2_with (at_builtin; refine stop_intro ?_)
  refine stop_elim ?_
  refine wpList_append_own _ rfl _ _ 92 rfl B 5 i0 (.int .u8 0) 1 1 Tryz.underlying92 hi hz0 hz1 hz2 rfl (by decide) _ _ _ rfl (hown.alloc _) ⟨w1.heap.size, 0, none⟩ 1 1 [.int .u8 c] rfl rfl ?c1 ?c2 (by unfold maxLen; omega) (by omega) (by simp; omega) ?_
  case c1 =>
    intro j u hj
    match j, hj with
    | 0, hj => simp at hj; subst hj; simp [Addr.add]
  case c2 => intro u hu; simp at hu; subst hu; rfl
  intro v' w2 hown' hg _
  have hb2 : w2.heap[b]? = some (.cells #[.pointer (some ⟨b, 0, none⟩), v] 94 (0, 0)) := by
    rw [hg.block b (by simp; omega) (fun e => hne e.symm), Lib.alloc_old w1 _ b hlt]
    exact hbk
  have d0 : w2.cell? ⟨b, 0, none⟩ = some (.pointer (some ⟨b, 0, none⟩)) := by rw [Lib.cell_of_heap hb2]; rfl
  have d1 : w2.cell? ⟨b, 1, none⟩ = some v := by rw [Lib.cell_of_heap hb2]; rfl
  have f1 : w2.frozen? ⟨b, 1, none⟩ = false := Lib.frozen_of_heap hb2 1
  obtain ⟨g, cap, rfl⟩ : ∃ g cap, v' = .slice (some ⟨g, 0, none⟩) (bs.length + 1) cap := by
    rcases hown'.2 with ⟨_, h0⟩ | ⟨g, cap, cur, hv, _⟩
    · omega
    · exact ⟨g, cap, hv⟩
  go_wp2
  go_ret
  refine ⟨rfl, Lib.BuilderAt.put (T := 94) (e := 5) hB hb2 (bs' := bs ++ [.int .u8 c]) (by simpa using hown') (by decide), ((hb1.alloc (by omega) _).grown hg (by simp; omega) (fun k hk => (hown.lt k hk).1)).setCell (p := ⟨b, 1, none⟩) hB _, fun k _ hkb ht hk => ?_⟩
  have hkl := heap_lt hk
  rw [Below.heap_setCell _ _ _ _ hkb, hg.block k (by simp; omega) (own_ne hown0 hk ht), Lib.alloc_old w1 _ k (by omega), HS1.out k hkb]
  exact hk
/-- the types whose blocks the rounds of Print keep -/
abbrev qB : TypeId → Bool := fun ty => ty != 5
abbrev fB : Option Obj → Option Nat := fun _ => none
/-- what a step of a round keeps -/
structure Rnd (b n : Nat) (w w' : World) : Prop where
  kp : Kp qB b fB n w w'
  ko : KeepsOthers w w'
theorem Rnd.refl {b n : Nat} (w : World) : Rnd b n w w := ⟨Kp.refl _, KeepsOthers.refl _⟩
theorem Rnd.trans {b n : Nat} {x y z : World} (h : Rnd b n x y) (k : Rnd b n y z) : Rnd b n x z := ⟨h.kp.trans k.kp, h.ko.trans k.ko⟩
theorem Rnd.of_below {b n : Nat} {w w' : World} (hn : n ≤ w.heap.size) (h : Below w.heap.size w w') : Rnd b n w w' :=
  ⟨Kp.of_below hn h, ⟨h.size, fun k _ hk _ => (h.block k (heap_lt hk)).trans hk⟩⟩
theorem Rnd.of_write {b n : Nat} {w w' : World} {p v : Value} (hbk : w.heap[b]? = some (.cells #[p, v] 94 (0, 0))) (hb : Below n w w') (hk : KeepB b w w') : Rnd b n w w' :=
  ⟨⟨hb, fun s => ⟨Nat.lt_of_lt_of_le s.1 hb.size, fun k hk => by cases hk⟩, fun s k cs ty hq h1 h2 =>
    ⟨hk k _ h1.2.1 (fun cs' fl e => by injection e with _ e; rw [e] at hq; exact absurd hq (by decide)) h2, Nat.lt_of_lt_of_le h1.1 hb.size, h1.2.1, by simp⟩⟩,
   ⟨hb.size, fun k o h1 h2 => hk k o (fun e => by subst e; rw [hbk] at h1; injection h1 with h1; rw [← h1] at h2; cases h2) (fun cs fl e => by rw [e] at h2; cases h2) h1⟩⟩
theorem Bld.cell {B b : Nat} {bs : List Value} {w : World} (h : Bld B b bs w) : ∃ p v, w.heap[b]? = some (.cells #[p, v] 94 (0, 0)) := by
  rcases h with ⟨_, v, h, _⟩ | ⟨_, v, h, _⟩
  · exact ⟨_, v, h⟩
  · exact ⟨_, v, h⟩
theorem Bld.same {B b : Nat} {bs : List Value} {w w' : World} (h : Bld B b bs w) (hs : SameC w w') : Bld B b bs w' := by
  have go : ∀ p v, w.heap[b]? = some (.cells #[p, v] 94 (0, 0)) → w.ownsRow B 5 1 v bs.length bs → w'.heap[b]? = some (.cells #[p, v] 94 (0, 0)) ∧ w'.ownsRow B 5 1 v bs.length bs := fun p v h1 h2 =>
    ⟨(hs b _ h1 rfl).trans h1, ownsRow_frame h2 fun k hk => by
      rcases h2.2 with ⟨e, _⟩ | ⟨g, cap, cur, e, _, hg, _⟩
      · rw [e] at hk; cases hk
      · rw [e] at hk
        cases hk
        exact hs _ _ hg rfl⟩
  rcases h with ⟨h1, v, h2, h3, h4⟩ | ⟨h1, v, h2, h3, h4⟩
  · obtain ⟨k1, k2⟩ := go _ v h2 h3
    exact .inl ⟨h1, v, k1, k2, h4⟩
  · obtain ⟨k1, k2⟩ := go _ v h2 h3
    exact .inr ⟨h1, v, k1, k2, h4⟩
theorem Bld.start (w : World) : Bld w.heap.size w.heap.size (Lib.byteCells []) (w.alloc (.cells #[.pointer none, .slice none 0 0] 94)) := .inl ⟨Nat.le_refl _, .slice none 0 0, by show (w.heap.push _)[w.heap.size]? = _; simp, ⟨by simp [Lib.byteCells], .inl ⟨rfl, rfl⟩⟩, by simp [Value.ownBlock]⟩
theorem Bld.below {B b : Nat} {bs : List Value} {w w' : World} (h : Bld B b bs w) (hb : Below w.heap.size w w') : Bld B b bs w' := by
  rcases h with ⟨h1, v, h2, h3, h4⟩ | ⟨h1, v, h2, h3, h4⟩
  · exact .inl ⟨h1, v, by rw [hb.block _ (heap_lt h2)]; exact h2, ownsRow_frame h3 (fun b hb' => hb.block _ (h3.lt b hb').2), h4⟩
  · exact .inr ⟨h1, v, by rw [hb.block _ (heap_lt h2)]; exact h2, ownsRow_frame h3 (fun b hb' => hb.block _ (h3.lt b hb').2), h4⟩
theorem bytes_cells (s : ByteArray) : Lib.strCells s = Lib.byteCells s.data.toList := by
  simp [Lib.strCells, Lib.byteCells]
theorem bcells_app (l m : List UInt8) : Lib.byteCells l ++ Lib.byteCells m = Lib.byteCells (l ++ m) := by simp [Lib.byteCells]
end Go.Proofs.YthbccfchjgihgaaGreatDoor
