/- The program: the postings that support a unit. -/
import Derived.Test.YtngodakkdhdmjaaGreatDoorSup
namespace Go.Proofs.YtngodakkdhdmjaaGreatDoor
open Go.RowKit

theorem support1_c (f : Post → Option Bool) (mb g7 g12 : Nat) (p : Post) (a : Ask) (w : World) (hm : MapF w mb (fun x : Post => pstV x) Value.bool f) (hf : ∀ x b, f x = some b → b = true) (h7 : w.cell? ⟨g7, 0, none⟩ = some (.map (some mb))) (h7l : g7 < w.heap.size) (hp12 : w.heap[g12]? = some (pstC p)) (hs : a.text.size ≤ 1000000) (hp : 0 ≤ p.place ∧ p.place ≤ 1000000) (hV : VarOk w) :
    Calls Tryz.prog 105 #[askV a, .pointer (some ⟨g7, 0, none⟩), .pointer (some ⟨g12, 0, none⟩)] w fun e w' => e = .returned (.bool (supB (inM f) p a)) ∧ Below w.heap.size w w' := by
  have b1 : Below w.heap.size w (w.alloc (askC a)) := (Below.refl _ _).alloc (Nat.le_refl _) _
  have HS := Lib.hid (supports_c f mb p a (w.alloc (askC a)) (hm.below b1 hm.lt) hf hs hp (hV.below b1))
  obtain ⟨z0, z1, z2, z3, zl⟩ := askW_at (Below.refl (w.heap.size + 1) (w.alloc (askC a)))
  obtain ⟨c0, c1, c2, c3, cl⟩ := pst_cells hp12
  have y7 := (b1.cell (p := ⟨g7, 0, none⟩) h7l).trans h7
  have y0 := (b1.cell (p := ⟨g12, 0, none⟩) cl).trans c0
  have y1 := (b1.cell (p := ⟨g12, 1, none⟩) cl).trans c1
  have y2 := (b1.cell (p := ⟨g12, 2, none⟩) cl).trans c2
  have y3 := (b1.cell (p := ⟨g12, 3, none⟩) cl).trans c3
  clear hm hV c0 c1 c2 c3 hp12 h7
  go_enter Tryz.func105, Tryz.ntmps105
  go_wp2_with fail
  refine HS.out.mono ?_
  rintro e w1 ⟨rfl, hb1⟩
  go_wp2
  go_ret
  exact ⟨rfl, b1.trans (hb1.mono b1.size)⟩
/-- the postings of a unit, as a map holds them -/
def mpF (l : List Post) (u : Int) (x : Post) : Option Bool := if decide (x.unit = u) && l.any (fun y => decide (y = x)) then some true else none
theorem mpF_true {l : List Post} {u : Int} {x : Post} {b : Bool} (h : mpF l u x = some b) : b = true := by
  unfold mpF at h
  split at h
  · injection h with h; exact h.symm
  · cases h
theorem mpF_in (l : List Post) (u : Int) : inM (mpF l u) = ownB l u := by
  funext x
  unfold inM mpF ownB
  cases (decide (x.unit = u) && l.any fun y => decide (y = x)) <;> rfl
theorem mpF_nil (u : Int) : mpF [] u = fun _ => none := by
  funext x
  unfold mpF
  simp
theorem mpF_in_ {l : List Post} {u : Int} {k : Nat} {p : Post} (h : l[k]? = some p) (hu : p.unit = u) : mpF (l.take (k + 1)) u = upd (mpF (l.take k) u) p true := by
  funext x
  unfold mpF upd
  rw [take_at h, List.any_append]
  by_cases hx : x = p
  · subst hx
    simp [hu]
  · have : ¬ p = x := fun e => hx e.symm
    simp [hx, this]
theorem mpF_out {l : List Post} {u : Int} {k : Nat} {p : Post} (h : l[k]? = some p) (hu : p.unit ≠ u) : mpF (l.take (k + 1)) u = mpF (l.take k) u := by
  funext x
  unfold mpF
  rw [take_at h, List.any_append]
  by_cases hx : x.unit = u
  · have : ¬ p = x := fun e => hu (by rw [e]; exact hx)
    simp [this]
  · simp [hx]
set_option maxRecDepth 100000 in
set_option maxHeartbeats 8000000 in
theorem support_c (l : List Post) (u : Int) (ns : List Ask) (v vn : Value) (w : World) (B : Nat) (hB : B ≤ w.heap.size) (h : Posts w B l v) (hn : Asks w B ns vn) (hl : l.length ≤ 1000000) (hs : ∀ a ∈ ns, a.text.size ≤ 1000000) (hp : ∀ p ∈ l, 0 ≤ p.place ∧ p.place ≤ 1000000) (hV : VarOk w) :
    Calls Tryz.prog 64 #[v, .int .i64 u, vn] w fun e w' => ∃ v', e = .returned v' ∧ OwnRep 4 (flat Post.enc) 36 w.heap.size w' (supF l u ns) v' ∧ Below w.heap.size w w' := by
  have hmm := @run_makeMap Tryz.prog
  have HR := Lib.hid (fun (W : World) (hW : Below w.heap.size w W) => (⟨h.below pstS (hW.mono hB), hn.below askS (hW.mono hB), hV.below hW⟩ : Posts W B l v ∧ Asks W B ns vn ∧ VarOk W))
  have HPP := Lib.hid hp
  have HSS := Lib.hid hs
  obtain ⟨A, c, rfl, -⟩ := id h
  obtain ⟨An, cn, rfl, -⟩ := id hn
  have HM0 := Lib.hid (show MapF ((w.alloc (.map #[] 0)).alloc (.cells #[.map (some w.heap.size)] 138)) w.heap.size (fun x : Post => pstV x) Value.bool (mpF (l.take 0) u) by
    rw [List.take_zero, mpF_nil]
    exact (MapF.new w _ _ rfl).below (B := w.heap.size + 1) ((Below.refl _ _).alloc (by simp) _) (by omega))
  clear h hn hV hp hs
  have HBX0 := Lib.hid (show ((w.alloc (.map #[] 0)).alloc (.cells #[.map (some w.heap.size)] 138)).heap[w.heap.size + 1]? = some (.cells #[.map (some w.heap.size)] 138 (0, 0)) by
    have := heap_newX (w.alloc (.map #[] 0)) (.cells #[.map (some w.heap.size)] 138)
    rw [show (w.alloc (.map #[] 0)).heap.size = w.heap.size + 1 by simp] at this
    exact this)
  have HB0 := Lib.hid (show Below w.heap.size w ((w.alloc (.map #[] 0)).alloc (.cells #[.map (some w.heap.size)] 138)) from ((Below.refl _ _).alloc (Nat.le_refl _) _).alloc (by simp) _)
  have HSZ0 := Lib.hid (show w.heap.size + 2 ≤ ((w.alloc (.map #[] 0)).alloc (.cells #[.map (some w.heap.size)] 138)).heap.size by simp)
  go_enter Tryz.func64, Tryz.ntmps64
  go_wp2
  go_loopw [16] (fun i wr => ∃ k : Nat, k ≤ l.length ∧ i = .int .i64 k ∧ MapF wr w.heap.size (fun x : Post => pstV x) Value.bool (mpF (l.take k) u) ∧ wr.heap[w.heap.size + 1]? = some (.cells #[.map (some w.heap.size)] 138 (0, 0)) ∧ Below w.heap.size w wr ∧ w.heap.size + 2 ≤ wr.heap.size) (fun i _ => l.length - (intOf i).toNat)
  case atStart => exact ⟨0, Nat.zero_le _, rfl, HM0.out, HBX0.out, HB0.out, HSZ0.out⟩
  case round =>
    clear HM0 HBX0 HB0 HSZ0 hmm
    obtain ⟨k, hk, rfl, hm, hbx, bw, hsz⟩ := hrel
    by_cases hlt : k < l.length
    · obtain ⟨p, hp⟩ := get_at l hlt
      obtain ⟨b, off, rfl, hbB, q0, q1, q2, q3⟩ := Posts.at_ (HR.out _ bw).1 hp
      have hbw : b < wr.heap.size := by have : b < B := hbB; have := bw.size; omega
      have hki : (k : Int) < (l.length : Int) := by omega
      have hwk : IntKind.i64.wrap ((k : Int) + 1) = (k : Int) + 1 := IntWalk.i64_in _ (by omega)
      have b1 := bw.alloc bw.size (pstC p)
      have bN : Below wr.heap.size wr (wr.alloc (pstC p)) := (Below.refl _ _).alloc (Nat.le_refl _) _
      have hm1 := hm.below bN hm.lt
      have hbx1 := (bN.block (w.heap.size + 1) (by omega)).trans hbx
      have hsz1 : w.heap.size + 2 ≤ (wr.alloc (pstC p)).heap.size := by simp; omega
      have z7 : (wr.alloc (pstC p)).cell? ⟨w.heap.size + 1, 0, none⟩ = some (.map (some w.heap.size)) := by rw [Lib.cell_of_heap hbx1]; rfl
      have z7l : w.heap.size + 1 < (wr.alloc (pstC p)).heap.size := by omega
      by_cases hu : p.unit = u
      · have hu1 : (p.unit == u) = true := by simp [hu]
        have HI := Lib.hid (mpF_in_ hp hu)
        clear hp hu
        go_wp2_with (at_mapUpdate; refine stop_intro ?_)
        refine stop_elim ?_
        refine wpList_mapPutS rfl (.tmp 24) (.tmp 25) (.const (.bool true)) 138 (.inl rfl) postKey Tryz.underlying138 hm1 rfl p rfl true rfl ?_
        intro w2 hm2 hg2
        have b2 := b1.grown hg2 b1.size (fun k hk => by injection hk; omega)
        have hbx2 := (hg2.block (w.heap.size + 1) z7l (fun e => by injection e; omega)).trans hbx1
        have hsz2 := Nat.le_trans hsz1 hg2.size
        rw [← HI.out] at hm2
        clear hm hm1 hbx hbx1 hg2
        go_wp2
        go_roundw
        case rel => exact ⟨k + 1, by omega, by go_num, hm2, hbx2, b2, hsz2⟩
        case measure => simp [intOf]; omega
      · have hu1 : (p.unit == u) = false := by simp [hu]
        rw [← mpF_out hp hu] at hm1
        clear hp hu
        go_wp2
        go_roundw
        case rel => exact ⟨k + 1, by omega, by go_num, hm1, hbx1, b1, hsz1⟩
        case measure => simp [intOf]; omega
    · have hki : ¬ (k : Int) < (l.length : Int) := by omega
      rw [List.take_of_length_le (by omega)] at hm
      have H0 := Lib.hid (show supF l u ns = [] ++ (l.drop 0).filter fun p => decide (p.unit = u) && ns.any (supB (ownB l u) p) from rfl)
      obtain ⟨wo, rfl⟩ : ∃ wo : World, wo = wr := ⟨_, rfl⟩
      have HMW := Lib.hid (fun (W : World) (hW : Below (w.heap.size + 2) wo W) => (⟨hm.below (B := w.heap.size + 2) hW (by omega), (by rw [Lib.cell_of_heap ((hW.block (w.heap.size + 1) (by omega)).trans hbx)]; rfl), by have := hW.size; omega, bw.trans (hW.mono (by omega))⟩ : MapF W w.heap.size (fun x : Post => pstV x) Value.bool (mpF l u) ∧ W.cell? ⟨w.heap.size + 1, 0, none⟩ = some (.map (some w.heap.size)) ∧ w.heap.size + 1 < W.heap.size ∧ Below w.heap.size w W))
      clear hm hbx
      go_wp2
      go_loopw [10, 29] (fun o i wr => ∃ (k : Nat) (os : List Post), k ≤ l.length ∧ os.length ≤ k ∧ i = .int .i64 k ∧ Hid (supF l u ns = os ++ (l.drop k).filter fun p => decide (p.unit = u) && ns.any (supB (ownB l u) p)) ∧ OwnRep 4 (flat Post.enc) 36 (w.heap.size + 2) wr os o ∧ Below (w.heap.size + 2) wo wr) (fun _ i _ => l.length - (intOf i).toNat)
      case atStart => exact ⟨0, [], Nat.zero_le _, by simp, rfl, H0, OwnRep.nil_, Below.refl _ _⟩
      case round =>
        clear H0
        obtain ⟨k, os, hk, hos, rfl, HS, hown, bi⟩ := hrel
        obtain ⟨Ao, co, rfl, -⟩ := id (hown.toSl pstS)
        obtain ⟨hm, z7, z7l, bw⟩ := HMW.out _ bi
        by_cases hlt : k < l.length
        · obtain ⟨p, hp⟩ := get_at l hlt
          obtain ⟨b, off, rfl, hbB, q0, q1, q2, q3⟩ := Posts.at_ (HR.out _ bw).1 hp
          have hbw : b < wr.heap.size := by have : b < B := hbB; have := bw.size; omega
          have hki : (k : Int) < (l.length : Int) := by omega
          have hwk : IntKind.i64.wrap ((k : Int) + 1) = (k : Int) + 1 := IntWalk.i64_in _ (by omega)
          have hpl := HPP.out p (List.mem_of_getElem? hp)
          have HD := Lib.hid (show supF l u ns = os ++ ((if (decide (p.unit = u) && ns.any (supB (ownB l u) p)) = true then [p] else []) ++ (l.drop (k + 1)).filter fun p => decide (p.unit = u) && ns.any (supB (ownB l u) p)) by
            rw [HS.out, drop_at hp, List.filter_cons]
            split <;> rfl)
          have b1 := bi.alloc (Nat.le_trans (by omega) (show w.heap.size + 2 ≤ wr.heap.size by omega)) (pstC p)
          have bN : Below wr.heap.size wr (wr.alloc (pstC p)) := (Below.refl _ _).alloc (Nat.le_refl _) _
          have hownN := hown.below pstS bN
          have hp12 : (wr.alloc (pstC p)).heap[wr.heap.size]? = some (pstC p) := heap_newX wr _
          obtain ⟨c0, c1, c2, c3, cl⟩ := pst_cells hp12
          clear hp HS hown
          by_cases hu : p.unit = u
          · have hu1 : (p.unit == u) = true := by simp [hu]
            have HD := Lib.hid (show supF l u ns = os ++ ((if ns.any (supB (ownB l u) p) = true then [p] else []) ++ (l.drop (k + 1)).filter fun p => decide (p.unit = u) && ns.any (supB (ownB l u) p)) by
              rw [HD.out, decide_eq_true hu]; rfl)
            have HAN := Lib.hid (by
              obtain ⟨-, z7', z7l', bw'⟩ := HMW.out _ b1
              have := askAny_c 105 #[.pointer (some ⟨w.heap.size + 1, 0, none⟩), .pointer (some ⟨wr.heap.size, 0, none⟩)] (supB (ownB l u) p) ns (.slice An ns.length cn) (wr.alloc (pstC p)) B (Nat.le_trans hB bw'.size) (HR.out _ bw').2.1 (fun _ _ => by kernel_rfl) (fun x W' hx hW' => by
                obtain ⟨hm', z7'', z7l'', bw''⟩ := HMW.out _ (b1.trans (hW'.mono (by have := b1.size; omega)))
                have := support1_c (mpF l u) w.heap.size (w.heap.size + 1) wr.heap.size p x W' hm' (fun _ _ h => mpF_true h) z7'' z7l'' ((hW'.block wr.heap.size (by simp)).trans hp12) (HSS.out x hx) hpl (HR.out _ bw'').2.2
                rwa [mpF_in] at this)
              exact this)
            generalize ns.any (supB (ownB l u) p) = ok at *
            clear hm z7 z7l hu
            go_wp2_with fail
            refine HAN.out.mono ?_
            rintro e w2 ⟨rfl, hb2⟩
            have b2 := bnd_call b1 hsz hb2
            have hown2 := hownN.below pstS hb2
            have hp2 := (hb2.block wr.heap.size (by simp)).trans hp12
            clear c0 c1 c2 c3 cl hownN hp12 q0 q1 q2 q3 hb2
            obtain ⟨c0, c1, c2, c3, cl⟩ := pst_cells hp2
            cases ok
            · have HY := Lib.hid (show supF l u ns = os ++ (l.drop (k + 1)).filter fun p => decide (p.unit = u) && ns.any (supB (ownB l u) p) by rw [HD.out]; rfl)
              clear HD
              go_wp2
              go_roundw
              case rel => exact ⟨k + 1, os, by omega, by omega, by go_num, HY, hown2, b2⟩
              case measure => simp [intOf]; omega
            · have HY := Lib.hid (show supF l u ns = (os ++ [p]) ++ (l.drop (k + 1)).filter fun p => decide (p.unit = u) && ns.any (supB (ownB l u) p) by
                rw [HD.out, if_pos rfl, List.append_assoc])
              clear HD
              go_wp2_with (at_builtin; refine stop_intro ?_)
              refine stop_elim ?_
              refine wpList_app1 rfl pstS pstE_ (w.heap.size + 2) (.tmp 42) (.tmp 44) rfl rfl hown2 (y := p) rfl rfl (by omega) (by decide) (Nat.le_trans hsz b2.size) ?_
              intro v6 w6 hown6 hb6
              have b6 := hb6 _ _ (Nat.le_refl _) b2
              clear hown2 hb6
              obtain ⟨A6, c6, rfl, -⟩ := id (hown6.toSl pstS)
              rw [show (os ++ [p]).length = os.length + 1 by simp] at hown6 ⊢
              go_wp2
              go_roundw
              case rel => exact ⟨k + 1, os ++ [p], by omega, by simp; omega, by go_num, HY, hown6, b6⟩
              case measure => simp [intOf]; omega
          · have hu1 : (p.unit == u) = false := by simp [hu]
            have HD := Lib.hid (show supF l u ns = os ++ (l.drop (k + 1)).filter fun p => decide (p.unit = u) && ns.any (supB (ownB l u) p) by
              rw [HD.out, decide_eq_false hu]; rfl)
            clear hu
            go_wp2
            go_roundw
            case rel => exact ⟨k + 1, os, by omega, by omega, by go_num, HD, hownN, b1⟩
            case measure => simp [intOf]; omega
        · have hki : ¬ (k : Int) < (l.length : Int) := by omega
          have HX := Lib.hid (show supF l u ns = os by rw [HS.out, List.drop_of_length_le (by omega)]; simp)
          have HO := Lib.hid hown
          clear hown HS
          go_wp2
          go_ret
          exact ⟨_, rfl, by rw [HX.out]; exact HO.out.base_le (by omega), bw⟩
/-- what Support returns -/
def suppE (l : List Post) (q : List Ask) : Int := if chkL l ≠ 0 ∨ askE q ≠ 0 then 1 else 0
def suppL (l : List Post) (u : Int) (q : List Ask) : List Post := if suppE l q = 0 then supF l u (posG q 0) else []
theorem posG_sub : ∀ (l : List Ask) (n : Nat), ∀ a ∈ posG l n, a ∈ l
  | [], n, a, h => by cases n <;> simp [posG] at h
  | b :: r, 0, a, h => by
    unfold posG at h
    split at h
    · exact List.mem_cons_of_mem _ (posG_sub r 1 a h)
    · split at h
      · rcases List.mem_cons.1 h with rfl | h
        · simp
        · exact List.mem_cons_of_mem _ (posG_sub r 0 a h)
      · exact List.mem_cons_of_mem _ (posG_sub r 0 a h)
  | b :: r, n + 1, a, h => by
    unfold posG at h
    exact List.mem_cons_of_mem _ (posG_sub r _ a h)
theorem posG_len : ∀ (l : List Ask) (n : Nat), (posG l n).length ≤ l.length
  | [], n => by cases n <;> simp [posG]
  | b :: r, 0 => by
    unfold posG
    have h1 := posG_len r 1
    have h0 := posG_len r 0
    split
    · simp; omega
    · split <;> simp <;> omega
  | b :: r, n + 1 => by
    unfold posG
    have := posG_len r (n + prtN b.op)
    simp; omega
set_option maxRecDepth 100000 in
set_option maxHeartbeats 4000000 in
theorem Support_c (l : List Post) (u : Int) (q : List Ask) (v vq : Value) (w : World) (B : Nat) (hB : B ≤ w.heap.size) (h : Posts w B l v) (hq : Asks w B q vq) (hw : ∀ p ∈ l, p.word.size ≤ 1000000) (hs : ∀ a ∈ q, a.text.size ≤ 1000000) (hV : VarOk w) :
    Calls Tryz.prog 24 #[v, .int .i64 u, vq] w fun e w' => ∃ v', e = .returned (.tuple #[v', .int .i64 (suppE l q)]) ∧ OwnRep 4 (flat Post.enc) 36 w.heap.size w' (suppL l u q) v' ∧ Below w.heap.size w w' := by
  have HCK := Lib.hid (icheck_c l v w B hB h hw)
  have HQC := Lib.hid (fun (W : World) (hW : Below w.heap.size w W) => qcheck_c q vq W B (Nat.le_trans hB hW.size) (hq.below askS (hW.mono hB)) hs (hV.below hW))
  by_cases h0 : chkL l = 0
  · by_cases h1 : askE q = 0
    · have HE := Lib.hid (show suppE l q = 0 ∧ suppL l u q = supF l u (posG q 0) by
        have : suppE l q = 0 := by unfold suppE; rw [if_neg (by simp [h0, h1])]
        exact ⟨this, by unfold suppL; rw [if_pos this]⟩)
      have HPO := Lib.hid (fun (W : World) (hW : Below w.heap.size w W) => positive_c q vq W B (Nat.le_trans hB hW.size) (hq.below askS (hW.mono hB)) (by have := (askE_zero h1).1; omega))
      have HSU := Lib.hid (fun (vn : Value) (W : World) (hW : Below w.heap.size w W) (hn : Asks W W.heap.size (posG q 0) vn) => support_c l u (posG q 0) v vn W W.heap.size (Nat.le_refl _) ((h.below pstS (hW.mono hB)).mono pstS (Nat.le_trans hB hW.size)) hn (by have := (chkL_zero h0).1; omega) (fun a ha => hs a (posG_sub q 0 a ha)) (fun p hp => by
        have := (chkL_zero h0).2.1 p hp
        unfold rightP at this
        simp only [Bool.and_eq_true, decide_eq_true_eq] at this
        omega) (hV.below hW))
      rw [h0] at HCK
      rw [h1] at HQC
      obtain ⟨A, c, rfl, -⟩ := id h
      obtain ⟨Aq, cq, rfl, -⟩ := id hq
      rw [HE.out.1, HE.out.2]
      clear h0 h1 h hq hw hs hV
      go_enter Tryz.func24, Tryz.ntmps24
      go_wp2_with fail
      refine HCK.out.mono ?_
      rintro e w1 ⟨rfl, b1⟩
      go_wp2_with fail
      refine (HQC.out _ b1).mono ?_
      rintro e w2 ⟨rfl, hb2⟩
      have b2 := b1.trans (hb2.mono b1.size)
      go_wp2_with fail
      refine (HPO.out _ b2).mono ?_
      rintro e w3 ⟨vn, rfl, hown, hb3⟩
      have b3 := b2.trans (hb3.mono b2.size)
      have hn := hown.toSl askS
      go_wp2_with fail
      refine (HSU.out _ _ b3 hn).mono ?_
      rintro e w4 ⟨v4, rfl, hown4, hb4⟩
      have b4 := b3.trans (hb4.mono b3.size)
      clear hown hn
      have HO := Lib.hid (hown4.base_le b3.size)
      obtain ⟨A4, c4, rfl, -⟩ := id (hown4.toSl pstS)
      clear hown4
      go_wp2
      go_ret2
      exact ⟨_, rfl, HO.out, b4⟩
    · have HE := Lib.hid (show suppE l q = 1 ∧ suppL l u q = [] by
        have : suppE l q = 1 := by unfold suppE; rw [if_pos (.inr h1)]
        exact ⟨this, by unfold suppL; rw [this]; rfl⟩)
      have h1' : (askE q != 0) = true := by simp [h1]
      rw [h0] at HCK
      rw [HE.out.1, HE.out.2]
      obtain ⟨A, c, rfl, -⟩ := id h
      obtain ⟨Aq, cq, rfl, -⟩ := id hq
      generalize askE q = z at *
      clear h0 h1 h hq hw hs hV
      go_enter Tryz.func24, Tryz.ntmps24
      go_wp2_with fail
      refine HCK.out.mono ?_
      rintro e w1 ⟨rfl, b1⟩
      go_wp2_with fail
      refine (HQC.out _ b1).mono ?_
      rintro e w2 ⟨rfl, hb2⟩
      go_wp2
      go_ret2
      exact ⟨_, rfl, OwnRep.nil_, b1.trans (hb2.mono b1.size)⟩
  · have HE := Lib.hid (show suppE l q = 1 ∧ suppL l u q = [] by
      have : suppE l q = 1 := by unfold suppE; rw [if_pos (.inl h0)]
      exact ⟨this, by unfold suppL; rw [this]; rfl⟩)
    have h0' : (chkL l != 0) = true := by simp [h0]
    rw [HE.out.1, HE.out.2]
    obtain ⟨A, c, rfl, -⟩ := id h
    obtain ⟨Aq, cq, rfl, -⟩ := id hq
    generalize chkL l = z at *
    clear h0 h hq hw hs hV
    go_enter Tryz.func24, Tryz.ntmps24
    go_wp2_with fail
    refine HCK.out.mono ?_
    rintro e w1 ⟨rfl, b1⟩
    go_wp2
    go_ret2
    exact ⟨_, rfl, OwnRep.nil_, b1⟩
end Go.Proofs.YtngodakkdhdmjaaGreatDoor
