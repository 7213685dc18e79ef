/- TreeLines returns true. -/
import Derived.Test.YthbccfchjgihgaaGreatDoorLwO
namespace Go.Proofs.YthbccfchjgihgaaGreatDoor
open Go.RowKit

def afN : Nat → List UInt8 → List UInt8 → List (List UInt8)
  | 0, acc, l => [acc ++ l]
  | _ + 1, acc, [] => [acc]
  | k + 1, acc, x :: r => if x = 10 then (acc ++ [x]) :: afN k [] r else afN (k + 1) (acc ++ [x]) r
theorem afN_G : ∀ (l : List UInt8) (k : Nat) (acc : List UInt8), l.count 10 ≤ k → afN k acc l = afterG acc l
  | [], k, acc, _ => by cases k <;> simp [afN, afterG]
  | x :: r, 0, acc, h => by
    have hx : x ≠ 10 := fun e => by subst e; rw [List.count_cons_self] at h; omega
    have hr : r.count 10 ≤ 0 := by rwa [List.count_cons_of_ne hx] at h
    have ih := afN_G r 0 (acc ++ [x]) hr
    unfold afterG
    rw [if_neg hx, ← ih]
    simp [afN]
  | x :: r, k + 1, acc, h => by
    unfold afN afterG
    by_cases hx : x = 10
    · subst hx
      rw [if_pos rfl, if_pos rfl, afN_G r k [] (by rw [List.count_cons_self] at h; omega)]
    · rw [if_neg hx, if_neg hx, afN_G r (k + 1) (acc ++ [x]) (by rwa [List.count_cons_of_ne hx] at h)]
theorem afN_cons (k : Nat) (cur : List UInt8) (x : UInt8) (r : List UInt8) : afN (k + 1) cur (x :: r) = if x = 10 then (cur ++ [x]) :: afN k [] r else afN (k + 1) (cur ++ [x]) r := by rw [afN]
theorem afN_index : ∀ (l : List UInt8) (k : Nat) (cur : List UInt8), afN (k + 1) cur l = if Lib.index l [10] = -1 then [cur ++ l] else (cur ++ l.take ((Lib.index l [10]).toNat + 1)) :: afN k [] (l.drop ((Lib.index l [10]).toNat + 1))
  | [], k, cur => by simp [afN, Lib.index]
  | x :: r, k, cur => by
    rw [afN_cons, show Lib.index (x :: r) [10] = if ([10] : List UInt8).isPrefixOf (x :: r) then 0 else if Lib.index r [10] == -1 then -1 else Lib.index r [10] + 1 from by rw [Lib.index]]
    by_cases hx : x = 10
    · subst hx
      simp [List.isPrefixOf]
    · have hp : ([10] : List UInt8).isPrefixOf (x :: r) = false := by simp [List.isPrefixOf, Ne.symm hx]
      rw [if_neg hx, hp, afN_index r k (cur ++ [x])]
      have hge := Lib.index_ge r [10]
      by_cases hm : Lib.index r [10] = -1
      · simp [hm]
      · obtain ⟨j, hj⟩ : ∃ j : Nat, Lib.index r [10] = j := ⟨(Lib.index r [10]).toNat, by omega⟩
        have e1 : ((j : Int) == -1) = false := by simp
        have e2 : ¬ ((j : Int) = -1) := by omega
        have e3 : ¬ ((j : Int) + 1 = -1) := by omega
        have e4 : ((j : Int) + 1).toNat = j + 1 := by omega
        rw [hj]
        simp [e1, e2, e3, e4]
theorem splitK_af : ∀ (k : Nat) (l : List UInt8), Lib.splitK [10] 1 k l = afN k [] l
  | 0, l => by simp [Lib.splitK, afN]
  | k + 1, l => by
    rw [afN_index]
    unfold Lib.splitK
    by_cases h : Lib.index l [10] = -1
    · simp [h]
    · rw [if_neg (by simpa using h), if_neg h, splitK_af k]
      simp
/-- the lines of a text, each with its end -/
def linesB (s : ByteArray) : List ByteArray := Lib.splitB ⟨#[10]⟩ 1 (Lib.countB s ⟨#[10]⟩) s
theorem lines_is (s : ByteArray) : (linesB s).map (fun x => x.data.toList) = afterG [] s.data.toList := by
  unfold linesB
  rw [Lib.splitB_data]
  have : Lib.countB s ⟨#[10]⟩ = s.data.toList.count 10 := Lib.count_one 10 s.data.toList
  rw [this]
  show Lib.splitK [10] 1 _ _ = _
  rw [splitK_af, afN_G _ _ _ (Nat.le_refl _)]
theorem lines_len (s : ByteArray) : (linesB s).length = Lib.countB s ⟨#[10]⟩ + 1 := Lib.splitB_all ⟨#[10]⟩ (by decide) 1 _ s rfl
theorem count_le (s : ByteArray) : Lib.countB s ⟨#[10]⟩ ≤ s.size := Lib.countB_le ⟨#[10]⟩ (by decide) _ s (Nat.le_refl _)
theorem sl_newS {W : World} {g n : Nat} {xs : List ByteArray} {cs : Array Value} (h : W.heap[g]? = some (.cells cs 9 (0, 0))) (hc : ∀ (i : Nat) x, xs[i]? = some x → cs[i]? = some (.string x)) (hn : n = xs.length) (hm : n ≤ 9223372036854775807) : SlRep 1 (flat strEnc) W (fun b => b = g) xs (.slice (some ⟨g, 0, none⟩) n n) := by
  subst hn
  refine ⟨_, xs.length, rfl, Nat.le_refl _, by omega, fun i x hx => ⟨g, 0, strEnc x, rfl, rfl, rfl, fun j u hu => ?_⟩⟩
  rw [Lib.cell_of_heap h]
  rcases j with _ | j
  · simp [strEnc] at hu
    subst hu
    simpa using hc i x hx
  · simp [strEnc] at hu
set_option maxRecDepth 100000 in
theorem after_c (s : ByteArray) (w : World) (hs : s.size ≤ 100000000) (hV : VarOk w) :
    Calls Tryz.prog 40 #[.string s, .string ⟨#[10]⟩] w fun e w' => ∃ A, e = .returned (.slice A (linesB s).length (linesB s).length) ∧ SlRep 1 (flat strEnc) w' (fun b => b < w'.heap.size) (linesB s) (.slice A (linesB s).length (linesB s).length) ∧ Below w.heap.size w w' := by
  obtain ⟨⟨m, hm⟩, -⟩ := hV
  have hl := lines_len s
  have hc := count_le s
  have HG := Lib.hid (Tryz.strings_genSplit s ⟨#[10]⟩ 1 (-1) (linesB s).length m w (by omega) hm (Nat.le_refl _) (Nat.le_refl _) (by decide) (by decide) (by rw [if_pos (by decide), hl]; omega))
  rw [hl, Nat.add_sub_cancel] at HG
  rw [← hl] at HG
  have HG := Lib.hid (show Calls Tryz.prog 81 #[.string s, .string ⟨#[10]⟩, .int .i64 1, .int .i64 (-1)] w fun e w' => e = .returned (.slice (some ⟨w.heap.size, 0, none⟩) (linesB s).length (linesB s).length) ∧ w' = w.alloc (.cells (Lib.cellsOf (linesB s) (linesB s).length) 9) from HG.out)
  clear hl hm
  go_enter Tryz.func40, Tryz.ntmps40
  go_wp2_with fail
  refine HG.out.mono ?_
  rintro e w1 ⟨rfl, rfl⟩
  go_wp2
  go_ret
  refine ⟨_, rfl, (sl_newS (heap_newT w _) (fun i x hx => ?_) rfl (by have := lines_len s; omega)).monoF strS (fun b hb => by subst hb; simp), (Below.refl _ _).alloc (Nat.le_refl _) _⟩
  have hi := lt_of_at hx
  unfold Lib.cellsOf
  rw [List.getElem?_toArray, List.getElem?_append_left (by rw [List.length_map]; exact hi), List.getElem?_map, hx]
  rfl
/-- a line of the outline -/
structure LineAt (t : Tre) (u : Int) (c : Brn) (n : Nat) (ll tr : ByteArray) : Prop where
  mem : c ∈ t.brs
  idu : c.id = u
  pth : (pthF t.brs c.id).length = n + 1
  dep : n ≤ 12
  trm : (⟨(Lib.trimLeftB ll.data.toList 32).toArray⟩ : ByteArray) = tr
  siz : ll.size = 2 * n + tr.size
  lim : tr.size ≤ 300 ∧ c.title.size ≤ 64 ∧ c.mark.size ≤ 64
  tit : Lib.contains tr.data.toList (⟨#[32]⟩ ++ c.title : ByteArray).data.toList = true
  endl : Lib.hasSuffix tr.data.toList [10] = true
  mrk : c.mark ≠ ⟨#[]⟩ → Lib.hasSuffix tr.data.toList (⟨#[32, 91]⟩ ++ c.mark ++ ⟨#[93, 10]⟩ : ByteArray).data.toList = true
theorem suffix_of (a b : List UInt8) : Lib.hasSuffix (a ++ b) b = true := by
  unfold Lib.hasSuffix
  rw [List.isSuffixOf_iff_suffix]
  exact ⟨a, rfl⟩
theorem lines_at {t : Tre} (hr : rightT t = true) {s : ByteArray} (hs : s.data.toList = printT t) : (linesB s).length = (belT t 0).length + 1 ∧ (∀ z, (linesB s)[(belT t 0).length]? = some z → z = ⟨#[]⟩) ∧ ∀ (i : Nat) (u : Int), (belT t 0)[i]? = some u → ∃ c n ll tr, (linesB s)[i]? = some ll ∧ LineAt t u c n ll tr := by
  have T := right_of hr
  have h0 := lines_is s
  rw [hs, show printT t = (preT t 0).flatMap fun p => outL (unitO t.brs p.1) p.2 by unfold printT; rw [if_pos hr], T.lines] at h0
  have hbl : (belT t 0).length = (linesT t).length := by unfold belT linesT; rw [List.length_map, List.length_map]
  have hlen : (linesB s).length = (belT t 0).length + 1 := by
    have := congrArg List.length h0
    rw [List.length_map, List.length_append, ← hbl] at this
    exact this
  refine ⟨hlen, fun z hz => ?_, fun i u hu => ?_⟩
  · rw [hbl] at hz
    have := congrArg (fun l => l[(linesT t).length]?) h0
    simp only [List.getElem?_map, hz, List.getElem?_append_right (Nat.le_refl _), Nat.sub_self] at this
    simp at this
    exact ByteArray.ext (by simpa using this)
  · unfold belT at hu
    rw [List.getElem?_map] at hu
    obtain ⟨⟨x, n⟩, hp, rfl⟩ := Option.map_eq_some_iff.1 hu
    obtain ⟨c, hc, rfl, hd⟩ := T.pre_dep (List.mem_of_getElem? hp)
    have hil : i < (linesT t).length := by unfold linesT; rw [List.length_map]; exact lt_of_at hp
    obtain ⟨ll, hll⟩ := get_at (linesB s) (show i < (linesB s).length by omega)
    have hx : ll.data.toList = outL c n := by
      have := congrArg (fun l => l[i]?) h0
      simp only [List.getElem?_map, hll, List.getElem?_append_left hil] at this
      unfold linesT at this
      rw [List.getElem?_map, hp] at this
      simp only [Option.map_some, Option.some.injEq] at this
      rw [this, T.unit_of hc]
    obtain ⟨-, d, r, hb, hd32⟩ := body_no (b := c) (by have := T.pos c hc; omega) (T.name c hc).1 (T.name c hc).2
    have htr : Lib.trimLeftB ll.data.toList 32 = bodyL c ++ [10] := by rw [hx]; exact trim_out hb hd32 n
    have hdl := (T.upIs hc).2
    have ht := name_le (T.name c hc).1
    have hm := T.mark_le hc
    have hsz : (⟨(Lib.trimLeftB ll.data.toList 32).toArray⟩ : ByteArray).size = (bodyL c ++ [10]).length := by rw [htr]; rfl
    have hls : ll.size = (outL c n).length := bytes_size hx
    refine ⟨c, n, ll, _, hll, hc, rfl, ?_, by omega, rfl, ?_, ⟨?_, ht, hm⟩, ?_, ?_, fun hne => ?_⟩
    · unfold pthF
      rw [List.length_reverse]
      exact hd.symm
    · rw [hls, hsz, out_len]
    · have := T.ln_le (⟨(c.id, n), c, hc, rfl, hd⟩ : PX t 0)
      unfold lnX at this
      rw [show unitO t.brs c.id = c from T.unit_of hc, out_len] at this
      rw [hsz]
      omega
    · show Lib.contains (Lib.trimLeftB ll.data.toList 32) _ = true
      rw [htr]
      have := body_title c
      simpa using this
    · show Lib.hasSuffix (Lib.trimLeftB ll.data.toList 32) _ = true
      rw [htr]
      exact suffix_of _ _
    · show Lib.hasSuffix (Lib.trimLeftB ll.data.toList 32) _ = true
      rw [htr]
      obtain ⟨a, ha⟩ := body_mark hne
      rw [ha]
      have := suffix_of a ([32, 91] ++ c.mark.data.toList ++ [93, 10])
      simpa using this
theorem print_no {t : Tre} (h : rightT t = false) : printT t = [] ∧ printE t = 1 ∧ orTopE t 0 = 1 := by
  refine ⟨by unfold printT; rw [h]; rfl, by unfold printE; rw [h]; rfl, ?_⟩
  unfold orTopE
  rw [if_pos rfl, known_nil, if_pos h]
theorem print_yes {t : Tre} (h : rightT t = true) : printE t = 0 ∧ orTopE t 0 = 0 ∧ belR t 0 = belT t 0 ∧ (printT t).length ≤ 300 * t.brs.length := by
  have T := right_of h
  have ho := orTop_mem h (u := 0) (.inl rfl)
  refine ⟨by unfold printE; rw [h]; rfl, ho, by unfold belR; rw [if_neg (by rw [ho]; decide)], ?_⟩
  unfold printT
  rw [if_pos h]
  have hp := T.pre_len (u := 0) (.inl rfl)
  have : ∀ l : List (Int × Nat), (∀ p ∈ l, p ∈ preT t 0) → (l.flatMap fun p => outL (unitO t.brs p.1) p.2).length ≤ 300 * l.length := by
    intro l
    induction l with
    | nil => intro _; simp
    | cons p l ih =>
      intro hl
      obtain ⟨c, hc, hci, hd⟩ := T.pre_dep (x := p.1) (n := p.2) (hl p (by simp))
      have h1 := T.ln_le (⟨(p.1, p.2), c, hc, hci, by rw [Nat.add_zero]; exact hd⟩ : PX t 0)
      unfold lnX at h1
      have h2 := ih (fun q hq => hl q (List.mem_cons_of_mem _ hq))
      rw [List.flatMap_cons, List.length_append, List.length_cons]
      simp only at h1
      omega
  have := this (preT t 0) (fun p hp => hp)
  have : 300 * (preT t 0).length ≤ 300 * t.brs.length := Nat.mul_le_mul_left _ hp
  omega
set_option maxRecDepth 100000 in
set_option maxHeartbeats 8000000 in
theorem lines_law (t : Tre) (vr vb : Value) (w : World) (B : Nat) (hB : B ≤ w.heap.size) (h : TreRep w B t vr vb) (hV : VarOk w) :
    Calls Tryz.prog 10 #[treV vr vb] w fun e w' => e = .returned (.bool true) ∧ Below w.heap.size w w' := by
  have b1 := tre_new w vr vb
  have hs1 : w.heap.size + 1 ≤ (w.alloc (treC vr vb)).heap.size := by simp
  have HC := Lib.hid (show LawC t vr vb w B from ⟨hB, h, hV⟩)
  have KC := Lib.hid (fun (W : World) (hW : Below (w.heap.size + 1) (w.alloc (treC vr vb)) W) => treW_at hW)
  have HUP := Lib.hid (fun (W : World) (hW : Below (w.heap.size + 1) (w.alloc (treC vr vb)) W) => b1.trans (hW.mono (Nat.le_succ _)))
  obtain ⟨Ar, cr, rfl, -⟩ := id h.tops
  obtain ⟨A, ca, rfl, -⟩ := id h.brs
  have bX : Below (w.heap.size + 1) (w.alloc (treC (.slice Ar t.roots.length cr) (.slice A t.brs.length ca))) (w.alloc (treC (.slice Ar t.roots.length cr) (.slice A t.brs.length ca))) := Below.refl _ _
  clear h hV
  go_enter Tryz.func10, Tryz.ntmps10
  go_wp2_with fail
  refine (HC.out.awake (HUP.out _ bX)).mono ?_
  rintro e w1 ⟨rfl, hb1⟩
  have bX := bnd_call bX hs1 hb1
  obtain ⟨z0, z1, zl⟩ := KC.out _ bX
  clear hb1
  go_wp2_with fail
  refine (HC.out.few (HUP.out _ bX)).mono ?_
  rintro e w2 ⟨rfl, hb2⟩
  have bX := bnd_call bX hs1 hb2
  clear z0 z1 zl hb2
  cases hF : fewT t
  · go_wp2_with fail
    refine (HC.out.awake (HUP.out _ bX)).mono ?_
    rintro e w3 ⟨rfl, hb3⟩
    have bX := bnd_call bX hs1 hb3
    go_wp2
    go_ret
    exact ⟨rfl, HUP.out _ bX⟩
  · have HCP := Lib.hid (fun (W : World) (hW : Below w.heap.size w W) => HC.out.cp hF hW)
    have HZ := Lib.hid (few_size hF)
    clear hF
    have HP0 := Lib.hid (fun (x y : Value) (W : World) (hW : Below w.heap.size w W) (hr : TreRep W W.heap.size t x y) => print_c t HZ.out x y W _ (Nat.le_refl _) hr (HC.out.at_ hW).2.2)
    have HB0 := Lib.hid (fun (x y : Value) (W : World) (hW : Below w.heap.size w W) (hr : TreRep W W.heap.size t x y) => Below_c t HZ.out 0 x y W _ (Nat.le_refl _) hr (HC.out.at_ hW).2.2)
    obtain ⟨ce, hce⟩ : ∃ c, printE t = c := ⟨_, rfl⟩
    obtain ⟨s, hs⟩ : ∃ s : ByteArray, ⟨(printT t).toArray⟩ = s := ⟨_, rfl⟩
    obtain ⟨all, hall⟩ : ∃ l, belR t 0 = l := ⟨_, rfl⟩
    have hee : orTopE t 0 = ce := by
      rw [← hce]
      cases hr : rightT t
      · rw [(print_no hr).2.1, (print_no hr).2.2]
      · rw [(print_yes hr).1, (print_yes hr).2.1]
    rw [hce, hs] at HP0
    rw [hee, hall] at HB0
    have HE0 := Lib.hid (fun (h0 : ce ≠ 0) => (by
      cases hr : rightT t
      · rw [← hs, (print_no hr).1]
      · rw [← hce, (print_yes hr).1] at h0; exact absurd rfl h0 : s = ⟨#[]⟩))
    have HE1 := Lib.hid (fun (h0 : ce = 0) => (by
      cases hr : rightT t
      · rw [← hce, (print_no hr).2.1] at h0; cases h0
      · exact ⟨rfl, by rw [← hall, (print_yes hr).2.2.1], by rw [← hs], by
          have := (print_yes hr).2.2.2
          have h2 := HZ.out.brs
          rw [bytes_size (a := s) (l := printT t) (by rw [← hs])]
          omega⟩ : rightT t = true ∧ all = belT t 0 ∧ s.data.toList = printT t ∧ s.size ≤ 30000000))
    clear hce hs hall hee
    obtain ⟨z0, z1, zl⟩ := KC.out _ bX
    go_wp2_with fail
    refine (HCP.out _ (HUP.out _ bX)).mono ?_
    rintro e w3 ⟨x3, y3, rfl, hr3, hb3⟩
    have bX := bnd_call bX hs1 hb3
    clear z0 z1 zl hb3
    go_wp2_with fail
    refine (HP0.out _ _ _ (HUP.out _ bX) hr3).mono ?_
    rintro e w4 ⟨rfl, hb4⟩
    have bX := bnd_call bX hs1 hb4
    clear hr3 hb4
    obtain ⟨z0, z1, zl⟩ := KC.out _ bX
    go_wp2_with fail
    refine (HCP.out _ (HUP.out _ bX)).mono ?_
    rintro e w5 ⟨x5, y5, rfl, hr5, hb5⟩
    have bX := bnd_call bX hs1 hb5
    clear z0 z1 zl hb5
    go_wp2_with fail
    refine (HB0.out _ _ _ (HUP.out _ bX) hr5).mono ?_
    rintro e w6 ⟨va, rfl, hown6, hb6⟩
    have bX := bnd_call bX hs1 hb6
    have ha6 := hown6.toSl intS
    clear hr5 hb6 hown6 HB0 HP0
    obtain ⟨z0, z1, zl⟩ := KC.out _ bX
    by_cases h0 : ce = 0
    · obtain ⟨hr, hal, hst, hss⟩ := HE1.out h0
      have T := right_of hr
      obtain ⟨hl1, hl2, hl3⟩ := lines_at hr hst
      rw [← hal] at hl1 hl2 hl3
      have hn : all.length ≤ 100000 := by rw [hal, all_len hr]; exact HZ.out.brs
      have HLS := Lib.hid hl3
      have HLZ := Lib.hid hl2
      have HFI := Lib.hid (fun (c : Brn) (hc : c ∈ t.brs) (W : World) (hW : Below w.heap.size w W) => (by
        have := find_c t c.id (.slice Ar t.roots.length cr) (.slice A t.brs.length ca) W B (HC.out.at_ hW).1 (HC.out.at_ hW).2.1
        rwa [findU_mem T hc] at this : Calls Tryz.prog 18 #[treV (.slice Ar t.roots.length cr) (.slice A t.brs.length ca), .int .i64 c.id] W fun e w' => e = .returned (.tuple #[untV c, .bool true]) ∧ Below W.heap.size W w'))
      have HPA := Lib.hid (fun (c : Brn) (hc : c ∈ t.brs) (x y : Value) (W : World) (hW : Below w.heap.size w W) (hr' : TreRep W W.heap.size t x y) => (by
        have := Path_c t HZ.out c.id x y W _ (Nat.le_refl _) hr' (HC.out.at_ hW).2.2
        rwa [pathR_mem hr hc, known_mem hr hc] at this : Calls Tryz.prog 25 #[treV x y, .int .i64 c.id] W fun e w' => ∃ v', e = .returned (.tuple #[v', .int .i64 0]) ∧ OwnRep 1 (flat intEnc) 3 W.heap.size w' (pthF t.brs c.id) v' ∧ Below W.heap.size W w'))
      have HAF := Lib.hid (fun (W : World) (hW : Below w.heap.size w W) => after_c s W (by omega) (HC.out.at_ hW).2.2)
      obtain ⟨ls, hls⟩ : ∃ ls, linesB s = ls := ⟨_, rfl⟩
      rw [hls] at HAF hl1 HLS HLZ
      clear HE0 HE1 hl2 hl3 hls
      subst h0
      clear hr hal T hst hss
      obtain ⟨Aa, cap, rfl, hcap1, hcap2, -⟩ := id ha6
      go_wp2_with fail
      refine (HAF.out _ (HUP.out _ bX)).mono ?_
      rintro e w7 ⟨Al, rfl, hsl7, hb7⟩
      have bX := bnd_call bX hs1 hb7
      have ha7 := (ha6.below intS hb7).mono intS hb7.size
      have HA7 := Lib.hid ha7
      have HS7 := Lib.hid hsl7
      obtain ⟨lz, hlz⟩ := get_at ls (show all.length < ls.length by omega)
      have hlze := HLZ.out lz hlz
      obtain ⟨bl, ol, rfl, hbl, q9⟩ := Strs.at_ hsl7 hlz
      have hbl' : bl < w7.heap.size := hbl
      obtain ⟨nl, hnl⟩ : ∃ n, ls.length = n := ⟨_, rfl⟩
      rw [hnl] at hl1 HS7 ⊢
      subst hl1
      subst hlze
      have hwn : IntKind.i64.wrap ((all.length : Int) + 1) = ((all.length + 1 : Nat) : Int) := by rw [IntWalk.i64_in _ (by omega)]; omega
      have hlk : (all.length : Int) < ((all.length + 1 : Nat) : Int) := by omega
      have HUW := Lib.hid (fun (W : World) (hW : Below w7.heap.size w7 W) => (by
        have h1 := bX.trans (hW.mono (by have := bX.size; simp at this; omega))
        exact ⟨HUP.out _ h1, KC.out _ h1⟩ : Below w.heap.size w W ∧ W.cell? ⟨w.heap.size, 0, none⟩ = some (.slice Ar t.roots.length cr) ∧ W.cell? ⟨w.heap.size, 1, none⟩ = some (.slice A t.brs.length ca) ∧ w.heap.size < W.heap.size))
      clear ha6 ha7 hsl7 hb7 hlz hnl hbl z0 z1 zl
      go_wp2
      clear hwn hlk q9 hbl'
      go_loopw [66] (fun i wr => ∃ k : Nat, k ≤ all.length ∧ i = .int .i64 k ∧ Below w7.heap.size w7 wr) (fun i _ => all.length - (intOf i).toNat)
      case atStart => exact ⟨0, Nat.zero_le _, rfl, Below.refl _ _⟩
      case round =>
        obtain ⟨i, hi, rfl, bi⟩ := hrel
        obtain ⟨bw, z0, z1, zl⟩ := HUW.out _ bi
        by_cases hlt : i < all.length
        · obtain ⟨u, hu⟩ := get_at all hlt
          obtain ⟨c, n, ll, tr, hll, hL⟩ := HLS.out i u hu
          have hcu := hL.idu
          subst hcu
          obtain ⟨ba, oa, rfl, hba, q0⟩ := Ints.at_ (HA7.out.below intS bi) hu
          have hba' : ba < wr.heap.size := Nat.lt_of_lt_of_le hba bi.size
          have HLL := Lib.hid (fun (W : World) (hW : Below w7.heap.size w7 W) => (by
            obtain ⟨_, _, e9, hb9, q⟩ := Strs.at_ (HS7.out.below strS hW) hll
            cases e9
            exact ⟨q, Nat.lt_of_lt_of_le hb9 hW.size⟩ : W.cell? ⟨bl, ol + i, none⟩ = some (.string ll) ∧ bl < W.heap.size))
          have HFC := Lib.hid (HFI.out c hL.mem)
          have HPC := Lib.hid (HPA.out c hL.mem)
          have hii : (i : Int) < (all.length : Int) := by omega
          have hij : (i : Int) < ((all.length + 1 : Nat) : Int) := by omega
          have hwi : IntKind.i64.wrap ((i : Int) + 1) = (i : Int) + 1 := IntWalk.i64_in _ (by omega)
          have HL := Lib.hid hL
          clear hu hll hL hba
          go_wp2_with fail
          refine (HFC.out _ bw).mono ?_
          rintro e w8 ⟨rfl, hb8⟩
          have oU : Below w8.heap.size w8 (w8.alloc (untC c)) := (Below.refl _ _).alloc (Nat.le_refl _) _
          have hb8 := hb8.trans (oU.mono hb8.size)
          have bi := bnd_call bi (Nat.le_refl _) hb8
          have dX : Below (w8.heap.size + 1) (w8.alloc (untC c)) (w8.alloc (untC c)) := Below.refl _ _
          have hs8 : w8.heap.size + 1 ≤ (w8.alloc (untC c)).heap.size := by simp
          have KU := Lib.hid (fun (W : World) (hW : Below (w8.heap.size + 1) (w8.alloc (untC c)) W) => unt_cells ((hW.block w8.heap.size (by omega)).trans (heap_newT w8 (untC c))))
          clear z0 z1 zl bw hb8 oU q0
          obtain ⟨bw, z0, z1, zl⟩ := HUW.out _ bi
          go_wp2_with fail
          refine (HCP.out _ bw).mono ?_
          rintro e w9 ⟨x9, y9, rfl, hr9, hb9⟩
          have bi := bnd_call bi (Nat.le_refl _) hb9
          have dX := bnd_call dX hs8 hb9
          clear z0 z1 zl bw hb9
          obtain ⟨bw, z0, z1, zl⟩ := HUW.out _ bi
          go_wp2_with fail
          refine (HPC.out _ _ _ bw hr9).mono ?_
          rintro e wA ⟨vp, rfl, hownP, hbA⟩
          have bi := bnd_call bi (Nat.le_refl _) hbA
          have dX := bnd_call dX hs8 hbA
          obtain ⟨Ap, cp, rfl, -⟩ := id (hownP.toSl intS)
          obtain ⟨np, hnp⟩ : ∃ np, (pthF t.brs c.id).length = np := ⟨_, rfl⟩
          have hnp1 : np = n + 1 := by rw [← hnp]; exact HL.out.pth
          rw [hnp]
          subst hnp1
          obtain ⟨l0, ll0⟩ := HLL.out _ bi
          have HTR := Lib.hid (fun (W : World) => (by
            have := Tryz.strings_TrimLeft_one ll 32 (by decide) W
            rwa [HL.out.trm] at this : Calls Tryz.prog 41 #[.string ll, .string ⟨#[32]⟩] W fun e w' => e = .returned (.string tr) ∧ w' = W))
          clear bw z0 z1 zl
          obtain ⟨bw, -, -, -⟩ := HUW.out _ bi
          obtain ⟨⟨m, hm⟩, -⟩ := (HC.out.at_ bw).2.2
          obtain ⟨u0, u1, u2, u3, u4, ul⟩ := KU.out _ dX
          have hlim := HL.out.lim
          have hdep := HL.out.dep
          have hsz := HL.out.siz
          clear hbA hr9 hownP hnp
          go_wp2_with fail
          refine (HTR.out _).mono ?_
          rintro e wB ⟨rfl, hwB⟩
          subst hwB
          obtain ⟨q, hq⟩ : ∃ q : Int, q = 2 * (n : Int) := ⟨_, rfl⟩
          have hk1 : IntKind.i64.wrap ((ll.size : Int) - (tr.size : Int)) = q := by rw [IntWalk.i64_in _ (by omega)]; omega
          have hk2 : IntKind.i64.wrap (((n + 1 : Nat) : Int) - 1) = (n : Int) := by rw [IntWalk.i64_in _ (by omega)]; omega
          have hk3 : IntKind.i64.wrap (2 * (n : Int)) = q := by rw [IntWalk.i64_in _ (by omega)]; omega
          have hq1 : ¬ 9223372036854775807 < 1 + c.title.size := by omega
          have HCT := Lib.hid (fun (W : World) (hW : W.cell? ⟨0, 0, none⟩ = some (.int .i64 m)) => (by
            have := Tryz.strings_Contains tr (⟨#[32]⟩ ++ c.title) m W (by omega) hW
            rwa [HL.out.tit] at this : Calls Tryz.prog 42 #[.string tr, .string (⟨#[32]⟩ ++ c.title)] W fun e w' => e = .returned (.bool true) ∧ w' = W))
          have HH1 := Lib.hid (fun (W : World) => (by
            have := Tryz.strings_HasSuffix tr ⟨#[10]⟩ W (by omega)
            rwa [show Lib.hasSuffix tr.data.toList (⟨#[10]⟩ : ByteArray).data.toList = true from HL.out.endl] at this : Calls Tryz.prog 43 #[.string tr, .string ⟨#[10]⟩] W fun e w' => e = .returned (.bool true) ∧ w' = W))
          clear hq hsz
          go_wp2_with fail
          refine (HCT.out _ hm).mono ?_
          rintro e wC ⟨rfl, hwC⟩
          subst hwC
          go_wp2_with fail
          refine (HH1.out _).mono ?_
          rintro e wD ⟨rfl, hwD⟩
          subst hwD
          by_cases hmk : c.mark = ⟨#[]⟩
          · have hm1 : c.mark.toList.isEmpty = true := by rw [str_empty, hmk]; rfl
            clear hmk
            go_wp2
            go_roundw
            case rel => exact ⟨i + 1, by omega, by go_num, bi⟩
            case measure => simp [intOf]; omega
          · have hm1 : c.mark.toList.isEmpty = false := by
              rw [str_empty, decide_eq_false_iff_not]
              intro e
              exact hmk (ByteArray.ext (Array.eq_empty_of_size_eq_zero e))
            have hq2 : ¬ 9223372036854775807 < 2 + c.mark.size := by omega
            have hq3 : ¬ 9223372036854775807 < 2 + c.mark.size + 2 := by omega
            have HH2 := Lib.hid (by
              have := Tryz.strings_HasSuffix tr (⟨#[32, 91]⟩ ++ c.mark ++ ⟨#[93, 10]⟩) wD (by omega)
              rwa [HL.out.mrk hmk] at this : Calls Tryz.prog 43 #[.string tr, .string (⟨#[32, 91]⟩ ++ c.mark ++ ⟨#[93, 10]⟩)] wD fun e w' => e = .returned (.bool true) ∧ w' = wD)
            clear hmk
            go_wp2_with fail
            refine HH2.out.mono ?_
            rintro e wE ⟨rfl, hwE⟩
            subst hwE
            go_wp2
            go_roundw
            case rel => exact ⟨i + 1, by omega, by go_num, bi⟩
            case measure => simp [intOf]; omega
        · have hii : ¬ (i : Int) < (all.length : Int) := by omega
          go_wp2
          go_ret
          exact ⟨rfl, bw⟩
    · have hn : (ce != 0) = true := by simpa using h0
      have hnil := HE0.out h0
      subst hnil
      obtain ⟨Aa, cap, rfl, -⟩ := id ha6
      have he : (⟨#[]⟩ : ByteArray).toList.isEmpty = true := by rw [str_empty]; rfl
      clear h0
      go_wp2
      go_ret
      exact ⟨rfl, HUP.out _ bX⟩
end Go.Proofs.YthbccfchjgihgaaGreatDoor
