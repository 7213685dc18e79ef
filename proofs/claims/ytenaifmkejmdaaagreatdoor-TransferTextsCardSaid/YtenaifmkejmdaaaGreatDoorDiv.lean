/- The program: Divide. -/
import Derived.Test.YtenaifmkejmdaaaGreatDoorSeq
import Derived.Test.YtenaifmkejmdaaaGreatDoorTot
import Derived.Sort.QuietIn
namespace Go.Proofs.YtenaifmkejmdaaaGreatDoor
open Go.RowKit Go.Shelf

attribute [local go_sem] Oper.semAt_some
theorem partG_cons (m : Int) (many : Nat) (sum : Int) (x : Item) (r : List Item) : partG m many sum (x :: r) = if 0 < many ∧ m < sum + x.pages then (many : Int) :: partG m 1 x.pages r else partG m (many + 1) (sum + x.pages) r := by rw [partG]
theorem partG_len (m : Int) : ∀ (r : List Item) (many : Nat) (sum : Int), (partG m many sum r).length ≤ r.length + 1
  | [], many, sum => by unfold partG; split <;> simp
  | x :: r, many, sum => by
    rw [partG_cons]
    split
    · have := partG_len m r 1 x.pages
      simp only [List.length_cons]; omega
    · have := partG_len m r (many + 1) (sum + x.pages)
      simp only [List.length_cons]; omega
set_option maxRecDepth 100000 in
set_option maxHeartbeats 4000000 in
theorem parts1_c (m : Int) (xs : List Item) (v : Value) (gi gp : Nat) (w : World) (B : Nat) (hB : B ≤ w.heap.size) (h : SlRep 7 (flat Item.enc) w (fun b => b < B) xs v) (hgi : gi < w.heap.size) (hgp : gp < w.heap.size) (hi : w.cell? ⟨gi, 0, none⟩ = some v) (hp : w.cell? ⟨gp, 0, none⟩ = some (.int .i64 m))
    (hx : ∀ x ∈ xs, 0 ≤ x.pages ∧ x.pages ≤ 100000) (hlen : xs.length ≤ 1000) : Gives 62 #[.pointer (some ⟨gi, 0, none⟩), .pointer (some ⟨gp, 0, none⟩)] (partG m 0 0 xs) 3 w := by
  intro l J Jx W hW hA hA' hY h0
  obtain ⟨A, c, rfl, hc1, hc2, _⟩ := id h
  refine callsIn_of_wp Tryz.func62 rfl trivial ?_ rfl
  simp only [Tryz.ntmps62, List.size_toArray, List.length_cons, List.length_nil, Nat.reduceAdd, Nat.reduceSub, Array.replicate_succ, Array.replicate_zero, List.push_toArray, List.append_toArray, List.nil_append, List.cons_append]
  have HI := Lib.hid (fun (W' : World) (hW' : Below w.heap.size w W') => (⟨(hW'.cell (p := ⟨gi, 0, none⟩) hgi).trans hi, (hW'.cell (p := ⟨gp, 0, none⟩) hgp).trans hp⟩ : W'.cell? ⟨gi, 0, none⟩ = some (.slice A xs.length c) ∧ W'.cell? ⟨gp, 0, none⟩ = some (.int .i64 m)))
  obtain ⟨z0, z1⟩ := HI.out W hW
  have H0 := Lib.hid (show partG m 0 0 xs = [] ++ partG m 0 0 (xs.drop 0) from rfl)
  have HPL := Lib.hid (partG_len m xs 0 0)
  generalize hLL : partG m 0 0 xs = L at *
  have HLL := Lib.hid hLL
  clear hLL
  gi_wp2
  gi_loopw [4, 5, 10] (fun t4 t5 i wr => ∃ (k many : Nat) (sum : Int) (done : List Int), k ≤ xs.length ∧ many ≤ k ∧ 0 ≤ sum ∧ sum ≤ 100000 * (k : Int) ∧ i = .int .i64 k ∧ t4 = .int .i64 many ∧ t5 = .int .i64 sum ∧ Hid (L = done ++ partG m many sum (xs.drop k)) ∧ J done wr ∧ Below w.heap.size w wr) (fun _ _ i _ => xs.length - (intOf i).toNat)
  case atStart => exact ⟨0, 0, 0, [], Nat.zero_le _, Nat.le_refl _, by omega, by omega, rfl, rfl, rfl, H0, h0, hW⟩
  case round =>
    clear z0 z1 H0
    obtain ⟨k, many, sum, done, hk, hmk, hs0, hs1, rfl, rfl, rfl, HS, hJ, hb⟩ := hrel
    obtain ⟨z0, z1⟩ := HI.out _ hb
    have hws := hb.size
    have hgiw : gi < wr.heap.size := by omega
    have hgpw : gp < wr.heap.size := by omega
    by_cases hlt : k < xs.length
    · obtain ⟨x, hxk⟩ := get_at xs hlt
      have HD := Lib.hid (drop_at hxk)
      obtain ⟨hx1, hx2⟩ := hx x (List.mem_of_getElem? hxk)
      obtain ⟨b, off, rfl, hbB, g0, g1, g2, g3, g4, g5, g6⟩ := Items.at_ (h.below itmS (hb.mono hB)) hxk
      have hbw : b < wr.heap.size := by have : b < B := hbB; omega
      have hki : (k : Int) < (xs.length : Int) := by omega
      have b1 : Below wr.heap.size wr (wr.alloc (itmC x)) := (Below.refl _ _).alloc (Nat.le_refl _) _
      have hJ1 : J done (wr.alloc (itmC x)) := hA done wr _ none hJ (World.grownBy_alloc wr _ none) (fun r e => by cases e)
      have hd1 : (wr.alloc (itmC x)).heap[wr.heap.size]? = some (itmC x) := heap_newA wr _
      have hwr : IntKind.i64.wrap (sum + x.pages) = sum + x.pages := IntWalk.i64_in _ (by omega)
      have hwm : IntKind.i64.wrap ((many : Int) + 1) = (many : Int) + 1 := IntWalk.i64_in _ (by omega)
      have hwz : IntKind.i64.wrap x.pages = x.pages := IntWalk.i64_in _ (by omega)
      clear hxk
      by_cases hc : 0 < many ∧ m < sum + x.pages
      · obtain ⟨hm1, hm2⟩ := hc
        have HN := Lib.hid (show L = (done ++ [(many : Int)]) ++ partG m 1 x.pages (xs.drop (k + 1)) by rw [HS.out, HD.out, partG_cons, if_pos ⟨hm1, hm2⟩]; simp)
        have hll : done.length < L.length := by rw [HN.out]; simp
        obtain ⟨fn, tmps, assign, body, hy, hR⟩ := hY done (many : Int) _ hJ1 hll
        have hmi : (0 : Int) < (many : Int) := by omega
        clear HS HD hm1 hll
        gi_wp2
        refine hR.mono ?_
        rintro e W3 (⟨rfl, hJ3, hk3⟩ | ⟨rfl, hJx3⟩)
        · have hd3 := (hk3.2 _ _ _ hd1).trans hd1
          have q5 : W3.cell? ⟨wr.heap.size, 5, none⟩ = some (.int .i64 x.pages) := by rw [Lib.cell_of_heap hd3]; rfl
          have hb3 := (hb.trans (b1.mono hws)).trans hk3.1
          clear hd3 hk3 hJ1 hd1
          gi_wp2
          gi_quiet (fail)
          gi_wp2
          go_roundw
          case rel => exact ⟨k + 1, 1, x.pages, done ++ [(many : Int)], by omega, by omega, by omega, by omega, by go_num, rfl, rfl, HN, hA _ W3 _ none hJ3 ⟨rfl, rfl, rfl, Nat.le_refl _, fun _ _ _ => rfl⟩ (fun r e => by cases e), below_drewN hb3 _⟩
          case measure => simp [intOf]; omega
        · gi_wp2
          refine bodyPost_ret (results_none rfl _ _ _) rfl ?_
          exact ⟨⟨_, rfl⟩, .inr ⟨_, trivial, hJx3⟩⟩
      · have HN := Lib.hid (show L = done ++ partG m (many + 1) (sum + x.pages) (xs.drop (k + 1)) by rw [HS.out, HD.out, partG_cons, if_neg hc])
        have q5 : (wr.alloc (itmC x)).cell? ⟨wr.heap.size, 5, none⟩ = some (.int .i64 x.pages) := by rw [Lib.cell_of_heap hd1]; rfl
        have hb3 := hb.trans (b1.mono hws)
        have hm0 : many = 0 ∨ (0 < many ∧ ¬ m < sum + x.pages) := by omega
        clear HS HD hd1
        rcases hm0 with rfl | ⟨hm1, hm2⟩
        · have hmi : ¬ (0 : Int) < ((0 : Nat) : Int) := by omega
          gi_wp2
          gi_quiet (fail)
          gi_wp2
          go_roundw
          case rel => exact ⟨k + 1, 0 + 1, sum + x.pages, done, by omega, by omega, by omega, by omega, by go_num, by go_num, rfl, HN, hA _ _ _ none hJ1 ⟨rfl, rfl, rfl, Nat.le_refl _, fun _ _ _ => rfl⟩ (fun r e => by cases e), below_drewN hb3 _⟩
          case measure => simp [intOf]; omega
        · have hmi : (0 : Int) < (many : Int) := by omega
          gi_wp2
          gi_quiet (fail)
          gi_wp2
          go_roundw
          case rel => exact ⟨k + 1, many + 1, sum + x.pages, done, by omega, by omega, by omega, by omega, by go_num, by go_num, rfl, HN, hA _ _ _ none hJ1 ⟨rfl, rfl, rfl, Nat.le_refl _, fun _ _ _ => rfl⟩ (fun r e => by cases e), below_drewN hb3 _⟩
          case measure => simp [intOf]; omega
    · have HN := Lib.hid (show L = done ++ partG m many sum [] by rw [HS.out, List.drop_of_length_le (by omega)])
      clear HS
      by_cases hm : 0 < many
      · have HE := Lib.hid (show L = done ++ [(many : Int)] by rw [HN.out]; simp [partG, hm])
        have hll : done.length < L.length := by rw [HE.out]; simp
        obtain ⟨fn, tmps, assign, body, hy, hR⟩ := hY done (many : Int) _ hJ hll
        have hmi : (0 : Int) < (many : Int) := by omega
        clear HN hll
        gi_wp2
        refine hR.mono ?_
        rintro e W3 (⟨rfl, hJ3, hk3⟩ | ⟨rfl, hJx3⟩)
        · gi_wp2
          go_end0
          exact ⟨⟨_, rfl⟩, .inl ⟨_, HE.out.symm, hJ3⟩⟩
        · gi_wp2
          go_end0
          exact ⟨⟨_, rfl⟩, .inr ⟨_, trivial, hJx3⟩⟩
      · have hmi : ¬ (0 : Int) < (many : Int) := by omega
        have HE := Lib.hid (show L = done by rw [HN.out]; simp [partG, hm])
        clear HN
        gi_wp2
        go_end0
        exact ⟨⟨_, rfl⟩, .inl (HE.out ▸ hJ)⟩
end Go.Proofs.YtenaifmkejmdaaaGreatDoor
