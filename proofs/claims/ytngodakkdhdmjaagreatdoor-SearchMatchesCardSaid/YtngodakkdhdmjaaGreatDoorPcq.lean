/- slices.Contains at postings; the closures of SearchSupported. -/
import Derived.Test.YtngodakkdhdmjaaGreatDoorFwQ
import Derived.Test.YtngodakkdhdmjaaGreatDoorPlS
namespace Go.Proofs.YtngodakkdhdmjaaGreatDoor
open Go.RowKit

theorem Post.eql (x y : Post) (w : World) : (binOp .eql 36 (.agg #[.string x.word, .int .i64 x.unit, .int .i64 x.field, .int .i64 x.place]) (.agg #[.string y.word, .int .i64 y.unit, .int .i64 y.field, .int .i64 y.place])).run Tryz.prog w = .ok (.bool (eqPost x y)) w := by
  have hs : ∀ (d : Nat) (xs ys : Array Value), (Op.equalIn (d + 1) 36 (.agg xs) (.agg ys)).run Tryz.prog w = (Op.eqFields d xs ys (Tryz.prog.fieldsOf 36).toList).run Tryz.prog w := fun d xs ys => run_equalIn_struct w d 36 xs ys (by kernel_rfl) (by kernel_rfl)
  simp only [binOp]
  simp [Op.equal, Op.maxDepth, hs 9999, Program.fieldsOf, Tryz.underlying36, go_sem, eqPost, str_eq]
  by_cases h0 : x.word = y.word <;> by_cases h1 : x.unit = y.unit <;> by_cases h2 : x.field = y.field <;> by_cases h3 : x.place = y.place <;> simp [h0, h1, h2, h3]
abbrev pstX (p : Post) : Obj := .cells #[.string p.word, .int .i64 p.unit, .int .i64 p.field, .int .i64 p.place] 36
theorem pstW_at {w W : World} {p : Post} (hW : Below (w.heap.size + 1) (w.alloc (pstX p)) W) : W.cell? ⟨w.heap.size, 0, none⟩ = some (.string p.word) ∧ W.cell? ⟨w.heap.size, 1, none⟩ = some (.int .i64 p.unit) ∧ W.cell? ⟨w.heap.size, 2, none⟩ = some (.int .i64 p.field) ∧ W.cell? ⟨w.heap.size, 3, none⟩ = some (.int .i64 p.place) ∧ w.heap.size < W.heap.size :=
  ⟨(hW.cell (p := ⟨w.heap.size, 0, none⟩) (by simp)).trans (by simp), (hW.cell (p := ⟨w.heap.size, 1, none⟩) (by simp)).trans (by simp), (hW.cell (p := ⟨w.heap.size, 2, none⟩) (by simp)).trans (by simp), (hW.cell (p := ⟨w.heap.size, 3, none⟩) (by simp)).trans (by simp), by have := hW.size; simp at this; omega⟩
set_option maxHeartbeats 2000000 in
theorem pindex_c (p : Post) (xs : List Post) (v : Value) (w : World) (B : Nat) (hB : B ≤ w.heap.size) (h : Posts w B xs v) :
    Calls Tryz.prog 79 #[v, .agg #[.string p.word, .int .i64 p.unit, .int .i64 p.field, .int .i64 p.place]] w fun e w' => e = .returned (.int .i64 (idxF (fun x => eqPost p x) xs)) ∧ Below w.heap.size w w' := by
  have b1 : Below w.heap.size w (w.alloc (pstX p)) := (Below.refl _ _).alloc (Nat.le_refl _) _
  have hb0 : Below (w.heap.size + 1) (w.alloc (pstX p)) (w.alloc (pstX p)) := Below.refl _ _
  have KC := Lib.hid (fun (W : World) (hW : Below (w.heap.size + 1) (w.alloc (pstX p)) W) => pstW_at hW)
  obtain ⟨A, c, rfl, hc1, hc2, _⟩ := id h
  have HF := Lib.hid (show idxF (fun x => eqPost p x) xs = idxG (fun x => eqPost p x) (xs.drop 0) 0 from rfl)
  go_enter Tryz.func79, Tryz.ntmps79
  go_wp2
  go_loopw [8] (fun i wr => ∃ k : Nat, k ≤ xs.length ∧ i = .int .i64 k ∧ Hid (idxF (fun x => eqPost p x) xs = idxG (fun x => eqPost p x) (xs.drop k) k) ∧ Below (w.heap.size + 1) (w.alloc (pstX p)) wr) (fun i _ => xs.length - (intOf i).toNat)
  case atStart => exact ⟨0, Nat.zero_le _, rfl, HF, hb0⟩
  case round =>
    obtain ⟨k, hk, rfl, HS, hb⟩ := hrel
    clear HF
    have bW := b1.trans (hb.mono (Nat.le_succ _))
    obtain ⟨z0, z1, z2, z3, zl⟩ := KC.out _ hb
    by_cases hlt : k < xs.length
    · obtain ⟨x, hx⟩ := get_at xs hlt
      have HD := Lib.hid (drop_at hx)
      obtain ⟨b, off, rfl, hbB, q0, q1, q2, q3⟩ := Posts.at_ (h.below pstS (bW.mono hB)) hx
      have hbw : b < wr.heap.size := by have : b < B := hbB; have := bW.size; omega
      clear hx
      have hne := fun W : World => Post.eql p x W
      cases he : eqPost p x
      · have HE := Lib.hid (show idxF (fun x => eqPost p x) xs = idxG (fun x => eqPost p x) (xs.drop (k + 1)) (k + 1) by rw [HS.out, HD.out]; simp [idxG, he])
        rw [he] at hne
        clear he
        go_wp2
        go_quiet (fail)
        go_wp2
        go_roundw
        case rel => exact ⟨k + 1, by omega, by go_num, HE, below_drewN hb _⟩
        case measure => simp [intOf]; omega
      · have HE := Lib.hid (show (k : Int) = idxF (fun x => eqPost p x) xs by rw [HS.out, HD.out]; simp [idxG, he])
        rw [he] at hne
        clear he
        go_wp2
        go_quiet (fail)
        go_wp2
        go_ret
        exact ⟨ret_int HE.out, below_drewN bW _⟩
    · go_wp2
      go_ret
      exact ⟨ret_int (by rw [HS.out, List.drop_of_length_le (by omega)]; rfl), bW⟩
theorem pcontains_c (p : Post) (xs : List Post) (v : Value) (w : World) (B : Nat) (hB : B ≤ w.heap.size) (h : Posts w B xs v) :
    Calls Tryz.prog 34 #[v, .agg #[.string p.word, .int .i64 p.unit, .int .i64 p.field, .int .i64 p.place]] w fun e w' => e = .returned (.bool (xs.any fun x => eqPost p x)) ∧ Below w.heap.size w w' := by
  have b1 : Below w.heap.size w (w.alloc (pstX p)) := (Below.refl _ _).alloc (Nat.le_refl _) _
  have HI := Lib.hid (pindex_c p xs v (w.alloc (pstX p)) B (Nat.le_trans hB b1.size) (h.below pstS (b1.mono hB)))
  have HE := Lib.hid (idx_any (fun x => eqPost p x) xs)
  obtain ⟨A, c, rfl, hc1, hc2, _⟩ := id h
  go_enter Tryz.func34, Tryz.ntmps34
  go_wp2_with fail
  refine HI.out.mono ?_
  rintro e w1 ⟨rfl, hb1⟩
  go_wp2
  go_ret
  exact ⟨ret_bool (by rw [← HE.out]), b1.trans (hb1.mono (by simp))⟩

theorem eqPost_dec (x y : Post) : eqPost x y = decide (x = y) := by
  rw [Bool.eq_iff_iff, eqPost_iff, decide_eq_true_iff]
/-- the operations that SearchSupported leaves out -/
def negB (a : Ask) : Bool := decide (a.op = 8) || (decide (a.op = 4) || decide (a.op = 5))
theorem sup1_c (a : Ask) (w : World) : Calls Tryz.prog 28 #[.agg #[.int .i64 a.op, .int .i64 a.field, .int .i64 a.num, .string a.text]] w fun e w' => e = .returned (.bool (negB a)) ∧ Below w.heap.size w w' := by
  have hb : ∀ o, Below w.heap.size w (w.alloc o) := fun o => (Below.refl _ _).alloc (Nat.le_refl _) o
  have HE := Lib.hid (show negB a = (a.op == 8 || (a.op == 4 || a.op == 5)) by
    unfold negB
    rw [show (a.op == 8) = decide (a.op = 8) from rfl, show (a.op == 4) = decide (a.op = 4) from rfl, show (a.op == 5) = decide (a.op = 5) from rfl])
  cases h8 : (a.op == 8)
  · cases h4 : (a.op == 4)
    · cases h5 : (a.op == 5)
      all_goals
        rw [h8, h4, h5] at HE
        go_enter Tryz.func28, Tryz.ntmps28
        go_wp2
        go_ret
        exact ⟨ret_bool (by rw [HE.out]; rfl), hb _⟩
    · rw [h8, h4] at HE
      go_enter Tryz.func28, Tryz.ntmps28
      go_wp2
      go_ret
      exact ⟨ret_bool (by rw [HE.out]; rfl), hb _⟩
  · rw [h8] at HE
    go_enter Tryz.func28, Tryz.ntmps28
    go_wp2
    go_ret
    exact ⟨ret_bool (by rw [HE.out]; rfl), hb _⟩
theorem sup2_c (x : Hit) (w : World) : Calls Tryz.prog 30 #[.agg #[.int .i64 x.unit, .int .i64 x.score]] w fun e w' => e = .returned (.bool (decide (x.score < 1))) ∧ Below w.heap.size w w' := by
  have hb : ∀ o, Below w.heap.size w (w.alloc o) := fun o => (Below.refl _ _).alloc (Nat.le_refl _) o
  go_enter Tryz.func30, Tryz.ntmps30
  go_wp2
  go_ret
  exact ⟨rfl, hb _⟩
theorem sup3_c (x : Hit) (u : Int) (g : Nat) (w : World) (h0 : w.cell? ⟨g, 0, none⟩ = some (.int .i64 u)) (hg : g < w.heap.size) : Calls Tryz.prog 31 #[.agg #[.int .i64 x.unit, .int .i64 x.score], .pointer (some ⟨g, 0, none⟩)] w fun e w' => e = .returned (.bool (decide (x.unit = u))) ∧ Below w.heap.size w w' := by
  have hb : ∀ o, Below w.heap.size w (w.alloc o) := fun o => (Below.refl _ _).alloc (Nat.le_refl _) o
  have HE := Lib.hid (show decide (x.unit = u) = (x.unit == u) from rfl)
  go_enter Tryz.func31, Tryz.ntmps31
  go_wp2
  go_ret
  exact ⟨ret_bool HE.out.symm, hb _⟩
theorem sup4_c (p : Post) (l : List Post) (u : Int) (g gl : Nat) (vl : Value) (w : World) (B : Nat) (hB : B ≤ w.heap.size) (h0 : w.cell? ⟨g, 0, none⟩ = some (.int .i64 u)) (hg : g < w.heap.size) (h1 : w.cell? ⟨gl, 0, none⟩ = some vl) (hgl : gl < w.heap.size) (hl : Posts w B l vl) (hu : p.unit = u) (hp : p ∈ l) :
    Calls Tryz.prog 33 #[.agg #[.string p.word, .int .i64 p.unit, .int .i64 p.field, .int .i64 p.place], .pointer (some ⟨g, 0, none⟩), .pointer (some ⟨gl, 0, none⟩)] w fun e w' => e = .returned (.bool false) ∧ Below w.heap.size w w' := by
  have b1 : Below w.heap.size w (w.alloc (pstX p)) := (Below.refl _ _).alloc (Nat.le_refl _) _
  have HC := Lib.hid (show Calls Tryz.prog 34 #[vl, .agg #[.string p.word, .int .i64 p.unit, .int .i64 p.field, .int .i64 p.place]] (w.alloc (pstX p)) fun e w' => e = .returned (.bool true) ∧ Below (w.alloc (pstX p)).heap.size (w.alloc (pstX p)) w' from by
    have := pcontains_c p l vl (w.alloc (pstX p)) B (Nat.le_trans hB b1.size) (hl.below pstS (b1.mono hB))
    rwa [show (l.any fun x => eqPost p x) = true from List.any_eq_true.2 ⟨p, hp, (eqPost_iff p p).2 rfl⟩] at this)
  have hn : (p.unit != u) = false := by simp [hu]
  obtain ⟨A, c, rfl, -⟩ := id hl
  clear hl hp hu
  go_enter Tryz.func33, Tryz.ntmps33
  go_wp2_with fail
  refine HC.out.mono ?_
  rintro e w1 ⟨rfl, hb1⟩
  go_wp2
  go_ret
  exact ⟨rfl, b1.trans (hb1.mono b1.size)⟩
end Go.Proofs.YtngodakkdhdmjaaGreatDoor
