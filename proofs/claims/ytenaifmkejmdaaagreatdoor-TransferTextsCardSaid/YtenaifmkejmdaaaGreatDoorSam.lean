/- The statements' own helper Same; slices.Equal of numbers. -/
import Derived.Test.YtenaifmkejmdaaaGreatDoorLis
namespace Go.Proofs.YtenaifmkejmdaaaGreatDoor
open Go.RowKit

theorem Item.neq (x y : Item) (w : World) : (binOp .neq 47 (itmV x) (itmV y)).run Tryz.prog w = .ok (.bool (!eqItem x y)) w := by
  have hs : ∀ (d : Nat) (xs ys : Array Value), (Op.equalIn (d + 1) 47 (.agg xs) (.agg ys)).run Tryz.prog w = (Op.eqFields d xs ys (Tryz.prog.fieldsOf 47).toList).run Tryz.prog w := fun d xs ys => run_equalIn_struct w d 47 xs ys (by kernel_rfl) (by kernel_rfl)
  simp only [binOp]
  simp [Op.equal, Op.maxDepth, hs 9999, Program.fieldsOf, Tryz.underlying47, Tryz.underlying28, go_sem, eqItem, str_eq]
  by_cases h0 : x.number = y.number <;> by_cases h1 : x.file = y.file <;> by_cases h2 : x.title = y.title <;> by_cases h3 : x.first = y.first <;> by_cases h4 : x.last = y.last <;> by_cases h5 : x.pages = y.pages <;> by_cases h6 : x.digest = y.digest <;> simp [h0, h1, h2, h3, h4, h5, h6]
def sameB (a b : TL) : Bool := decide (a.id = b.id) && decide (a.office = b.office) && decide (a.day = b.day) && eqL eqItem a.items b.items
theorem sameB_iff (a b : TL) : sameB a b = true ↔ a = b := by
  cases a; cases b
  simp [sameB, eqL_iff eqItem_iff, and_assoc]
theorem sameB_self (a : TL) : sameB a a = true := (sameB_iff a a).2 rfl
theorem neq_f {a b : Int} (h : a = b) : (a != b) = false := by simp [h]
theorem neq_t {a b : Int} (h : a ≠ b) : (a != b) = true := by simpa using h
abbrev smW (w : World) (a b : TL) (v v' : Value) : World := (w.alloc (tlC a v)).alloc (tlC b v')
theorem smW_at (w : World) (a b : TL) (v v' : Value) : (smW w a b v v').heap[w.heap.size]? = some (tlC a v) ∧ (smW w a b v v').heap[w.heap.size + 1]? = some (tlC b v') ∧ Below w.heap.size w (smW w a b v v') := by
  refine ⟨(Below.heap_alloc _ _ _ (by simp)).trans (heap_newA w _), ?_, ((Below.refl _ _).alloc (Nat.le_refl _) _).alloc (by simp) _⟩
  have := heap_newA (w.alloc (tlC a v)) (tlC b v')
  rwa [show (w.alloc (tlC a v)).heap.size = w.heap.size + 1 by simp] at this
set_option maxRecDepth 100000 in
set_option maxHeartbeats 4000000 in
theorem same_c (a b : TL) (v v' : Value) (w : World) (B : Nat) (hB : B ≤ w.heap.size) (h : TLRep w B a v) (h' : TLRep w B b v') :
    Calls Tryz.prog 20 #[tlV a v, tlV b v'] w fun e w' => e = .returned (.bool (sameB a b)) ∧ Below w.heap.size w w' := by
  obtain ⟨q1, q2, b0⟩ := smW_at w a b v v'
  obtain ⟨z0, z1, z2, z3, -, zl⟩ := tl_cells q1
  obtain ⟨y0, y1, y2, y3, -, yl⟩ := tl_cells q2
  have HB0 := Lib.hid b0
  obtain ⟨A, c, rfl, hc1, hc2, -⟩ := id h
  obtain ⟨A', c', rfl, -⟩ := id h'
  have HIT := Lib.hid (fun (k : Nat) (x : Item) (hx : a.items[k]? = some x) => Items.at_ (h.below itmS (b0.mono hB)) hx)
  have HIT' := Lib.hid (fun (k : Nat) (x : Item) (hx : b.items[k]? = some x) => Items.at_ (h'.below itmS (b0.mono hB)) hx)
  have hbs : w.heap.size + 2 = (smW w a b (.slice A a.items.length c) (.slice A' b.items.length c')).heap.size := by simp
  clear q1 q2 b0 h h'
  by_cases h1 : a.id = b.id
  · have n1 := neq_f h1
    by_cases h2 : a.office = b.office
    · have n2 := neq_f h2
      by_cases h3 : a.day = b.day
      · have n3 := neq_f h3
        by_cases h4 : a.items.length = b.items.length
        · have n4 : ((a.items.length : Int) != (b.items.length : Int)) = false := neq_f (by omega)
          have HL := Lib.hid h4
          have HS0 := Lib.hid (show sameB a b = eqL eqItem (a.items.drop 0) (b.items.drop 0) by unfold sameB; simp [h1, h2, h3])
          have hle : (a.items.length : Int) ≤ (b.items.length : Int) := by omega
          clear h1 h2 h3 h4
          go_enter Tryz.func20, Tryz.ntmps20
          go_wp2
          go_loopw [5] (fun i wr => ∃ k : Nat, k ≤ a.items.length ∧ i = .int .i64 k ∧ Hid (sameB a b = eqL eqItem (a.items.drop k) (b.items.drop k)) ∧ ∃ m, wr = (smW w a b (.slice A a.items.length c) (.slice A' b.items.length c')).drewN m) (fun i _ => a.items.length - (intOf i).toNat)
          case atStart => exact ⟨0, Nat.zero_le _, rfl, HS0, 0, rfl⟩
          case round =>
            obtain ⟨k, hk, rfl, HS, nd, rfl⟩ := hrel
            clear HS0 n1 n2 n3 n4
            by_cases hlt : k < a.items.length
            · have hlt' : k < b.items.length := by have := HL.out; omega
              obtain ⟨x, hx⟩ := get_at a.items hlt
              obtain ⟨y, hy⟩ := get_at b.items hlt'
              have HD := Lib.hid (drop_at hx)
              have HD' := Lib.hid (drop_at hy)
              obtain ⟨b1, off, rfl, hbB, g0, g1, g2, g3, g4, g5, g6⟩ := HIT.out k x hx
              obtain ⟨b2, off', rfl, hbB', p0, p1, p2, p3, p4, p5, p6⟩ := HIT'.out k y hy
              have hbw : b1 < (smW w a b (.slice (some ⟨b1, off, none⟩) a.items.length c) (.slice (some ⟨b2, off', none⟩) b.items.length c')).heap.size := by have : b1 < B := hbB; omega
              have hbw' : b2 < (smW w a b (.slice (some ⟨b1, off, none⟩) a.items.length c) (.slice (some ⟨b2, off', none⟩) b.items.length c')).heap.size := by have : b2 < B := hbB'; omega
              have hki : (k : Int) < (a.items.length : Int) := by omega
              have hki' : (k : Int) < (b.items.length : Int) := by omega
              have hw : IntKind.i64.wrap ((k : Int) + 1) = (k : Int) + 1 := IntWalk.i64_in _ (by have := lt_of_at hx; omega)
              have hne := fun W : World => Item.neq x y W
              clear hx hy
              cases he : eqItem x y
              · have HE := Lib.hid (show sameB a b = false by rw [HS.out, HD.out, HD'.out]; simp [eqL, he])
                rw [he] at hne; simp only [Bool.not_false] at hne
                clear he
                go_wp2
                go_quiet (fail)
                go_wp2
                go_ret
                exact ⟨ret_bool HE.out.symm, HB0.out.trans (below_of_drewA _ ⟨_, World.drewN_drewN _ _ _⟩)⟩
              · have HE := Lib.hid (show sameB a b = eqL eqItem (a.items.drop (k + 1)) (b.items.drop (k + 1)) by rw [HS.out, HD.out, HD'.out]; simp [eqL, he])
                rw [he] at hne; simp only [Bool.not_true] at hne
                clear he
                go_wp2
                go_quiet (fail)
                go_wp2
                go_roundw
                case rel => exact ⟨k + 1, by omega, by go_num, HE, _, rfl⟩
                case measure => simp [intOf]; omega
            · have hki : ¬ (k : Int) < (a.items.length : Int) := by omega
              have HE := Lib.hid (show sameB a b = true by rw [HS.out, List.drop_of_length_le (by omega), List.drop_of_length_le (by have := HL.out; omega)]; rfl)
              go_wp2
              go_ret
              exact ⟨ret_bool HE.out.symm, HB0.out.trans (below_of_drewA _ ⟨_, rfl⟩)⟩
        · have n4 : ((a.items.length : Int) != (b.items.length : Int)) = true := neq_t (by omega)
          have HE := Lib.hid (show sameB a b = false by unfold sameB; rw [eqL_len _ _ _ h4, Bool.and_false])
          clear h1 h2 h3 h4
          go_enter Tryz.func20, Tryz.ntmps20
          go_wp2
          go_ret
          exact ⟨ret_bool HE.out.symm, HB0.out⟩
      · have n3 := neq_t h3
        have HE := Lib.hid (show sameB a b = false by simp [sameB, h3])
        clear h1 h2 h3
        go_enter Tryz.func20, Tryz.ntmps20
        go_wp2
        go_ret
        exact ⟨ret_bool HE.out.symm, HB0.out⟩
    · have n2 := neq_t h2
      have HE := Lib.hid (show sameB a b = false by simp [sameB, h2])
      clear h1 h2
      go_enter Tryz.func20, Tryz.ntmps20
      go_wp2
      go_ret
      exact ⟨ret_bool HE.out.symm, HB0.out⟩
  · have n1 := neq_t h1
    have HE := Lib.hid (show sameB a b = false by simp [sameB, h1])
    clear h1
    go_enter Tryz.func20, Tryz.ntmps20
    go_wp2
    go_ret
    exact ⟨ret_bool HE.out.symm, HB0.out⟩
theorem equalIn_c (xs : List Int) (v v' : Value) (w : World) (B : Nat) (hB : B ≤ w.heap.size) (h : SlRep 1 (flat intEnc) w (fun b => b < B) xs v) (h' : SlRep 1 (flat intEnc) w (fun b => b < B) xs v') :
    Calls Tryz.prog 15 #[v, v'] w fun e w' => e = .returned (.bool true) ∧ Below w.heap.size w w' := by
  obtain ⟨A, c, rfl, hc1, hc2, _⟩ := id h
  obtain ⟨A', c', rfl, hd1, hd2, _⟩ := id h'
  go_enter Tryz.func15, Tryz.ntmps15
  go_wp2
  go_loopw [13] (fun i wr => ∃ k : Nat, k ≤ xs.length ∧ i = .int .i64 k ∧ ∃ n, wr = w.drewN n) (fun i _ => xs.length - (intOf i).toNat)
  case atStart => exact ⟨0, Nat.zero_le _, rfl, 0, rfl⟩
  case round =>
    obtain ⟨k, hk, rfl, nd, rfl⟩ := hrel
    by_cases hlt : k < xs.length
    · obtain ⟨x, hx⟩ := get_at xs hlt
      obtain ⟨b, off, rfl, hbB, g0⟩ := Ints.at_ h hx
      obtain ⟨b', off', rfl, hbB', q0⟩ := Ints.at_ h' hx
      have hbw : b < w.heap.size := by have : b < B := hbB; omega
      have hbw' : b' < w.heap.size := by have : b' < B := hbB'; omega
      clear hx
      go_wp2
      go_quiet (fail)
      go_wp2
      go_roundw
      case rel => exact ⟨k + 1, by omega, by go_num, _, rfl⟩
      case measure => simp [intOf]; omega
    · go_wp2
      go_ret
      exact ⟨rfl, below_of_drewA _ ⟨_, rfl⟩⟩
end Go.Proofs.YtenaifmkejmdaaaGreatDoor
