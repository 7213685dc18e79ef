/- Check of boxes, the program's. -/
import Derived.Test.YthabpkigflldmaaIdx
import Derived.Test.YthabpkigflldmaaMaps
namespace Go.Proofs.Ythabpkigflldmaa
open Go.RowKit

def contOk (c : Content) : Bool := inB c.unit 1 1073741824 && inB c.thick 1 10000
def boxOk (b : Box) : Bool := inB b.id 1 1073741824 && inB b.width 1 10000 && inB b.room 1 b.width && inB b.clim 0 7 && !b.cont.any fun c => !contOk c
def thickS : List Content → Int
  | [] => 0
  | c :: r => c.thick + thickS r
def faultE (b : Box) : Int := if boxOk b = false then 2 else if 32 < b.cont.length then 8 else if b.room < thickS b.cont then 12 else 0
def unitsOf (b : Box) : List Int := b.cont.map (·.unit)
def dupG (seen : List Int) : List Int → Bool
  | [] => false
  | u :: r => if u ∈ seen then true else dupG (seen ++ [u]) r
def boxesG (seen : List Int) : Option Box → List Box → Int
  | _, [] => 0
  | p, b :: r => if faultE b ≠ 0 then faultE b else if (p.any fun q => decide (b.id ≤ q.id)) = true then 5 else if dupG seen (unitsOf b) = true then 6 else boxesG (seen ++ unitsOf b) (some b) r
def boxesE (l : List Box) : Int := if 128 < l.length then 8 else boxesG [] none l

theorem bin_c (n lo hi : Int) (w : World) : Calls Try.prog 104 #[.int .i64 n, .int .i64 lo, .int .i64 hi] w fun e w' => e = .returned (.bool (inB n lo hi)) ∧ w = w' := by
  by_cases h1 : lo ≤ n
  · have HE := Lib.hid (show inB n lo hi = decide (n ≤ hi) by simp [inB, h1])
    go_enter Try.func104, Try.ntmps104
    go_wp2
    go_ret
    exact ⟨ret_bool HE.out.symm, rfl⟩
  · have HE := Lib.hid (show inB n lo hi = false by simp [inB, h1])
    have h1' : decide (lo ≤ n) = false := by simpa using h1
    go_enter Try.func104, Try.ntmps104
    go_wp2
    go_ret
    exact ⟨ret_bool HE.out.symm, rfl⟩
theorem isContent_c (x : Content) (w : World) : Calls Try.prog 107 #[.agg #[.int .i64 x.unit, .int .i64 x.thick]] w fun e w' => e = .returned (.bool (contOk x)) ∧ Below w.heap.size w w' := by
  cases e0 : inB x.unit 1 1073741824
  · have HE := Lib.hid (show contOk x = false by simp [contOk, e0])
    go_enter Try.func107, Try.ntmps107
    go_wp2_with (go_at_call 104; refine (bin_c _ _ _ _).mono ?_; rintro e w' ⟨rfl, rfl⟩)
    go_ret
    exact ⟨ret_bool HE.out.symm, (by repeat' (first | refine below_drewN ?_ _ | go_grown))⟩
  · have HE := Lib.hid (show contOk x = inB x.thick 1 10000 by simp [contOk, e0])
    go_enter Try.func107, Try.ntmps107
    go_wp2_with (go_at_call 104; refine (bin_c _ _ _ _).mono ?_; rintro e w' ⟨rfl, rfl⟩)
    go_ret
    exact ⟨ret_bool HE.out.symm, (by repeat' (first | refine below_drewN ?_ _ | go_grown))⟩
theorem fault1_c (x : Content) (w : World) : Calls Try.prog 106 #[.agg #[.int .i64 x.unit, .int .i64 x.thick]] w fun e w' => e = .returned (.bool (!contOk x)) ∧ Below w.heap.size w w' := by
  go_enter Try.func106, Try.ntmps106
  go_wp2_with fail
  refine (isContent_c x _).mono ?_
  rintro e w1 ⟨rfl, hb1⟩
  go_wp2
  go_ret
  exact ⟨rfl, ((Below.refl _ _).alloc (Nat.le_refl _) _).trans (hb1.mono (by simp))⟩
theorem thickS_take (l : List Content) : ∀ (k : Nat) (x : Content), l[k]? = some x → thickS (l.take (k + 1)) = thickS (l.take k) + x.thick := by
  induction l with
  | nil => intro k x h; simp at h
  | cons c r ih =>
    intro k x h
    rcases k with _ | k
    · simp at h; subst h; simp [thickS]
    · have := ih k x (by simpa using h)
      simp only [List.take_succ_cons, thickS] at this ⊢
      omega
theorem thickS_bd (l : List Content) (h : ∀ c ∈ l, 1 ≤ c.thick ∧ c.thick ≤ 10000) : 0 ≤ thickS l ∧ thickS l ≤ 10000 * (l.length : Int) := by
  induction l with
  | nil => simp [thickS]
  | cons c r ih =>
    have h1 := h c (by simp)
    have h2 := ih fun x hx => h x (by simp [hx])
    simp only [thickS, List.length_cons]
    omega
set_option maxHeartbeats 1000000 in
theorem thick_c (xs : List Content) (v : Value) (w : World) (B : Nat) (hB : B ≤ w.heap.size) (h : Contents w B xs v) (hl : xs.length ≤ 64) (hx : ∀ c ∈ xs, 1 ≤ c.thick ∧ c.thick ≤ 10000) :
    Calls Try.prog 108 #[v] w fun e w' => e = .returned (.int .i64 (thickS xs)) ∧ Below w.heap.size w w' := by
  obtain ⟨A, c, rfl, hc1, hc2, _⟩ := id h
  have HX := Lib.hid hx
  clear hx
  go_enter Try.func108, Try.ntmps108
  go_wp2
  go_loopw [3, 8] (fun s i wr => ∃ k : Nat, k ≤ xs.length ∧ i = .int .i64 k ∧ s = .int .i64 (thickS (xs.take k)) ∧ Below w.heap.size w wr) (fun _ i _ => xs.length - (intOf i).toNat)
  case atStart => exact ⟨0, Nat.zero_le _, rfl, rfl, Below.refl _ _⟩
  case round =>
    obtain ⟨k, hk, rfl, rfl, hb⟩ := hrel
    have hs := hb.size
    by_cases hlt : k < xs.length
    · obtain ⟨x, hx⟩ := get_at xs hlt
      have HT := Lib.hid (thickS_take xs k x hx)
      have hbd := thickS_bd (xs.take k) fun c hc => HX.out c (List.mem_of_mem_take hc)
      have hlk : (xs.take k).length ≤ 64 := by simp; omega
      have hxb := HX.out x (List.mem_of_getElem? hx)
      obtain ⟨hx1, hx2⟩ := hxb
      obtain ⟨b, off, rfl, hbB, g0, g1⟩ := Contents.at_ (h.below coS (hb.mono hB)) hx
      have hbw : b < wr.heap.size := by omega
      obtain ⟨hd1, hd2⟩ := hbd
      have hd3 : thickS (xs.take k) ≤ 640000 := by omega
      clear hx hd2 hlk
      go_wp2
      go_roundw
      case rel => exact ⟨k + 1, by omega, by go_num, by rw [HT.out], hb.alloc hs _⟩
      case measure => simp [intOf]; omega
    · go_wp2
      go_ret
      refine ⟨ret_int ?_, hb⟩
      rw [List.take_of_length_le (by omega)]
theorem boxOk_cont {b : Box} (h : boxOk b = true) : ∀ c ∈ b.cont, 1 ≤ c.thick ∧ c.thick ≤ 10000 := by
  intro c hc
  simp only [boxOk, Bool.and_eq_true, Bool.not_eq_true', List.any_eq_false] at h
  have := h.2 c hc
  simp only [contOk, inB, Bool.not_eq_false, Bool.and_eq_true, decide_eq_true_eq] at this
  exact this.2
end Go.Proofs.Ythabpkigflldmaa
