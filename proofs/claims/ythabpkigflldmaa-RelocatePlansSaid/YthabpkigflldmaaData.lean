/- Chapter 41's data in Lean, and how they read in memory. -/
import Derived.Test.YthabpkigflldmaaOwn
import Derived.Laws.StructEq
namespace Go.Proofs.Ythabpkigflldmaa
open Go.RowKit

structure Shelf where
  id : Int
  rep : Int
  len : Int
  clim : Int
structure Content where
  unit : Int
  thick : Int
structure Box where
  id : Int
  width : Int
  room : Int
  clim : Int
  cont : List Content
structure Carry where
  box : Int
  from_ : Int
  to_ : Int

def Shelf.enc (s : Shelf) : List Value := [.int .i64 s.id, .int .i64 s.rep, .int .i64 s.len, .int .i64 s.clim]
def Content.enc (s : Content) : List Value := [.int .i64 s.unit, .int .i64 s.thick]
def Carry.enc (s : Carry) : List Value := [.int .i64 s.box, .int .i64 s.from_, .int .i64 s.to_]
def intEnc (n : Int) : List Value := [.int .i64 n]

theorem shS : Shape 4 (flat Shelf.enc) := flat_shape 4 _ (fun _ => rfl) (fun x u hu => by simp [Shelf.enc] at hu; rcases hu with rfl | rfl | rfl | rfl <;> rfl)
theorem coS : Shape 2 (flat Content.enc) := flat_shape 2 _ (fun _ => rfl) (fun x u hu => by simp [Content.enc] at hu; rcases hu with rfl | rfl <;> rfl)
theorem caS : Shape 3 (flat Carry.enc) := flat_shape 3 _ (fun _ => rfl) (fun x u hu => by simp [Carry.enc] at hu; rcases hu with rfl | rfl | rfl <;> rfl)
theorem inS : Shape 1 (flat intEnc) := flat_shape 1 _ (fun _ => rfl) (fun x u hu => by simp [intEnc] at hu; subst hu; rfl)
def boxR : CRep Box := fun w F x cs => ∃ v, cs = [.int .i64 x.id, .int .i64 x.width, .int .i64 x.room, .int .i64 x.clim, v] ∧ SlRep 2 (flat Content.enc) w F x.cont v
theorem boS : Shape 5 boxR := ⟨fun hb ⟨v, h1, h2⟩ => ⟨v, h1, h2.frame coS hb⟩, fun hB ⟨v, h1, h2⟩ => ⟨v, h1, h2.monoF coS hB⟩, fun ⟨v, h1, _⟩ => by rw [h1]; rfl, fun ⟨v, h1, A, c, h2, _⟩ u hu => by
  subst h1 h2
  simp at hu
  rcases hu with rfl | rfl | rfl | rfl | rfl <;> rfl⟩
def stateR : CRep (List Int) := fun w F x cs => ∃ v, cs = [v] ∧ SlRep 1 (flat intEnc) w F x v
theorem saS : Shape 1 stateR := ⟨fun hb ⟨v, h1, h2⟩ => ⟨v, h1, h2.frame inS hb⟩, fun hB ⟨v, h1, h2⟩ => ⟨v, h1, h2.monoF inS hB⟩, fun ⟨v, h1, _⟩ => by rw [h1]; rfl, fun ⟨v, h1, A, c, h2, _⟩ u hu => by
  subst h1 h2
  simp at hu
  subst hu
  rfl⟩
abbrev Shelves (w : World) (B : Nat) (xs : List Shelf) (v : Value) : Prop := SlRep 4 (flat Shelf.enc) w (fun b => b < B) xs v
abbrev Contents (w : World) (B : Nat) (xs : List Content) (v : Value) : Prop := SlRep 2 (flat Content.enc) w (fun b => b < B) xs v
abbrev Carries (w : World) (B : Nat) (xs : List Carry) (v : Value) : Prop := SlRep 3 (flat Carry.enc) w (fun b => b < B) xs v
abbrev Ints (w : World) (B : Nat) (xs : List Int) (v : Value) : Prop := SlRep 1 (flat intEnc) w (fun b => b < B) xs v
abbrev Boxes (w : World) (B : Nat) (xs : List Box) (v : Value) : Prop := SlRep 5 boxR w (fun b => b < B) xs v
abbrev States (w : World) (B : Nat) (xs : List (List Int)) (v : Value) : Prop := SlRep 1 stateR w (fun b => b < B) xs v

theorem intE_ : Elem Try.prog 26 3 1 8 := by
  obtain ⟨i, h1, h2, h3, h4⟩ := info_parts (P := Try.prog) (e := 3) (z := .int .i64 0) (size := 1) (bytes := 8) (by kernel_rfl)
  exact ⟨Try.underlying26, ⟨i, _, h1, h2, h3, h4, rfl⟩, by decide⟩
theorem shelfE_ : Elem Try.prog 22 63 4 32 := by
  obtain ⟨i, h1, h2, h3, h4⟩ := info_parts (P := Try.prog) (e := 63) (z := .agg #[.int .i64 0, .int .i64 0, .int .i64 0, .int .i64 0]) (size := 4) (bytes := 32) (by kernel_rfl)
  exact ⟨Try.underlying22, ⟨i, _, h1, h2, h3, h4, rfl⟩, by decide⟩
theorem carryE_ : Elem Try.prog 30 57 3 24 := by
  obtain ⟨i, h1, h2, h3, h4⟩ := info_parts (P := Try.prog) (e := 57) (z := .agg #[.int .i64 0, .int .i64 0, .int .i64 0]) (size := 3) (bytes := 24) (by kernel_rfl)
  exact ⟨Try.underlying30, ⟨i, _, h1, h2, h3, h4, rfl⟩, by decide⟩
theorem contE_ : Elem Try.prog 99 138 2 16 := by
  obtain ⟨i, h1, h2, h3, h4⟩ := info_parts (P := Try.prog) (e := 138) (z := .agg #[.int .i64 0, .int .i64 0]) (size := 2) (bytes := 16) (by kernel_rfl)
  exact ⟨Try.underlying99, ⟨i, _, h1, h2, h3, h4, rfl⟩, by decide⟩
theorem boxE_ : Elem Try.prog 23 101 5 56 := by
  obtain ⟨i, h1, h2, h3, h4⟩ := info_parts (P := Try.prog) (e := 101) (z := .agg #[.int .i64 0, .int .i64 0, .int .i64 0, .int .i64 0, .slice none 0 0]) (size := 5) (bytes := 56) (by kernel_rfl)
  exact ⟨Try.underlying23, ⟨i, _, h1, h2, h3, h4, rfl⟩, by decide⟩
theorem stateE_ : Elem Try.prog 35 26 1 24 := by
  obtain ⟨i, h1, h2, h3, h4⟩ := info_parts (P := Try.prog) (e := 26) (z := .slice none 0 0) (size := 1) (bytes := 24) (by kernel_rfl)
  exact ⟨Try.underlying35, ⟨i, _, h1, h2, h3, h4, rfl⟩, by decide⟩

section
variable {w : World} {F : Nat → Prop} {A : Option Addr} {n c i : Nat}
theorem Ints.at_ {xs : List Int} {x : Int} (h : SlRep 1 (flat intEnc) w F xs (.slice A n c)) (hx : xs[i]? = some x) : ∃ b off, A = some ⟨b, off, none⟩ ∧ F b ∧ w.cell? ⟨b, off + i, none⟩ = some (.int .i64 x) := by
  obtain ⟨A', c', e, h1, h2, h3⟩ := h
  obtain ⟨b, off, cs, hA, hlt, hr, hc⟩ := h3 i x hx
  injection e with e1 e2 e3
  subst e1 hr
  have := hc 0 _ rfl
  simp only [Nat.mul_one, Nat.add_zero] at this
  exact ⟨b, off, hA, hlt, this⟩
theorem Shelves.at_ {xs : List Shelf} {x : Shelf} (h : SlRep 4 (flat Shelf.enc) w F xs (.slice A n c)) (hx : xs[i]? = some x) :
    ∃ b off, A = some ⟨b, off, none⟩ ∧ F b ∧ w.cell? ⟨b, off + i * 4, none⟩ = some (.int .i64 x.id) ∧ w.cell? ⟨b, off + i * 4 + 1, none⟩ = some (.int .i64 x.rep) ∧
      w.cell? ⟨b, off + i * 4 + 2, none⟩ = some (.int .i64 x.len) ∧ w.cell? ⟨b, off + i * 4 + 3, none⟩ = some (.int .i64 x.clim) := by
  obtain ⟨A', c', e, h1, h2, h3⟩ := h
  obtain ⟨b, off, cs, hA, hlt, hr, hc⟩ := h3 i x hx
  injection e with e1 e2 e3
  subst e1 hr
  exact ⟨b, off, hA, hlt, hc 0 _ rfl, hc 1 _ rfl, hc 2 _ rfl, hc 3 _ rfl⟩
theorem Contents.at_ {xs : List Content} {x : Content} (h : SlRep 2 (flat Content.enc) w F xs (.slice A n c)) (hx : xs[i]? = some x) :
    ∃ b off, A = some ⟨b, off, none⟩ ∧ F b ∧ w.cell? ⟨b, off + i * 2, none⟩ = some (.int .i64 x.unit) ∧ w.cell? ⟨b, off + i * 2 + 1, none⟩ = some (.int .i64 x.thick) := by
  obtain ⟨A', c', e, h1, h2, h3⟩ := h
  obtain ⟨b, off, cs, hA, hlt, hr, hc⟩ := h3 i x hx
  injection e with e1 e2 e3
  subst e1 hr
  exact ⟨b, off, hA, hlt, hc 0 _ rfl, hc 1 _ rfl⟩
theorem Carries.at_ {xs : List Carry} {x : Carry} (h : SlRep 3 (flat Carry.enc) w F xs (.slice A n c)) (hx : xs[i]? = some x) :
    ∃ b off, A = some ⟨b, off, none⟩ ∧ F b ∧ w.cell? ⟨b, off + i * 3, none⟩ = some (.int .i64 x.box) ∧ w.cell? ⟨b, off + i * 3 + 1, none⟩ = some (.int .i64 x.from_) ∧ w.cell? ⟨b, off + i * 3 + 2, none⟩ = some (.int .i64 x.to_) := by
  obtain ⟨A', c', e, h1, h2, h3⟩ := h
  obtain ⟨b, off, cs, hA, hlt, hr, hc⟩ := h3 i x hx
  injection e with e1 e2 e3
  subst e1 hr
  exact ⟨b, off, hA, hlt, hc 0 _ rfl, hc 1 _ rfl, hc 2 _ rfl⟩
theorem Boxes.at_ {xs : List Box} {x : Box} (h : SlRep 5 boxR w F xs (.slice A n c)) (hx : xs[i]? = some x) :
    ∃ b off v, A = some ⟨b, off, none⟩ ∧ F b ∧ w.cell? ⟨b, off + i * 5, none⟩ = some (.int .i64 x.id) ∧ w.cell? ⟨b, off + i * 5 + 1, none⟩ = some (.int .i64 x.width) ∧
      w.cell? ⟨b, off + i * 5 + 2, none⟩ = some (.int .i64 x.room) ∧ w.cell? ⟨b, off + i * 5 + 3, none⟩ = some (.int .i64 x.clim) ∧ w.cell? ⟨b, off + i * 5 + 4, none⟩ = some v ∧ SlRep 2 (flat Content.enc) w F x.cont v := by
  obtain ⟨A', c', e, h1, h2, h3⟩ := h
  obtain ⟨b, off, cs, hA, hlt, ⟨v, hcs, hv⟩, hc⟩ := h3 i x hx
  injection e with e1 e2 e3
  subst e1 hcs
  exact ⟨b, off, v, hA, hlt, hc 0 _ rfl, hc 1 _ rfl, hc 2 _ rfl, hc 3 _ rfl, hc 4 _ rfl, hv⟩
theorem States.at_ {xs : List (List Int)} {x : List Int} (h : SlRep 1 stateR w F xs (.slice A n c)) (hx : xs[i]? = some x) :
    ∃ b off v, A = some ⟨b, off, none⟩ ∧ F b ∧ w.cell? ⟨b, off + i, none⟩ = some v ∧ SlRep 1 (flat intEnc) w F x v := by
  obtain ⟨A', c', e, h1, h2, h3⟩ := h
  obtain ⟨b, off, cs, hA, hlt, ⟨v, hcs, hv⟩, hc⟩ := h3 i x hx
  injection e with e1 e2 e3
  subst e1 hcs
  have := hc 0 _ rfl
  simp only [Nat.mul_one, Nat.add_zero] at this
  exact ⟨b, off, v, hA, hlt, this, hv⟩
end

theorem Carry.neq (x y : Carry) (w : World) : (binOp .neq 57 (.agg #[.int .i64 x.box, .int .i64 x.from_, .int .i64 x.to_]) (.agg #[.int .i64 y.box, .int .i64 y.from_, .int .i64 y.to_])).run Try.prog w = .ok (.bool (!(decide (x.box = y.box) && decide (x.from_ = y.from_) && decide (x.to_ = y.to_)))) w := by
  have hs : ∀ (d : Nat) (xs ys : Array Value), (Op.equalIn (d + 1) 57 (.agg xs) (.agg ys)).run Try.prog w = (Op.eqFields d xs ys (Try.prog.fieldsOf 57).toList).run Try.prog w := fun d xs ys => run_equalIn_struct w d 57 xs ys (by kernel_rfl) (by kernel_rfl)
  simp only [binOp]
  simp [Op.equal, Op.maxDepth, hs 9999, Program.fieldsOf, Try.underlying57, go_sem]
  by_cases h1 : x.box = y.box <;> by_cases h2 : x.from_ = y.from_ <;> by_cases h3 : x.to_ = y.to_ <;> simp [h1, h2, h3]
end Go.Proofs.Ythabpkigflldmaa
