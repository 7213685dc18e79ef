/- The program: Compile. -/
import Derived.Test.YtbmlnflacdockaaDoorPrY
import Derived.Deep.RegionLaw
import Derived.Test.YtbmlnflacdockaaDoorNuC
namespace Go.Proofs.YtbmlnflacdockaaDoor
open Go.RowKit

/-- a section whose nodes lie from block m on -/
def lowR (m : Nat) : CRep Sect := fun w F x cs => secR w (fun b => F b ∧ m ≤ b) x cs
theorem lowS (m : Nat) : Shape 3 (lowR m) :=
  ⟨fun hf h => secS.frame (fun b hb => hf b hb.1) h, fun hm h => secS.mono (fun b hb => ⟨hm b hb.1, hb.2⟩) h, fun h => secS.len h, fun h => secS.one h⟩
theorem OwnRep.low {m base : Nat} {e : TypeId} {W W' : World} {l : List Sect} {v : Value} (h : OwnRep 3 (lowR m) e base W l v) (hs : W.heap.size ≤ W'.heap.size) (hf : ∀ b, b < W.heap.size → m ≤ b → W'.heap[b]? = W.heap[b]?) (hm : m ≤ base) : OwnRep 3 (lowR m) e base W' l v := by
  obtain ⟨css, hl, hr, hown⟩ := h
  refine ⟨css, hl, fun i x cs hx hcs => ?_, ownsRow_frame hown (fun b hv => hf b (hown.lt b hv).2 (Nat.le_trans hm (hown.lt b hv).1))⟩
  exact secS.mono (fun b hb => ⟨⟨Nat.lt_of_lt_of_le hb.1.1 hs, hb.1.2⟩, hb.2⟩) (secS.frame (fun b hb => hf b hb.1.1 hb.2) (hr i x cs hx hcs))
/-- what the closure of Compile works on -/
structure CmpAt (ga gc go m : Nat) (u : Int) (lang : ByteArray) (ord : List ByteArray) (v1 v2 v3 vo : Value) (l : List Sect) (v : Value) (W : World) : Prop where
  ab : W.heap[ga]? = some (.cells #[.int .i64 u, .string lang, v] 24 (0, 0))
  cb : W.heap[gc]? = some (catC v1 v2 v3)
  ob : W.heap[go]? = some (.cells #[vo] 36 (0, 0))
  os : SlRep 1 (flat strEnc) W (fun b => b < m ∧ b ≠ ga) ord vo
  row : OwnRep 3 (lowR (m + 3)) 28 (m + 3) W l v
  la : ga < m
  lc : gc < m ∧ gc ≠ ga
  lo : go < m ∧ go ≠ ga
  sz : m ≤ W.heap.size
theorem CmpAt.aside {ga gc go m : Nat} {u : Int} {lang : ByteArray} {ord : List ByteArray} {v1 v2 v3 vo : Value} {l : List Sect} {v : Value} {W W' : World} (h : CmpAt ga gc go m u lang ord v1 v2 v3 vo l v W) (ha : Aside m W W') : CmpAt ga gc go m u lang ord v1 v2 v3 vo l v W' :=
  ⟨(ha.same ga (heap_lt h.ab) (.inl h.la)).trans h.ab, (ha.same gc (heap_lt h.cb) (.inl h.lc.1)).trans h.cb, (ha.same go (heap_lt h.ob) (.inl h.lo.1)).trans h.ob, h.os.frame strS (fun b hb => ha.same b (by have := hb.1; have := h.sz; omega) (.inl hb.1)), h.row.low ha.size (fun b hb hm => ha.same b hb (.inr hm)) (Nat.le_refl _), h.la, h.lc, h.lo, Nat.le_trans h.sz ha.size⟩
theorem CmpAt.call {ga gc go m : Nat} {u : Int} {lang : ByteArray} {ord : List ByteArray} {v1 v2 v3 vo : Value} {l : List Sect} {v : Value} {W W' : World} (h : CmpAt ga gc go m u lang ord v1 v2 v3 vo l v W) (hb : Below W.heap.size W W') : CmpAt ga gc go m u lang ord v1 v2 v3 vo l v W' := h.aside (Aside.below hb)
theorem CmpAt.cells {ga gc go m : Nat} {u : Int} {lang : ByteArray} {ord : List ByteArray} {v1 v2 v3 vo : Value} {l : List Sect} {v : Value} {W : World} (h : CmpAt ga gc go m u lang ord v1 v2 v3 vo l v W) :
    W.cell? ⟨ga, 2, none⟩ = some v ∧ W.cell? ⟨gc, 0, none⟩ = some v1 ∧ W.cell? ⟨gc, 1, none⟩ = some v2 ∧ W.cell? ⟨gc, 2, none⟩ = some v3 ∧ W.cell? ⟨go, 0, none⟩ = some vo :=
  ⟨by rw [Lib.cell_of_heap h.ab]; rfl, by rw [Lib.cell_of_heap h.cb]; rfl, by rw [Lib.cell_of_heap h.cb]; rfl, by rw [Lib.cell_of_heap h.cb]; rfl, by rw [Lib.cell_of_heap h.ob]; rfl⟩
theorem CmpAt.app {ga gc go m : Nat} {u : Int} {lang : ByteArray} {ord : List ByteArray} {v1 v2 v3 vo : Value} {l : List Sect} {x : Sect} {v v' : Value} {W w6 : World} (h : CmpAt ga gc go m u lang ord v1 v2 v3 vo l v W) (hown : OwnRep 3 (lowR (m + 3)) 28 (m + 3) w6 (l ++ [x]) v') (hg : W.grownBy w6 v.ownBlock) (hsz : m + 3 ≤ W.heap.size) :
    CmpAt ga gc go m u lang ord v1 v2 v3 vo (l ++ [x]) v' (w6.setCell ⟨ga, 2, none⟩ v') ∧ (∀ b, b ≠ ga → b < m + 3 → (w6.setCell ⟨ga, 2, none⟩ v').heap[b]? = W.heap[b]?) ∧ w6.frozen? ⟨ga, 2, none⟩ = false ∧ w6.cell? ⟨ga, 2, none⟩ = some v := by
  have hlt := h.row.own_lt
  have hs6 := hg.size
  have keep : ∀ b, b < m + 3 → w6.heap[b]? = W.heap[b]? := fun b hb => hg.block b (by omega) (fun e => by have := (hlt b e.symm).1; omega)
  have keep2 : ∀ b, b ≠ ga → b < m + 3 → (w6.setCell ⟨ga, 2, none⟩ v').heap[b]? = W.heap[b]? := fun b hne hb => by rw [Below.heap_setCell _ _ _ _ hne]; exact keep b hb
  have h6 : w6.heap[ga]? = some (.cells #[.int .i64 u, .string lang, v] 24 (0, 0)) := (keep ga (by have := h.la; omega)).trans h.ab
  have hlc := h.lc
  have hlo := h.lo
  have hla := h.la
  exact ⟨⟨by simp [World.setCell, Array.getElem?_modify, h6], (keep2 gc hlc.2 (by omega)).trans h.cb, (keep2 go hlo.2 (by omega)).trans h.ob, h.os.frame strS (fun b hb => keep2 b hb.2 (by have := hb.1; omega)), hown.low (by simp [World.setCell]) (fun b _ hm => Below.heap_setCell _ _ _ _ (by show b ≠ ga; omega)) (Nat.le_refl _), hla, hlc, hlo, by simp [World.setCell]; omega⟩, keep2, Lib.frozen_of_heap h6 2, by rw [Lib.cell_of_heap h6]; rfl⟩
/-- one section laid in a new block, for the append -/
theorem sec_lay {m : Nat} {v : Value} {w2 w3 : World} {x : Sect} {vN : Value} (hown : OwnRep 3 (flat Node.enc) 30 w2.heap.size w3 x.nodes vN) (hv : ∀ b, v.ownBlock = some b → b < w2.heap.size) (hm : m ≤ w2.heap.size) :
    SlRep 3 (lowR m) (w3.alloc (.cells #[.int .i64 x.unit, .string x.number, vN] 28)) (fun b => (b < w3.heap.size ∧ v.ownBlock ≠ some b) ∨ b = w3.heap.size) [x] (.slice (some ⟨w3.heap.size, 0, none⟩) 1 1) := by
  refine SlRep.one_new (lowS m) (w := w3) (x := x) (cs := [.int .i64 x.unit, .string x.number, vN]) rfl ⟨vN, rfl, ?_⟩ (fun b hb => hb.1)
  refine (hown.toFlat nodS).monoF nodS (fun b hb => ?_)
  obtain ⟨h1, h2⟩ := hown.own_lt b hb
  exact ⟨⟨h2, fun e => by have := hv b e; omega⟩, by omega⟩
theorem sec_off {v : Value} {w2 w3 : World} {o : Obj} (hv : ∀ b, v.ownBlock = some b → b < w2.heap.size) (hb : w2.heap.size ≤ w3.heap.size) (c : Nat) (h : (c < w3.heap.size ∧ v.ownBlock ≠ some c) ∨ c = w3.heap.size) : c < (w3.alloc o).heap.size ∧ v.ownBlock ≠ some c := by
  rcases h with h | rfl
  · exact ⟨by simp; omega, h.2⟩
  · exact ⟨by simp, fun e => by have := hv _ e; omega⟩
theorem own_drew {v : Value} {w : World} {s : Sheet} {vf : Value} (h : ∀ b, v.ownBlock = some b → b < w.heap.size) : ∀ b, v.ownBlock = some b → b < (w.alloc (shtC s vf)).drew.heap.size := fun b hb => by have := h b hb; simp; omega
abbrev wx (w : World) (s : Sheet) (vf : Value) : World := w.alloc (shtC s vf)
set_option maxRecDepth 100000 in
set_option maxHeartbeats 8000000 in
theorem comp1_c (c : Cat) (s : Sheet) (n lang : ByteArray) (u : Int) (ord : List ByteArray) (v1 v2 v3 vf vo v : Value) (l : List Sect) (ga gc go m B : Nat) (w w0 : World) (hw0 : B ≤ w0.heap.size) (hB : B ≤ ga) (h : CmpAt ga gc go m u lang ord v1 v2 v3 vo l v w) (hb0 : Below B w0 w)
    (hc : CatRep w0 B c v1 v2 v3) (hf : Facts w B s.facts vf) (h0 : catE c = 0) (hs : s ∈ c.sheets) (hn : n.size ≤ 60) (hS : SynOk w0) (h2 : 2 < B) (hl : l.length ≤ 100) (hsz : m + 3 ≤ w.heap.size) :
    Calls Tryd.prog 39 #[.agg #[.int .i64 s.unit, .int .i64 s.parent, .int .i64 s.level, .string s.mark, .string s.title, vf], .string n, .pointer (some ⟨ga, 0, none⟩), .pointer (some ⟨gc, 0, none⟩), .pointer (some ⟨go, 0, none⟩)] w fun e w' => e = .returned (.tuple #[]) ∧ (∃ v', CmpAt ga gc go m u lang ord v1 v2 v3 vo (l ++ [secF c ord s n]) v' w') ∧ Below B w0 w' ∧ w.heap.size ≤ w'.heap.size ∧ ∀ b, m ≤ b → b < m + 3 → w'.heap[b]? = w.heap[b]? := by
  obtain ⟨Af, cf, rfl, -⟩ := id hf
  obtain ⟨Ao, co, rfl, -⟩ := id h.os
  have bx := (Below.refl w.heap.size w).alloc (Nat.le_refl _) (shtC s (.slice Af s.facts.length cf))
  have hx := h.call bx
  have hvl : ∀ b, v.ownBlock = some b → b < w.heap.size := fun b hb => (h.row.own_lt b hb).2
  have hla := h.la
  have Bw := hb0.size
  have HX := Lib.hid hx
  have HSE := Lib.hid (fun (W : World) (hW : Below (wx w s (.slice Af s.facts.length cf)).heap.size (wx w s (.slice Af s.facts.length cf)) W) => (by
    have hc1 := HX.out.call hW
    have b1 : Below B w0 W := hb0.trans ((bx.mono (by omega)).trans (hW.mono (by simp; omega)))
    have hBW : B ≤ W.heap.size := Nat.le_trans hw0 b1.size
    exact section_c c s n ord v1 v2 v3 (.slice Af s.facts.length cf) (.slice Ao ord.length co) W W.heap.size (Nat.le_refl _) ((hc.below b1).mono hBW) ((hf.below fctS (below_turn hb0 b1 (by have := hW.size; simp at this; omega))).mono fctS hBW) (hc1.os.monoF strS (fun b hb => by have := hb.1; have := hc1.sz; omega)) h0 hs hn (hS.below h2 b1) : Calls Tryd.prog 40 _ W _))
  have HVL := Lib.hid (show ∀ b, v.ownBlock = some b → b < (wx w s (.slice Af s.facts.length cf)).drew.heap.size from own_drew hvl)
  have hbX : Below (wx w s (.slice Af s.facts.length cf)).heap.size (wx w s (.slice Af s.facts.length cf)) (wx w s (.slice Af s.facts.length cf)).drew := (Below.refl _ _).drew
  obtain ⟨p0, p1, p2, p3, p4⟩ := (hx.call hbX).cells
  have q0 : (wx w s (.slice Af s.facts.length cf)).drew.cell? ⟨w.heap.size, 0, none⟩ = some (.int .i64 s.unit) := by simp
  have q1 : (wx w s (.slice Af s.facts.length cf)).drew.cell? ⟨w.heap.size, 1, none⟩ = some (.int .i64 s.parent) := by simp
  have q2 : (wx w s (.slice Af s.facts.length cf)).drew.cell? ⟨w.heap.size, 2, none⟩ = some (.int .i64 s.level) := by simp
  have q3 : (wx w s (.slice Af s.facts.length cf)).drew.cell? ⟨w.heap.size, 3, none⟩ = some (.string s.mark) := by simp
  have q4 : (wx w s (.slice Af s.facts.length cf)).drew.cell? ⟨w.heap.size, 4, none⟩ = some (.string s.title) := by simp
  have q5 : (wx w s (.slice Af s.facts.length cf)).drew.cell? ⟨w.heap.size, 5, none⟩ = some (.slice Af s.facts.length cf) := by simp
  have kN : l.length + [secF c ord s n].length ≤ 4294967296 := by simp; omega
  obtain ⟨LL, hLL⟩ : ∃ LL, l ++ [secF c ord s n] = LL := ⟨_, rfl⟩
  have HLL := Lib.hid hLL
  have HZ := Lib.hid (show m + 3 ≤ (wx w s (.slice Af s.facts.length cf)).drew.heap.size by simp; omega)
  rw [hLL]
  have HFIN := Lib.hid (fun (W w6 : World) (v6 : Value) (hW : Below (wx w s (.slice Af s.facts.length cf)).heap.size (wx w s (.slice Af s.facts.length cf)) W) (hg : W.grownBy w6 v.ownBlock) (hown : OwnRep 3 (lowR (m + 3)) 28 (m + 3) w6 (l ++ [secF c ord s n]) v6) => (by
    have hA := (HX.out.call hW).app hown hg (by have := hW.size; simp at this; omega)
    have hlo := (HX.out.call hW).row.own_lt
    have hWs := hW.size
    simp at hWs
    have hg6 := hg.size
    rw [hLL] at hA
    refine ⟨hA.1, hA.2.2.1, hA.2.2.2, ((hb0.trans ((bx.mono (by omega)).trans (hW.mono (by simp; omega)))).grown hg (by omega) (fun k hk => by have := (hlo k hk).1; omega)).setCell hB _, by simp [World.setCell]; omega, fun b h1 h2 => ?_⟩
    rw [hA.2.1 b (by omega) h2, hW.block b (by simp; omega), Below.heap_alloc _ _ _ (by omega)] : CmpAt ga gc go m u lang ord v1 v2 v3 (.slice Ao ord.length co) LL v6 (w6.setCell ⟨ga, 2, none⟩ v6) ∧ w6.frozen? ⟨ga, 2, none⟩ = false ∧ w6.cell? ⟨ga, 2, none⟩ = some v ∧ Below B w0 (w6.setCell ⟨ga, 2, none⟩ v6) ∧ w.heap.size ≤ (w6.setCell ⟨ga, 2, none⟩ v6).heap.size ∧ ∀ b, m ≤ b → b < m + 3 → (w6.setCell ⟨ga, 2, none⟩ v6).heap[b]? = w.heap[b]?))
  clear hLL hx
  go_enter Tryd.func39, Tryd.ntmps39
  go_wp2
  go_region_law (first
    | (refine step_append_rep rfl (lowS (m + 3)) secE_ _ (.tmp 8) (.tmp 14) rfl rfl kO rfl (ys := [secF c ord s n]) kS kF kN (by decide) kB ?_; intro v6 w6 hown6 hg6 hat6; have hA6 := HFIN.out _ w6 v6 hbA hg6 hown6; have hz6 := hA6.2.1; have hc6 := hA6.2.2.1; rw [HLL.out] at hown6; obtain ⟨A6, c6, rfl, -⟩ := id (hown6.toSl (lowS (m + 3))))
    | (go_simp; go_at_call 40; (with_reducible refine (HSE.out _ hbX).mono ?_); rintro e w3 ⟨vN, rfl, hownN, hb3⟩; have hbX' := hbX.trans (hb3.mono hbX.size); obtain ⟨AN, cN, rfl, -⟩ := id (hownN.toSl nodS); have hbA := hbX'.alloc hbX'.size (secC s n (.slice AN (secF c ord s n).nodes.length cN)); have kO := (HX.out.call hbA).row; have kB := Nat.le_trans HZ.out hbA.size; have kS := sec_lay (m := m + 3) hownN HVL.out HZ.out; have kF := sec_off (o := secC s n (.slice AN (secF c ord s n).nodes.length cN)) HVL.out hb3.size; have r0 := (HX.out.call hbX').cells.1; have r1 := (HX.out.call hbA).cells.1))
  all_goals (go_wp2; go_end0)
  all_goals exact ⟨rfl, ⟨_, hA6.1⟩, hA6.2.2.2.1, hA6.2.2.2.2.1, hA6.2.2.2.2.2⟩
open Go.RowKit

theorem enter_compile (args : Array Value) (W : World) : (callFunc 39 args).run Tryd.prog W = .ok (.enter 39 args) W := by kernel_rfl
def secL (c : Cat) (ord : List ByteArray) (out : List (Sheet × ByteArray)) : List Sect := out.map fun p => secF c ord p.1 p.2
theorem secL_snoc (c : Cat) (ord : List ByteArray) (out : List (Sheet × ByteArray)) (x : Sheet) (n : ByteArray) : secL c ord (out ++ [(x, n)]) = secL c ord out ++ [secF c ord x n] := by simp [secL]
/-- the sections of a finding aid -/
def aidL (c : Cat) (u : Int) (s : ByteArray) : List Sect := secL c (prefP c.langs s) (secnF c.sheets u)
def cmpE (c : Cat) (u : Int) (s : ByteArray) : Int := if catE c ≠ 0 then 1 else if hasS c.langs s = false then 10 else if shtIx c.sheets u < 0 then 7 else 0
def aidU (c : Cat) (u : Int) (s : ByteArray) : Int := if cmpE c u s = 0 then u else 0
def aidS (c : Cat) (u : Int) (s : ByteArray) : ByteArray := if cmpE c u s = 0 then s else ⟨#[]⟩
def aidF (c : Cat) (u : Int) (s : ByteArray) : List Sect := if cmpE c u s = 0 then aidL c u s else []
abbrev aidZ : Obj := .cells #[.int .i64 0, .string ⟨#[]⟩, .slice none 0 0] 24
abbrev zAid : Value := .agg #[.int .i64 0, .string ⟨#[]⟩, .slice none 0 0]
theorem aid_err {c : Cat} {u : Int} {s : ByteArray} {k : Int} (h : cmpE c u s = k) (hk : k ≠ 0) : Value.tuple #[zAid, .int .i64 k] = Value.tuple #[.agg #[.int .i64 (aidU c u s), .string (aidS c u s), .slice none 0 0], .int .i64 (cmpE c u s)] ∧ aidF c u s = [] := by
  have h' : cmpE c u s ≠ 0 := by rw [h]; exact hk
  unfold aidU aidS aidF
  rw [if_neg h', if_neg h', if_neg h', h]
  exact ⟨rfl, rfl⟩
theorem SlRep.nil_' {W : World} {F : Nat → Prop} : SlRep 3 secR W F [] (.slice none 0 0) := SlRep.nil_
/-- the world behind the entry -/
structure EntW (w : World) (v1 v2 v3 : Value) (W : World) : Prop where
  cb : W.heap[w.heap.size]? = some (catC v1 v2 v3)
  rb : W.heap[w.heap.size + 1]? = some aidZ
  below : Below w.heap.size w W
  size : w.heap.size + 2 ≤ W.heap.size
theorem EntW.make (w : World) (v1 v2 v3 : Value) : EntW w v1 v2 v3 ((w.alloc (catC v1 v2 v3)).alloc aidZ) where
  cb := by
    rw [Below.heap_alloc _ _ _ (by simp)]
    exact heap_newL w _
  rb := by
    have := heap_newL (w.alloc (catC v1 v2 v3)) aidZ
    simpa only [World.size_alloc] using this
  below := ((Below.refl _ _).alloc (Nat.le_refl _) _).alloc (by simp) _
  size := by simp
theorem EntW.call {w W W' : World} {v1 v2 v3 : Value} (h : EntW w v1 v2 v3 W) (hb : Below W.heap.size W W') : EntW w v1 v2 v3 W' :=
  ⟨(hb.block _ (heap_lt h.cb)).trans h.cb, (hb.block _ (heap_lt h.rb)).trans h.rb, h.below.trans (hb.mono h.below.size), Nat.le_trans h.size hb.size⟩
theorem EntW.cells {w W : World} {v1 v2 v3 : Value} (h : EntW w v1 v2 v3 W) : W.cell? ⟨w.heap.size, 0, none⟩ = some v1 ∧ W.cell? ⟨w.heap.size, 1, none⟩ = some v2 ∧ W.cell? ⟨w.heap.size, 2, none⟩ = some v3 ∧ w.heap.size < W.heap.size :=
  ⟨by rw [Lib.cell_of_heap h.cb]; rfl, by rw [Lib.cell_of_heap h.cb]; rfl, by rw [Lib.cell_of_heap h.cb]; rfl, heap_lt h.cb⟩
theorem EntW.res {w W : World} {v1 v2 v3 : Value} (h : EntW w v1 v2 v3 W) : (W.cell? ⟨w.heap.size + 1, 0, none⟩ = some (.int .i64 0) ∧ W.cell? ⟨w.heap.size + 1, 1, none⟩ = some (.string ⟨#[]⟩) ∧ W.cell? ⟨w.heap.size + 1, 2, none⟩ = some (.slice none 0 0)) ∧ (W.frozen? ⟨w.heap.size + 1, 0, none⟩ = false ∧ W.frozen? ⟨w.heap.size + 1, 1, none⟩ = false ∧ W.frozen? ⟨w.heap.size + 1, 2, none⟩ = false) ∧ w.heap.size + 1 < W.heap.size :=
  ⟨⟨by rw [Lib.cell_of_heap h.rb]; rfl, by rw [Lib.cell_of_heap h.rb]; rfl, by rw [Lib.cell_of_heap h.rb]; rfl⟩, ⟨Lib.frozen_of_heap h.rb 0, Lib.frozen_of_heap h.rb 1, Lib.frozen_of_heap h.rb 2⟩, heap_lt h.rb⟩
theorem row_sec {m base : Nat} {e : TypeId} {W : World} {l : List Sect} {v : Value} (h : OwnRep 3 (lowR m) e base W l v) (hb : m ≤ base) : SlRep 3 secR W (fun b => m ≤ b ∧ b < W.heap.size) l v := by
  have hlt := h.own_lt
  obtain ⟨A, c, e1, h1, h2, h3⟩ := h.toSl (lowS m)
  refine ⟨A, c, e1, h1, h2, fun i x hx => ?_⟩
  obtain ⟨b, off, cs, hA, hF, hr, hc⟩ := h3 i x hx
  have hbo := hlt b (by rw [e1, hA]; rfl)
  exact ⟨b, off, cs, hA, ⟨Nat.le_trans hb hbo.1, hbo.2⟩, secS.mono (fun b hb => ⟨hb.2, hb.1⟩) hr, hc⟩
abbrev aidO (u : Int) (s : ByteArray) (v : Value) : Obj := .cells #[.int .i64 u, .string s, v] 24
abbrev ordO (v : Value) : Obj := .cells #[v] 36
theorem cmp_start {w w3 w4 : World} {v1 v2 v3 vo : Value} {u : Int} {s : ByteArray} {ord : List ByteArray} (h : EntW w v1 v2 v3 w4) (hown : OwnRep 1 (flat strEnc) 9 w3.heap.size w4 ord vo) :
    CmpAt w4.heap.size w.heap.size (w4.heap.size + 1) (w4.heap.size + 2) u s ord v1 v2 v3 vo [] (.slice none 0 0) ((w4.alloc (aidO u s (.slice none 0 0))).alloc (ordO vo)) := by
  have hz := heap_lt h.cb
  have hb : Below w4.heap.size w4 ((w4.alloc (aidO u s (.slice none 0 0))).alloc (ordO vo)) := ((Below.refl _ _).alloc (Nat.le_refl _) _).alloc (by simp) _
  refine ⟨?_, (hb.block _ hz).trans h.cb, ?_, ((hown.toFlat strS).frame strS (fun b hb' => hb.block b (hown.own_lt b hb').2)).monoF strS (fun b hb' => ?_), OwnRep.nil_, by omega, by omega, by omega, by simp⟩
  · rw [Below.heap_alloc _ _ _ (by simp)]
    exact heap_newL w4 _
  · have := heap_newL (w4.alloc (aidO u s (.slice none 0 0))) (ordO vo)
    simpa only [World.size_alloc] using this
  · have := (hown.own_lt b hb').2
    omega
set_option maxRecDepth 100000 in
set_option maxHeartbeats 8000000 in
theorem Compile_lo (c : Cat) (u : Int) (s : ByteArray) (v1 v2 v3 : Value) (w : World) (B : Nat) (hB : B ≤ w.heap.size) (h : CatRep w B c v1 v2 v3) (h14 : catE c = 0 → c.sheets.length ≤ 14) (hS : SynOk w) :
    Calls Tryd.prog 13 #[.agg #[v1, v2, v3], .int .i64 u, .string s] w fun e w' => ∃ vs, e = .returned (.tuple #[.agg #[.int .i64 (aidU c u s), .string (aidS c u s), vs], .int .i64 (cmpE c u s)]) ∧ SlRep 3 secR w' (fun b => w.heap.size ≤ b ∧ b < w'.heap.size) (aidF c u s) vs ∧ Below w.heap.size w w' := by
  have HC := Lib.hid (fun (W : World) (hW : Below w.heap.size w W) => Check_c c v1 v2 v3 W B (Nat.le_trans hB hW.size) (h.below (hW.mono hB)))
  by_cases h1 : catE c = 0
  · have h0 := Lib.hid h1
    rw [h1] at HC
    have HHA := Lib.hid (fun (W : World) (hW : Below w.heap.size w W) => scontains_c s c.langs v1 W (fun b => b < B) (fun b hb => by have : b < B := hb; have := hW.size; omega) (h.langs.below strS (hW.mono hB)))
    have HFI := Lib.hid (fun (W : World) (hW : Below w.heap.size w W) => find_c c.sheets u v3 W B (Nat.le_trans hB hW.size) (h.sheets.below shtS (hW.mono hB)))
    cases hs : c.langs.any (fun x => decide (x = s))
    · have HE := Lib.hid (aid_err (show cmpE c u s = 10 by unfold cmpE; rw [if_neg (by simp [h1]), if_pos (show hasS c.langs s = false from hs)]) (by decide))
      rw [hs] at HHA
      clear h1 hs
      go_enter Tryd.func13, Tryd.ntmps13
      go_wp2_with fail
      have hE0 := EntW.make w v1 v2 v3
      refine (HC.out _ hE0.below).mono ?_
      rintro e w1 ⟨rfl, hb1⟩
      have hE1 := hE0.call hb1
      obtain ⟨z0, z1, z2, zl⟩ := hE1.cells
      clear hE0
      go_wp2_with fail
      refine (HHA.out _ hE1.below).mono ?_
      rintro e w2 ⟨rfl, rfl⟩
      clear z0 z1 z2 zl
      obtain ⟨⟨e0, e1, e2⟩, ⟨f0, f1, f2⟩, hl0⟩ := hE1.res
      have HBL := Lib.hid hE1.below
      clear hE1
      go_wp2
      refine bodyPost_ret (v := .tuple #[zAid, .int .i64 10]) (by simp [results, Tryd.results13, go_sem, zAid, e0, e1, e2]) rfl ⟨.slice none 0 0, by rw [HE.out.1], by rw [HE.out.2]; exact SlRep.nil_', ((HBL.out.setCell (by show w.heap.size ≤ w.heap.size + 1; omega) _).setCell (by show w.heap.size ≤ w.heap.size + 1; omega) _).setCell (by show w.heap.size ≤ w.heap.size + 1; omega) _⟩
    · rw [hs] at HHA
      have hsl : s ∈ c.langs := hasS_iff.1 (show hasS c.langs s = true from hs)
      rcases idxF_cases (fun x : Sheet => decide (x.unit = u)) c.sheets with ⟨hi, -⟩ | ⟨k, x, hi, -, -, -⟩
      · have hi' : shtIx c.sheets u = -1 := hi
        have HE := Lib.hid (aid_err (show cmpE c u s = 7 by unfold cmpE; rw [if_neg (by simp [h1]), if_neg (show ¬ hasS c.langs s = false by unfold hasS; simp [hs]), if_pos (by omega)]) (by decide))
        rw [hi'] at HFI
        clear h1 hs hi hi'
        go_enter Tryd.func13, Tryd.ntmps13
        go_wp2_with fail
        have hE0 := EntW.make w v1 v2 v3
        refine (HC.out _ hE0.below).mono ?_
        rintro e w1 ⟨rfl, hb1⟩
        have hE1 := hE0.call hb1
        obtain ⟨z0, z1, z2, zl⟩ := hE1.cells
        clear hE0
        go_wp2_with fail
        refine (HHA.out _ hE1.below).mono ?_
        rintro e w2 ⟨rfl, rfl⟩
        go_wp2_with fail
        refine (HFI.out _ hE1.below).mono ?_
        rintro e w3 ⟨rfl, hb3⟩
        have hE3 := hE1.call hb3
        clear z0 z1 z2 zl hE1
        obtain ⟨⟨e0, e1, e2⟩, ⟨f0, f1, f2⟩, hl0⟩ := hE3.res
        have HBL := Lib.hid hE3.below
        clear hE3
        go_wp2
        refine bodyPost_ret (v := .tuple #[zAid, .int .i64 7]) (by simp [results, Tryd.results13, go_sem, zAid, e0, e1, e2]) rfl ⟨.slice none 0 0, by rw [HE.out.1], by rw [HE.out.2]; exact SlRep.nil_', ((HBL.out.setCell (by show w.heap.size ≤ w.heap.size + 1; omega) _).setCell (by show w.heap.size ≤ w.heap.size + 1; omega) _).setCell (by show w.heap.size ≤ w.heap.size + 1; omega) _⟩
      · have hi' : shtIx c.sheets u = (k : Int) := hi
        have hcm : cmpE c u s = 0 := by unfold cmpE; rw [if_neg (by simp [h1]), if_neg (show ¬ hasS c.langs s = false by unfold hasS; simp [hs]), if_neg (by omega)]
        have HE := Lib.hid (show aidU c u s = u ∧ aidS c u s = s ∧ aidF c u s = aidL c u s ∧ cmpE c u s = 0 by unfold aidU aidS aidF; rw [if_pos hcm, if_pos hcm, if_pos hcm]; exact ⟨rfl, rfl, rfl, hcm⟩)
        have hki : decide ((k : Int) < 0) = false := by simp
        rw [hi'] at HFI
        have hl14 := h14 h1
        obtain ⟨hz1, -, -, -⟩ := catE_zero h1
        obtain ⟨-, l2, -, -⟩ := langE_zero hz1
        have HPR := Lib.hid (fun (W : World) (hW : Below w.heap.size w W) => prefer_c c s v1 v2 v3 W B (Nat.le_trans hB hW.size) (h.langs.below strS (hW.mono hB)) hsl l2)
        clear h1 hs hi hi' hcm hz1
        go_enter Tryd.func13, Tryd.ntmps13
        go_wp2_with fail
        have hE0 := EntW.make w v1 v2 v3
        refine (HC.out _ hE0.below).mono ?_
        rintro e w1 ⟨rfl, hb1⟩
        have hE1 := hE0.call hb1
        obtain ⟨z0, z1, z2, zl⟩ := hE1.cells
        clear hE0
        go_wp2_with fail
        refine (HHA.out _ hE1.below).mono ?_
        rintro e w2 ⟨rfl, rfl⟩
        go_wp2_with fail
        refine (HFI.out _ hE1.below).mono ?_
        rintro e w3 ⟨rfl, hb3⟩
        have hE3 := hE1.call hb3
        clear z0 z1 z2 zl hE1
        obtain ⟨z0, z1, z2, zl⟩ := hE3.cells
        go_wp2_with fail
        refine (HPR.out _ hE3.below).mono ?_
        rintro e w4 ⟨vp, rfl, hown4, hb4⟩
        have hE4 := hE3.call hb4
        clear z0 z1 z2 zl
        obtain ⟨z0, z1, z2, zl⟩ := hE4.cells
        obtain ⟨Ap, cp, rfl, -⟩ := id (hown4.toSl strS)
        have HL0 := Lib.hid (show Below w.heap.size w ((w4.alloc (aidO u s (.slice none 0 0))).alloc (ordO (.slice Ap (prefP c.langs s).length cp))) from (hE4.below.alloc hE4.below.size _).alloc (by simp; have := hE4.below.size; omega) _)
        have HN0 := Lib.hid (show CmpAt w4.heap.size w.heap.size (w4.heap.size + 1) (w4.heap.size + 2) u s (prefP c.langs s) v1 v2 v3 (.slice Ap (prefP c.langs s).length cp) [] (.slice none 0 0) ((w4.alloc (aidO u s (.slice none 0 0))).alloc (ordO (.slice Ap (prefP c.langs s).length cp))) from cmp_start hE4 hown4)
        have hL4 : Below w4.heap.size w4 ((w4.alloc (aidO u s (.slice none 0 0))).alloc (ordO (.slice Ap (prefP c.langs s).length cp))) := ((Below.refl _ _).alloc (Nat.le_refl _) _).alloc (by simp) _
        have HNU := Lib.hid (numbered3_c 39 (.pointer (some ⟨w4.heap.size, 0, none⟩)) (.pointer (some ⟨w.heap.size, 0, none⟩)) (.pointer (some ⟨w4.heap.size + 1, 0, none⟩)) c.sheets u v1 v2 v3 ((w4.alloc (aidO u s (.slice none 0 0))).alloc (ordO (.slice Ap (prefP c.langs s).length cp))) w4.heap.size hL4.size (((h.sheets.mono shtS hB).below shtS HL0.out).mono shtS hE4.below.size) hl14 enter_compile
          (fun out W => ∃ v, CmpAt w4.heap.size w.heap.size (w4.heap.size + 1) (w4.heap.size + 2) u s (prefP c.langs s) v1 v2 v3 (.slice Ap (prefP c.langs s).length cp) (secL c (prefP c.langs s) out) v W)
          (fun W hW => ⟨_, HN0.out.call hW⟩)
          (fun out W W' hj ha => ⟨_, hj.choose_spec.aside (by simpa using ha)⟩)
          (fun out x n vf W hj hb hsz hmem hvf hn hol => (comp1_c c x n s u (prefP c.langs s) v1 v2 v3 vf (.slice Ap (prefP c.langs s).length cp) hj.choose (secL c (prefP c.langs s) out) w4.heap.size w.heap.size (w4.heap.size + 1) (w4.heap.size + 2) w4.heap.size W _ hL4.size (Nat.le_refl _) hj.choose_spec hb (((h.mono hB).below HL0.out).mono hE4.below.size) hvf h0.out hmem hn (hS.below hS.1 HL0.out) (Nat.lt_of_lt_of_le hS.1 hE4.below.size) (by unfold secL; rw [List.length_map]; omega) (by simp at hsz; omega)).mono fun e w' ⟨g1, g2, g3, g4, g5⟩ => ⟨g1, by rw [secL_snoc]; exact g2, g3, g4, fun b hb1 hb2 => g5 b (by simp at hb1; omega) (by simp at hb2; omega)⟩))
        go_wp2_with fail
        refine HNU.out.mono ?_
        rintro e w5 ⟨rfl, ⟨v5, hc5⟩, hb5, hs5⟩
        have hE5 := hE4.call (hL4.trans hb5)
        have a0 : w5.cell? ⟨w4.heap.size, 0, none⟩ = some (.int .i64 u) := by rw [Lib.cell_of_heap hc5.ab]; rfl
        have a1 : w5.cell? ⟨w4.heap.size, 1, none⟩ = some (.string s) := by rw [Lib.cell_of_heap hc5.ab]; rfl
        have a2 : w5.cell? ⟨w4.heap.size, 2, none⟩ = some v5 := by rw [Lib.cell_of_heap hc5.ab]; rfl
        have hrow := row_sec hc5.row (Nat.le_refl _)
        have al := heap_lt hc5.ab
        obtain ⟨A5, c5, rfl, -⟩ := id hrow
        obtain ⟨⟨e0, e1, e2⟩, ⟨f0, f1, f2⟩, hl0⟩ := hE5.res
        have HBL := Lib.hid hE5.below
        have hE4s := hE4.size
        have HRW := Lib.hid (fun (a b d : Value) => (hrow.frame (w' := ((w5.setCell ⟨w.heap.size + 1, 0, none⟩ a).setCell ⟨w.heap.size + 1, 1, none⟩ b).setCell ⟨w.heap.size + 1, 2, none⟩ d) secS (fun b' hb' => by
            have hne : b' ≠ w.heap.size + 1 := by have := hb'.1; omega
            rw [Below.heap_setCell _ _ _ _ hne, Below.heap_setCell _ _ _ _ hne, Below.heap_setCell _ _ _ _ hne])).monoF secS (F' := fun b' => w.heap.size ≤ b' ∧ b' < (((w5.setCell ⟨w.heap.size + 1, 0, none⟩ a).setCell ⟨w.heap.size + 1, 1, none⟩ b).setCell ⟨w.heap.size + 1, 2, none⟩ d).heap.size) (fun b' hb' => ⟨by have := hb'.1; omega, by simpa [World.setCell] using hb'.2⟩))
        obtain ⟨HE1, HE2, HE3, HE4⟩ := HE.out
        have HV := Lib.hid (show Value.tuple #[.agg #[.int .i64 u, .string s, .slice A5 (secL c (prefP c.langs s) (secnF c.sheets u)).length c5], .int .i64 0] = Value.tuple #[.agg #[.int .i64 (aidU c u s), .string (aidS c u s), .slice A5 (secL c (prefP c.langs s) (secnF c.sheets u)).length c5], .int .i64 (cmpE c u s)] by rw [HE1, HE2, HE4])
        have HF := Lib.hid (show aidF c u s = secL c (prefP c.langs s) (secnF c.sheets u) from HE3)
        clear HE1 HE2 HE3 HE4 hrow hc5 hE5 hE4 z0 z1 z2 zl HNU HN0 HL0 hb5 hL4
        go_wp2
        refine bodyPost_ret (v := .tuple #[.agg #[.int .i64 u, .string s, .slice A5 (secL c (prefP c.langs s) (secnF c.sheets u)).length c5], .int .i64 0]) (by simp [results, Tryd.results13, go_sem, e0, e1, e2]) rfl ⟨_, by rw [HV.out], by rw [HF.out]; exact HRW.out _ _ _, ((HBL.out.setCell (by show w.heap.size ≤ w.heap.size + 1; omega) _).setCell (by show w.heap.size ≤ w.heap.size + 1; omega) _).setCell (by show w.heap.size ≤ w.heap.size + 1; omega) _⟩
  · have HE := Lib.hid (aid_err (show cmpE c u s = 1 by unfold cmpE; rw [if_pos h1]) (by decide))
    obtain ⟨n1, n2⟩ := ne_bool h1
    clear h1
    go_enter Tryd.func13, Tryd.ntmps13
    go_wp2_with fail
    have hE0 := EntW.make w v1 v2 v3
    refine (HC.out _ hE0.below).mono ?_
    rintro e w1 ⟨rfl, hb1⟩
    have hE1 := hE0.call hb1
    clear hE0
    obtain ⟨⟨e0, e1, e2⟩, ⟨f0, f1, f2⟩, hl0⟩ := hE1.res
    have HBL := Lib.hid hE1.below
    clear hE1
    go_wp2
    refine bodyPost_ret (v := .tuple #[zAid, .int .i64 1]) (by simp [results, Tryd.results13, go_sem, zAid, e0, e1, e2]) rfl ⟨.slice none 0 0, by rw [HE.out.1], by rw [HE.out.2]; exact SlRep.nil_', ((HBL.out.setCell (by show w.heap.size ≤ w.heap.size + 1; omega) _).setCell (by show w.heap.size ≤ w.heap.size + 1; omega) _).setCell (by show w.heap.size ≤ w.heap.size + 1; omega) _⟩
theorem Compile_c (c : Cat) (u : Int) (s : ByteArray) (v1 v2 v3 : Value) (w : World) (B : Nat) (hB : B ≤ w.heap.size) (h : CatRep w B c v1 v2 v3) (h14 : catE c = 0 → c.sheets.length ≤ 14) (hS : SynOk w) :
    Calls Tryd.prog 13 #[.agg #[v1, v2, v3], .int .i64 u, .string s] w fun e w' => ∃ vs, e = .returned (.tuple #[.agg #[.int .i64 (aidU c u s), .string (aidS c u s), vs], .int .i64 (cmpE c u s)]) ∧ SlRep 3 secR w' (fun b => b < w'.heap.size) (aidF c u s) vs ∧ Below w.heap.size w w' :=
  (Compile_lo c u s v1 v2 v3 w B hB h h14 hS).mono fun _ _ ⟨vs, h1, h2, h3⟩ => ⟨vs, h1, h2.monoF secS (fun _ hb => hb.2), h3⟩
end Go.Proofs.YtbmlnflacdockaaDoor
