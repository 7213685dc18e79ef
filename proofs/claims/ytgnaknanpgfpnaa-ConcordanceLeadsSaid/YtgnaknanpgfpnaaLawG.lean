/- The statement ConcordanceLeads, walked. -/
import Derived.Test.YtgnaknanpgfpnaaLawC
import Derived.Test.YtgnaknanpgfpnaaPlainF
namespace Go.Proofs.Ytgnaknanpgfpnaa
open Go.RowKit

theorem zeroStr (w : World) : (zeroValue 9).run Try.prog w = .ok (.string ⟨#[]⟩) w := by kernel_rfl
theorem stVal_mark (o : Option Standing) : ∃ (x : Standing) (b : Bool), stVal o = .tuple #[.agg #[.int .i64 x.unit, .int .i64 x.parent, .int .i64 x.level, .string x.mark, .string x.title], .bool b] ∧ x.mark = stMark o := by
  cases o with
  | none => exact ⟨stNone, false, rfl, rfl⟩
  | some x => exact ⟨x, true, rfl, rfl⟩
set_option maxRecDepth 100000 in
set_option maxHeartbeats 4000000 in
theorem leads_c (hs : List Shot) (v : Value) (w : World) (B : Nat) (hB : B ≤ w.heap.size) (h : Shots w B hs v) :
    Calls Try.prog 7 #[v] w fun e w' => e = .returned (.bool true) ∧ Below w.heap.size w w' := by
  obtain ⟨A, c, rfl, hc1, hc2, _⟩ := id h
  have hmm := @run_makeMap Try.prog
  go_enter Try.func7, Try.ntmps7
  go_wp2_with fail
  refine (awake_c w).mono ?_
  rintro e w1 ⟨rfl, hb1⟩
  have hs1 := hb1.size
  have h1 := h.below shS (hb1.mono hB)
  have HF := Lib.hid (few_c hs _ w1 B (by omega) h1)
  go_wp2_with fail
  cases hf : fewE hs
  · rw [hf] at HF
    clear hf
    refine HF.out.mono ?_
    rintro e w2 ⟨rfl, rfl⟩
    go_wp2
    go_ret
    exact ⟨rfl, hb1⟩
  · rw [hf] at HF
    have hsm := (few_small hf).1
    have HSU := Lib.hid (few_small hf).2
    clear hf
    refine HF.out.mono ?_
    rintro e w2 ⟨rfl, rfl⟩
    clear HF
    have HCP := Lib.hid (fun (W : World) (hW : Below w.heap.size w W) => copy_c hs _ W B (by have := hW.size; omega) (h.below shS (hW.mono hB)) hsm HSU.out)
    go_wp2_with fail
    refine (HCP.out _ hb1).mono ?_
    rintro e w2 ⟨v2, rfl, hown2, hb2⟩
    have hs2 := hb2.size
    have B2 := hb1.trans (hb2.mono hs1)
    have hc2' := hown2.toSl shS
    clear hown2 h1
    by_cases hp : progCheck hs = 0
    · have HP := Lib.hid hp
      have hlen := collect_len hp
      have hasc := Lib.hid (table_asc hp)
      have hkeys := Lib.hid (table_keys hp)
      clear hp
      go_wp2_with fail
      refine (table_ok hs _ w2 w2.heap.size (Nat.le_refl _) hc2' HP.out).mono ?_
      rintro e w3 ⟨v3, rfl, ht3, hb3⟩
      have hs3 := hb3.size
      have B3 := B2.trans (hb3.mono (by omega))
      obtain ⟨A3, c3, rfl, hq1, hq2, -⟩ := id ht3
      clear B2 hc2' hb2 hb3
      go_wp2_with fail
      refine (HCP.out _ B3).mono ?_
      rintro e w4 ⟨v4, rfl, hown4, hb4⟩
      have hs4 := hb4.size
      have B4 := B3.trans (hb4.mono (by omega))
      have hc4 := hown4.toSl shS
      have ht4 := (ht3.below paS hb4).mono paS hs4
      clear hown4 B3 ht3 hb4
      go_wp2_with fail
      refine (collect_ok hs _ w4 w4.heap.size (Nat.le_refl _) hc4 HP.out).mono ?_
      rintro e w5 ⟨v5, rfl, hown5, hb5⟩
      have hs5 := hb5.size
      have B5 := B4.trans (hb5.mono (by omega))
      have hl5 := hown5.toSl giS
      have ht5 := (ht4.below paS hb5).mono paS hs5
      obtain ⟨A5, c5, rfl, hq3, hq4, -⟩ := id hl5
      clear hown5 B4 ht4 hb5 hc4
      go_wp2
      go_loopw [51] (fun i wr => ∃ k : Nat, k ≤ (progTable hs).length ∧ i = .int .i64 k ∧ MapF wr w5.heap.size Value.string Value.string (oldF ((progTable hs).take k)) ∧ Below w5.heap.size w5 wr) (fun i _ => (progTable hs).length - (intOf i).toNat)
      case atStart => exact ⟨0, Nat.zero_le _, rfl, MapF.new w5 _ _ rfl, (Below.refl _ _).alloc (Nat.le_refl _) _⟩
      case round =>
        obtain ⟨k, hk, rfl, hm, hb⟩ := hrel
        have hml := hm.lt
        have hsz := hb.size
        by_cases hlt : k < (progTable hs).length
        · obtain ⟨x, hx⟩ := get_at (progTable hs) hlt
          have HT := Lib.hid (take_at hx)
          have ht := ht5.below paS hb
          obtain ⟨b, off, rfl, hbB, g0, g1⟩ := Pairs.at_ ht hx
          have hbr : b < wr.heap.size := by omega
          have hx1 : Below wr.heap.size wr (wr.alloc (.cells #[.string x.1, .string x.2] 40)) := (Below.refl _ _).alloc (Nat.le_refl _) _
          have bx := hb.trans (hx1.mono (by omega))
          have hm1 := hm.below hx1 hml
          have fin : ∀ n : Nat, MapF ((wr.alloc (.cells #[.string x.1, .string x.2] 40)).drewN n) w5.heap.size Value.string Value.string (oldF ((progTable hs).take k)) := fun n => hm.below (below_drewN hx1 n) hml
          by_cases h0 : k = 0
          · subst h0
            clear hx
            simp only [Nat.zero_mul, Nat.add_zero] at g0 g1
            go_wp2
            go_quiet (fail)
            go_wp2_with (at_mapUpdate; refine stop_intro ?_)
            refine stop_elim ?_
            refine wpList_mapPut rfl (.tmp 69) (.tmp 71) (.tmp 73) 54 (.inl rfl) strKind Try.underlying54 (fin _) rfl x.1 rfl x.2 rfl ?_
            intro w7 hm7 hg7
            have hb7 := (below_drewN bx nq).grown hg7 (by show _ ≤ (wr.alloc _).heap.size; simp; omega) (fun k hk => by injection hk; omega)
            rw [← oldF_snoc, ← HT.out] at hm7
            go_wp2
            go_roundw
            case rel => exact ⟨0 + 1, by omega, by go_num, hm7, hb7⟩
            case measure => simp [intOf]; omega
          · obtain ⟨y, hy⟩ := get_at (progTable hs) (show k - 1 < (progTable hs).length by omega)
            have hless : lessB y.1 x.1 = true := by
              have := List.pairwise_iff_getElem.1 hasc.out (k - 1) k (lt_of_at hy) (lt_of_at hx) (by omega)
              rw [(List.getElem?_eq_some_iff.1 hy).2, (List.getElem?_eq_some_iff.1 hx).2] at this
              exact this
            obtain ⟨b6, off6, hA6, hbB6, a0, a1⟩ := Pairs.at_ ht hy
            injection hA6 with hA6
            injection hA6 with hA61 hA62
            subst hA61 hA62
            have hk1 : (1 : Int) ≤ k := by omega
            have hk2 : 0 < k := by omega
            have hl1 : Op.bytesLess y.1.toList x.1.toList = true := hless
            have hl2 : Op.bytesLess x.1.toList y.1.toList = false := lessB_asymm hless
            have hl3 : (y.1.toList == x.1.toList) = false := by
              rw [str_eq, decide_eq_false_iff_not]
              intro e
              rw [e, lessB_irrefl] at hless
              cases hless
            clear hless hx hy
            go_wp2
            go_quiet (fail)
            go_wp2_with (at_mapUpdate; refine stop_intro ?_)
            refine stop_elim ?_
            refine wpList_mapPut rfl (.tmp 69) (.tmp 71) (.tmp 73) 54 (.inl rfl) strKind Try.underlying54 (fin _) rfl x.1 rfl x.2 rfl ?_
            intro w7 hm7 hg7
            have hb7 := (below_drewN bx nq).grown hg7 (by show _ ≤ (wr.alloc _).heap.size; simp; omega) (fun k hk => by injection hk; omega)
            rw [← oldF_snoc, ← HT.out] at hm7
            go_wp2
            go_roundw
            case rel => exact ⟨k + 1, by omega, by go_num, hm7, hb7⟩
            case measure => simp [intOf]; omega
        · rw [List.take_of_length_le (by omega)] at hm
          obtain ⟨w6, rfl⟩ : ∃ w6 : World, w6 = wr := ⟨_, rfl⟩
          have hs6 := hb.size
          go_wp2
          have hsf0 := Lib.hid (show ∀ m, (fun _ : ByteArray => (none : Option Bool)) m ≠ none ↔ ∃ g ∈ (collectL hs).take 0, g.mark = m ∧ nowMark hs g.unit ≠ g.mark by intro m; simp)
          have hb6 := hb.alloc (by omega) (.map #[] 0)
          have hm6 := hm.below ((Below.refl w6.heap.size w6).alloc (Nat.le_refl _) (.map #[] 0)) hml
          clear hm hb
          go_loopw [78] (fun i wr => ∃ (k : Nat) (sf : ByteArray → Option Bool), k ≤ (collectL hs).length ∧ i = .int .i64 k ∧ MapF wr w5.heap.size Value.string Value.string (oldF (progTable hs)) ∧ MapF wr w6.heap.size Value.string Value.bool sf ∧ Hid (∀ m, sf m ≠ none ↔ ∃ g ∈ (collectL hs).take k, g.mark = m ∧ nowMark hs g.unit ≠ g.mark) ∧ Below w5.heap.size w5 wr) (fun i _ => (collectL hs).length - (intOf i).toNat)
          case atStart => exact ⟨0, _, Nat.zero_le _, rfl, hm6, MapF.new w6 _ _ rfl, hsf0, hb6⟩
          case round =>
            obtain ⟨k, sf, hk, rfl, hm, hms, HSF, hb⟩ := hrel
            clear hsf0 hm6 hb6 hmm
            have hml := hm.lt
            have hmsl := hms.lt
            have hsz := hb.size
            have bwr := B5.trans (hb.mono (by omega))
            by_cases hlt : k < (collectL hs).length
            · obtain ⟨g, hx⟩ := get_at (collectL hs) hlt
              have HT := Lib.hid (take_at hx)
              obtain ⟨hl1, hl2⟩ := leads_one HP.out (List.mem_of_getElem? hx)
              have HL1 := Lib.hid hl1
              have HL2 := Lib.hid hl2
              obtain ⟨b, off, rfl, hbB, g0, g1, g2, g3⟩ := Givens.at_ (hl5.below giS hb) hx
              have hbr : b < wr.heap.size := by omega
              obtain ⟨sx, sb, hsx, hsm2⟩ := stVal_mark (progStanding hs g.unit 1048575)
              rw [stand_now HP.out] at hsm2
              have HSM := Lib.hid hsm2
              have HST := Lib.hid (fun (V : Value) (W : World) (hV : Shots W W.heap.size hs V) => standing_c g.unit 1048575 hs V W W.heap.size (Nat.le_refl _) hV)
              rw [hsx] at HST
              have hx1 : Below wr.heap.size wr (wr.alloc (.cells #[.string g.mark, .int .i64 g.unit, .int .i64 g.from_, .int .i64 g.until_] 38)) := (Below.refl _ _).alloc (Nat.le_refl _) _
              have ZK := Lib.hid (fun (W W' : World) (hW : Below (W.heap.size + 1) (W.alloc (.cells #[.int .i64 0, .int .i64 0, .int .i64 0, .string ⟨#[]⟩, .string ⟨#[]⟩] 46)) W') => (⟨(hW.cell (p := ⟨W.heap.size, 0, none⟩) (by simp)).trans (by simp), (hW.cell (p := ⟨W.heap.size, 1, none⟩) (by simp)).trans (by simp), (hW.cell (p := ⟨W.heap.size, 2, none⟩) (by simp)).trans (by simp), (hW.cell (p := ⟨W.heap.size, 3, none⟩) (by simp)).trans (by simp), (hW.cell (p := ⟨W.heap.size, 4, none⟩) (by simp)).trans (by simp), (hW.frozen (p := ⟨W.heap.size, 0, none⟩) (by simp)).trans (by simp), (hW.frozen (p := ⟨W.heap.size, 1, none⟩) (by simp)).trans (by simp), (hW.frozen (p := ⟨W.heap.size, 2, none⟩) (by simp)).trans (by simp), (hW.frozen (p := ⟨W.heap.size, 3, none⟩) (by simp)).trans (by simp), (hW.frozen (p := ⟨W.heap.size, 4, none⟩) (by simp)).trans (by simp)⟩ : W'.cell? ⟨W.heap.size, 0, none⟩ = some (.int .i64 0) ∧ W'.cell? ⟨W.heap.size, 1, none⟩ = some (.int .i64 0) ∧ W'.cell? ⟨W.heap.size, 2, none⟩ = some (.int .i64 0) ∧ W'.cell? ⟨W.heap.size, 3, none⟩ = some (.string ⟨#[]⟩) ∧ W'.cell? ⟨W.heap.size, 4, none⟩ = some (.string ⟨#[]⟩) ∧ W'.frozen? ⟨W.heap.size, 0, none⟩ = false ∧ W'.frozen? ⟨W.heap.size, 1, none⟩ = false ∧ W'.frozen? ⟨W.heap.size, 2, none⟩ = false ∧ W'.frozen? ⟨W.heap.size, 3, none⟩ = false ∧ W'.frozen? ⟨W.heap.size, 4, none⟩ = false))
              clear hx hl1 hl2 hsx hsm2
              go_upto_region 21 with fail
              obtain ⟨wg, hwg⟩ : ∃ wg : World, wg = wr.alloc (.cells #[.string g.mark, .int .i64 g.unit, .int .i64 g.from_, .int .i64 g.until_] 38) := ⟨_, rfl⟩
              rw [← hwg] at hx1 ⊢
              have p0 : wg.cell? ⟨wr.heap.size, 0, none⟩ = some (.string g.mark) := by rw [hwg]; simp
              have p1 : wg.cell? ⟨wr.heap.size, 1, none⟩ = some (.int .i64 g.unit) := by rw [hwg]; simp
              have hrg : wr.heap.size < wg.heap.size := by rw [hwg]; simp
              clear hwg
              have bwg := bwr.trans (hx1.mono (by omega))
              have KEEP := Lib.hid (fun (w' : World) (hW : Below wg.heap.size wg w') => (⟨(hW.cell (p := ⟨wr.heap.size, 0, none⟩) hrg).trans p0, (hW.cell (p := ⟨wr.heap.size, 1, none⟩) hrg).trans p1⟩ : w'.cell? ⟨wr.heap.size, 0, none⟩ = some (.string g.mark) ∧ w'.cell? ⟨wr.heap.size, 1, none⟩ = some (.int .i64 g.unit)))
              have KEEPS := Lib.hid (fun (W : World) (b : Nat) (u0 u1 u2 u3 u4 : Value) (hW : Below wg.heap.size wg W) (hb : wg.heap.size ≤ b) => KEEP.out (((((W.setCell ⟨b, 0, none⟩ u0).setCell ⟨b, 1, none⟩ u1).setCell ⟨b, 2, none⟩ u2).setCell ⟨b, 3, none⟩ u3).setCell ⟨b, 4, none⟩ u4) (((((hW.setCell hb _).setCell hb _).setCell hb _).setCell hb _).setCell hb _))
              have hwgg : wg.heap.size ≤ wg.heap.size := Nat.le_refl _
              go_cut [13, 14] (fun s13 s14 wx => ∃ gs : Nat, s13 = .pointer (some ⟨gs, 0, none⟩) ∧ s14 = .bool sb ∧ gs < wx.heap.size ∧ Below wg.heap.size wg wx ∧ wx.cell? ⟨gs, 0, none⟩ = some (.int .i64 sx.unit) ∧ wx.cell? ⟨gs, 1, none⟩ = some (.int .i64 sx.parent) ∧ wx.cell? ⟨gs, 2, none⟩ = some (.int .i64 sx.level) ∧ wx.cell? ⟨gs, 3, none⟩ = some (.string sx.mark) ∧ wx.cell? ⟨gs, 4, none⟩ = some (.string sx.title))
              case first =>
                have hwwg := bwg.size
                try clear hm
                try clear hms
                try clear HSF
                try clear hml
                try clear hmsl
                try clear bwr
                try clear HT
                try clear HL1
                try clear HL2
                try clear HSM
                try clear g0
                try clear g1
                try clear g2
                try clear g3
                try clear hkeys
                try clear hasc
                try clear hlen
                try clear ht5
                try clear B5
                try clear hx1
                try clear hb
                try clear hl5
                try clear hk
                try clear hlt
                try clear hq1
                try clear hq2
                try clear hq3
                try clear hq4
                try clear hs1
                try clear hs2
                try clear hs3
                try clear hs4
                try clear hs5
                try clear hs6
                try clear hsz
                try clear hsm
                try clear HSU
                try clear hbB
                try clear hbr
                try clear hb1
                try clear hb6
                try clear hm6
                try clear HP
                go_region_held3 (fun w' => w'.cell? ⟨wr.heap.size, 0, none⟩ = some (.string g.mark) ∧ w'.cell? ⟨wr.heap.size, 1, none⟩ = some (.int .i64 g.unit)) (first | with_reducible exact KEEP.out _ (Below.refl _ _).drew | with_reducible exact KEEP.out _ ((Below.refl _ _).alloc (Nat.le_refl _) _).drew | with_reducible exact KEEP.out _ hb8 | with_reducible exact KEEP.out _ (hb8.alloc hs8 _) | with_reducible exact KEEP.out _ hb9 | with_reducible exact KEEP.out _ (hb9.alloc hs9 _) | with_reducible exact KEEPS.out _ _ _ _ _ _ _ hb9 hs8 | with_reducible exact KEEPS.out _ _ _ _ _ _ _ hb9 hwgg) (first
                  | (go_at_call 13; (with_reducible refine (HCP.out _ bwg.drew).mono ?_); rintro e w8 ⟨v8, rfl, hown8, hb8'⟩; have hb8 : Below wg.heap.size wg w8 := (Below.refl _ _).drew.trans (hb8'.mono (by simp)); have hs8 := hb8.size; have hr8 : wr.heap.size + 1 ≤ w8.heap.size := (by omega); have tokA : True := trivial)
                  | (go_at_call 13; (with_reducible refine (HCP.out _ (bwg.alloc (by omega) _).drew).mono ?_); rintro e w8 ⟨v8, rfl, hown8, hb8'⟩; have hb8 : Below wg.heap.size wg w8 := ((Below.refl _ _).alloc (Nat.le_refl _) _).drew.trans (hb8'.mono (by simp)); have hs8 := hb8.size; have hr8 : wr.heap.size + 1 ≤ w8.heap.size := (by omega); have hs8c := hb8'.size; simp only [World.size_drew, World.size_alloc] at hs8c; have hbC8 := hb8'.mono (show wg.heap.size + 1 ≤ _ by simp))
                  | (go_at_call 25; (with_reducible refine (HST.out _ _ (hown8.toSl shS)).mono ?_); rintro e w9 ⟨rfl, hb9'⟩; have hb9 := hb8.trans (hb9'.mono hs8); have hs9 := hb9.size; (first | clear tokA | (obtain ⟨z0, z1, z2, z3, z4, f0, f1, f2, f3, f4⟩ := ZK.out wg w9 ((Below.refl _ _).drew.trans (hbC8.trans (hb9'.mono hs8c))))))
                  | (go_at_call 25; (with_reducible refine (HST.out _ _ (((hown8.toSl shS).below shS ((Below.refl _ _).alloc (Nat.le_refl _) _)).mono shS (by simp))).mono ?_); rintro e w9 ⟨rfl, hb9'⟩; have hb9 := (hb8.alloc hs8 _).trans (hb9'.mono (by simp; omega)); have hs9 := hb9.size; obtain ⟨z0, z1, z2, z3, z4, f0, f1, f2, f3, f4⟩ := ZK.out w8 w9 (hb9'.mono (by simp))))
                all_goals (go_wp2_with fail; go_meet)
                · exact ⟨w9.heap.size, rfl, rfl, by simp, hb9.alloc hs9 _, by simp, by simp, by simp, by simp, by simp⟩
                · exact ⟨w8.heap.size, rfl, rfl, by have := hb9'.size; simp at this ⊢; omega, (((((hb9.setCell hs8 _).setCell hs8 _).setCell hs8 _).setCell hs8 _).setCell hs8 _), set5_all _ _ _ _ _ z0 z1 z2 z3 z4 _ rfl⟩
                · exact ⟨wg.heap.size, rfl, rfl, by have := hb9'.size; simp at this ⊢; omega, (((((hb9.setCell (Nat.le_refl _) _).setCell (Nat.le_refl _) _).setCell (Nat.le_refl _) _).setCell (Nat.le_refl _) _).setCell (Nat.le_refl _) _), set5_all _ _ _ _ _ z0 z1 z2 z3 z4 _ rfl⟩
              case rest =>
                obtain ⟨gs, rfl, rfl, hgl, hbc, c0, c1, c2, c3, c4⟩ := hcut
                have hsc := hbc.size
                have brc := hx1.trans (hbc.mono (by omega))
                have hmc := hm.below brc hml
                have hmsc := hms.below brc hmsl
                have bc5 := hb.trans (brc.mono (by omega))
                have q0 := (hbc.cell (p := ⟨wr.heap.size, 0, none⟩) hrg).trans p0
                have hrc : wr.heap.size < wc.heap.size := by omega
                clear c0 c1 c2 c4 p0 p1 HST KEEP ZK
                by_cases hn : nowMark hs g.unit = g.mark
                · have hold := HL2.out hn
                  have HR := Lib.hid (show ∀ m, sf m ≠ none ↔ ∃ g ∈ (collectL hs).take (k + 1), g.mark = m ∧ nowMark hs g.unit ≠ g.mark by
                    intro m
                    rw [HSF.out m, HT.out]
                    constructor
                    · rintro ⟨y, hy, h1, h2⟩
                      exact ⟨y, by simp [hy], h1, h2⟩
                    · rintro ⟨y, hy, h1, h2⟩
                      rcases List.mem_append.1 hy with hy | hy
                      · exact ⟨y, hy, h1, h2⟩
                      · simp at hy
                        subst hy
                        exact absurd hn h2)
                  have e1 : (sx.mark.toList == g.mark.toList) = true := by rw [HSM.out, hn]; simp
                  have HO := Lib.hid hold
                  clear hn hold
                  go_wp2_with (at_lookup; refine stop_intro ?_)
                  refine stop_elim ?_
                  refine wpList_look rfl (.tmp 91) (.tmp 93) 54 true rfl strKind Try.underlying54 (zeroStr _) hmc rfl g.mark rfl (.tuple #[.string ⟨#[]⟩, .bool false]) (by rw [HO.out]; rfl) ?_
                  go_wp2
                  go_roundw
                  case rel => exact ⟨k + 1, sf, by omega, by go_num, hmc, hmsc, HR, bc5⟩
                  case measure => simp [intOf]; omega
                · have hold := HL1.out hn
                  have HR := Lib.hid (show ∀ m, (upd sf g.mark true) m ≠ none ↔ ∃ g ∈ (collectL hs).take (k + 1), g.mark = m ∧ nowMark hs g.unit ≠ g.mark by
                    intro m
                    rw [HT.out]
                    unfold upd
                    by_cases he : m = g.mark
                    · rw [if_pos he]
                      exact ⟨fun _ => ⟨g, by simp, he.symm, hn⟩, fun _ => by simp⟩
                    · rw [if_neg he, HSF.out m]
                      constructor
                      · rintro ⟨y, hy, h1, h2⟩
                        exact ⟨y, by simp [hy], h1, h2⟩
                      · rintro ⟨y, hy, h1, h2⟩
                        rcases List.mem_append.1 hy with hy | hy
                        · exact ⟨y, hy, h1, h2⟩
                        · simp at hy
                          subst hy
                          exact absurd h1.symm he)
                  have e1 : (sx.mark.toList == g.mark.toList) = false := by rw [HSM.out, str_eq]; simpa using hn
                  rw [← HSM.out] at hold
                  have e2 : (sx.mark.toList == sx.mark.toList) = true := by simp
                  have HO := Lib.hid hold
                  clear hn hold
                  go_wp2_with (at_lookup; refine stop_intro ?_)
                  refine stop_elim ?_
                  refine wpList_look rfl (.tmp 91) (.tmp 93) 54 true rfl strKind Try.underlying54 (zeroStr _) hmc rfl g.mark rfl (.tuple #[.string sx.mark, .bool true]) (by rw [HO.out]; rfl) ?_
                  go_wp2_with (at_mapUpdate; refine stop_intro ?_)
                  refine stop_elim ?_
                  refine wpList_mapPut rfl (.tmp 114) (.tmp 116) (.const (.bool true)) 55 (.inl rfl) strKind Try.underlying55 hmsc rfl g.mark rfl true rfl ?_
                  intro w7 hm7 hg7
                  have hb7 := bc5.grown hg7 (by omega) (fun k hk => by injection hk; omega)
                  have hmc7 := hmc.frame (hg7.block w5.heap.size (by omega) (fun he => by injection he; omega))
                  go_wp2
                  go_roundw
                  case rel => exact ⟨k + 1, _, by omega, by go_num, hmc7, hm7, HR, hb7⟩
                  case measure => simp [intOf]; omega
            · have HK := Lib.hid (show ∀ m, sf m ≠ none ↔ m ∈ (progTable hs).map (·.1) by
                intro m
                rw [HSF.out m, List.take_of_length_le (by omega), hkeys.out.2 m])
              go_wp2_with (at_len; refine stop_intro ?_)
              refine stop_elim ?_
              refine wpList_mapLen rfl (.tmp 118) 55 rfl (by kernel_rfl) hms rfl ((progTable hs).map (·.1)) hkeys.out.1 HK.out ?_
              rw [List.length_map]
              go_wp2
              go_ret
              exact ⟨ret_bool (by simp), bwr⟩
    · have HP := Lib.hid hp
      clear hp
      go_wp2_with fail
      refine (table_bad hs _ w2 w2.heap.size (Nat.le_refl _) hc2' HP.out).mono ?_
      rintro e w3 ⟨rfl, hb3⟩
      have hs3 := hb3.size
      have B3 := B2.trans (hb3.mono (by omega))
      go_wp2_with fail
      refine (HCP.out _ B3).mono ?_
      rintro e w4 ⟨v4, rfl, hown4, hb4⟩
      have hs4 := hb4.size
      have B4 := B3.trans (hb4.mono (by omega))
      go_wp2_with fail
      refine (collect_bad hs _ w4 w4.heap.size (Nat.le_refl _) (hown4.toSl shS) HP.out).mono ?_
      rintro e w5 ⟨rfl, hb5⟩
      go_wp2
      go_ret
      exact ⟨rfl, B4.trans (hb5.mono (by omega))⟩
end Go.Proofs.Ytgnaknanpgfpnaa
