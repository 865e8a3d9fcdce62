/- none of nothing; BytecodeDamage: the walk. -/
import Derived.Test.YtbcbjefonkbjnaaDoorBc28
import Derived.Test.YtbcbjefonkbjnaaDoorBc26
namespace Go.Proofs.YtbcbjefonkbjnaaDoor
open Go Go.RowKit

set_option maxHeartbeats 1000000 in
set_option maxRecDepth 100000 in
theorem sameZ_any (w : World) : Calls Tryd.prog 23 #[zeroP, zeroP] w fun e w' => e = .returned (.bool true) ∧ Below w.heap.size w w' := by
  have hb : Below w.heap.size w ((w.alloc (.cells #[.slice none 0 0, .slice none 0 0, .int .i64 0] 25)).alloc (.cells #[.slice none 0 0, .slice none 0 0, .int .i64 0] 25)) := ((Below.refl _ _).alloc (Nat.le_refl _) _).alloc (by simp) _
  unfold zeroP
  go_enter Tryd.func23, Tryd.ntmps23
  go_wp2_with fail
  go_loop [5] (fun i => i = .int .i64 0) (fun _ => 0)
  case atStart => rfl
  case round =>
    subst hrel
    go_wp2_with fail
    go_loop [6] (fun i => i = .int .i64 0) (fun _ => 0)
    case atStart => rfl
    case round =>
      subst hrel
      go_wp2_with fail
      go_ret
      exact ⟨rfl, hb⟩
theorem noneZ_any (w : World) : Calls Tryd.prog 25 #[zeroP] w fun e w' => e = .returned (.bool true) ∧ Below w.heap.size w w' := by
  have hb : Below w.heap.size w (w.alloc (.cells #[.slice none 0 0, .slice none 0 0, .int .i64 0] 25)) := (Below.refl _ _).alloc (Nat.le_refl _) _
  have HS : Hid (∀ w, Calls Tryd.prog 23 #[zeroP, zeroP] w fun e w' => e = .returned (.bool true) ∧ Below w.heap.size w w') := sameZ_any
  unfold zeroP at HS ⊢
  go_enter Tryd.func25, Tryd.ntmps25
  go_wp2_with fail
  refine (HS.out _).mono ?_
  rintro e w' ⟨rfl, hb1⟩
  have hbb := hb.trans (hb1.mono hb.size)
  go_wp2_with fail
  go_ret
  exact ⟨rfl, hbb⟩
theorem heap_set_same {w : World} {b i : Nat} {cs : Array Value} {T : TypeId} {fr : Nat × Nat} (hb : w.heap[b]? = some (.cells cs T fr)) (v : Value) : (w.setCell ⟨b, i, none⟩ v).heap[b]? = some (.cells (cs.setIfInBounds i v) T fr) := by
  simp [World.setCell, Array.getElem?_modify, hb]
theorem wf_u8 (z : Int) (h : (Lit.int .u8 z).wf = true) : 0 ≤ z ∧ z < 256 := by
  simp [Lit.wf, IntKind.min, IntKind.max, IntKind.bits, IntKind.signed] at h; omega
theorem wf_u16 (z : Int) (h : (Lit.int .u16 z).wf = true) : 0 ≤ z ∧ z < 65536 := by
  simp [Lit.wf, IntKind.min, IntKind.max, IntKind.bits, IntKind.signed] at h; omega
set_option maxHeartbeats 4000000 in
set_option maxRecDepth 100000 in
theorem damage_walk (fv tv : Value) (p : ProgD) (k z : Int) (w : World) (h : IsProg w fv tv p) (hfl : p.funs.length ≤ maxLen) (htl : p.texts.length ≤ maxLen) (hk : (Lit.int .u16 k).wf = true) (hz : (Lit.int .u8 z).wf = true) :
    Calls Tryd.prog 6 #[.agg #[fv, tv, .int .i64 p.main], .int .u16 k, .int .u8 z] w fun e w' => e = .returned (.bool true) ∧ Below w.heap.size w w' := by
  obtain ⟨k0, k1⟩ := wf_u16 k hk
  obtain ⟨z0, z1⟩ := wf_u8 z hz
  clear hk hz
  obtain ⟨A, rfl⟩ := Int.eq_ofNat_of_zero_le k0
  have Hp := Lib.hid h
  have hs0 : Below w.heap.size w (w.alloc (.cells #[fv, tv, .int .i64 p.main] 25)) := (Below.refl _ _).alloc (Nat.le_refl _) _
  have hP : (w.alloc (.cells #[fv, tv, .int .i64 p.main] 25)).heap[w.heap.size]? = some (.cells #[fv, tv, .int .i64 p.main] 25 (0, 0)) := new_heap w _
  obtain ⟨⟨⟨fa, fc, rfl, hfc, _⟩, _⟩, ⟨ta, tc, rfl, htc, _⟩⟩ := h
  have hm : maxLen = 9223372036854775807 := by decide
  rw [hm] at hfl htl
  clear hm
  go_enter Tryd.func6, Tryd.ntmps6
  go_wp2_with fail
  generalize w.alloc (.cells #[.slice fa p.funs.length fc, .slice ta p.texts.length tc, .int .i64 p.main] 25) = W0 at *
  refine (awake_any _).mono ?_
  rintro e w1 ⟨rfl, hb1⟩
  have hbb1 : Below w.heap.size w w1 := hs0.trans (hb1.mono hs0.size)
  have hP1 := (hb1.block _ (heap_lt hP)).trans hP
  obtain ⟨p0, p1, p2⟩ := ins_cells hP1
  have HG := Lib.hid (great_any (.slice fa p.funs.length fc) (.slice ta p.texts.length tc) p w1 (Hp.out.below hbb1) hfl htl)
  clear hs0 hP hb1
  go_wp2_with fail
  refine HG.out.mono ?_
  rintro e w2 ⟨rfl, hb2⟩
  have hbb2 : Below w.heap.size w w2 := hbb1.trans (hb2.mono hbb1.size)
  have hP2 := (hb2.block _ (heap_lt hP1)).trans hP1
  obtain ⟨g, hg⟩ : ∃ g, greatB p = g := ⟨_, rfl⟩
  have Hg := Lib.hid hg
  rw [hg]
  clear hg HG hbb1 hP1 hb2 p0 p1 p2
  cases g
  rotate_left
  · go_wp2_with fail
    go_ret
    exact ⟨rfl, hbb2⟩
  · by_cases hzz : z = 0
    · subst hzz
      go_wp2_with fail
      go_ret
      exact ⟨rfl, hbb2⟩
    · have hzb : (z == 0) = false := beq_eq_false_iff_ne.2 hzz
      obtain ⟨n1, n2, n3, _⟩ := great_no p Hg.out
      clear n3
      have hbl := body_len p Hg.out
      obtain ⟨p0, p1, p2⟩ := ins_cells hP2
      have HE := Lib.hid (encode_any (.slice fa p.funs.length fc) (.slice ta p.texts.length tc) p w2 (Hp.out.below hbb2) (by omega) (by omega) (fun s _ => quoted_any s) hbl)
      have Hbl := Lib.hid hbl
      clear hbl hP2
      go_wp2_with fail
      refine HE.out.mono ?_
      rintro e w3 ⟨v, rfl, hrow, hb3⟩
      have hbb3 : Below w.heap.size w w3 := hbb2.trans (hb3.mono hbb2.size)
      clear HE hbb2 hb3 p0 p1 p2
      obtain ⟨q, hq⟩ : ∃ q, validB p = q := ⟨_, rfl⟩
      cases q
      · rw [enc_no p hq] at hrow ⊢
        obtain ⟨ra, rc, rfl, _, _⟩ := hrow
        go_wp2_with fail
        go_ret
        exact ⟨rfl, hbb3⟩
      · rw [enc_yes p hq] at hrow ⊢
        have hEl : (encL p).length = (bodyL p).length + 2 := by unfold encL; simp
        have HEl := Lib.hid hEl
        have Hrow := Lib.hid hrow
        obtain ⟨m, hm⟩ : ∃ m, (encL p).length = m := ⟨_, rfl⟩
        have hm2 : (2 : Int) ≤ (m : Int) := by omega
        have hrow' : IsRow w3 v m (u8s (encL p)) := by rw [← hm]; exact hrow
        obtain ⟨ra, rc, rfl, hrc, _⟩ := hrow'
        have Hm := Lib.hid hm
        clear hm hEl hrow
        by_cases h20 : (20000 : Int) < (m : Int)
        · go_wp2_with fail
          go_ret
          exact ⟨rfl, hbb3⟩
        · have H20 := Lib.hid h20
          have HM2 := Lib.hid hm2
          have hq1 : ((m : Int) < 2) = False := eq_false (by omega)
          have hq2 : ((20000 : Int) < (m : Int)) = False := eq_false (by omega)
          clear h20 hm2
          have HC := Lib.hid (clone_any _ (encL p) w3 Hrow.out (by have := Hm.out; have := HM2.out; omega) (by have := Hm.out; have := H20.out; omega))
          go_wp2_with fail
          refine HC.out.mono ?_
          rintro e w4 ⟨v4, rfl, hown4, hb4⟩
          have hbb4 : Below w.heap.size w w4 := hbb3.trans (hb4.mono hbb3.size)
          rw [Hm.out] at hown4
          have hrow4 := isRow_owns hown4
          rcases hown4.2 with ⟨_, hm0⟩ | ⟨g, cap, cur, rfl, hg4, hh4, hn4, hcm, hcs, _⟩
          · exfalso; have := HM2.out; omega
          · obtain ⟨ix, hix⟩ : ∃ ix, A % m = ix := ⟨_, rfl⟩
            have hm0 : 0 < m := by have := HM2.out; omega
            have hixl : ix < m := by rw [← hix]; exact Nat.mod_lt _ hm0
            have hel : (u8s (encL p)).length = m := by rw [u8s_length]; exact Hm.out
            have hcx : ∀ j, j < m → w4.cell? ⟨g, j, none⟩ = some (.int .u8 ((encL p).getD j 0)) := fun j hj => by
              obtain ⟨a', c', e1, _, h2⟩ := hrow4
              obtain ⟨b'', o'', e2, _, h3⟩ := h2 hm0
              rw [e2] at e1
              obtain ⟨e3, _⟩ := Value.slice.inj e1
              cases e3
              have := h3 j (by rw [hel]; exact hj)
              rw [Nat.zero_add, u8s_at _ j (by have := Hm.out; omega)] at this
              exact this
            have hc0 := hcx ix hixl
            have hf0 : w4.frozen? ⟨g, ix, none⟩ = false := Lib.frozen_of_heap hh4 ix
            have htm : (A : Int).tmod (m : Int) = (ix : Int) := by rw [← hix]; rfl
            have hxb : AreBytes (encL p) := by
              obtain ⟨s0, s1⟩ := sumK_lt (bodyL p) (bodyL p).length
              refine (bodyL_bytes p).append fun y hy => ?_
              simp only [List.mem_cons, List.not_mem_nil, or_false] at hy
              rcases hy with rfl | rfl <;> omega
            obtain ⟨x0, x1⟩ := hxb.at ix (by have := Hm.out; omega)
            obtain ⟨y0, y1, hyx⟩ := xor_ne ((encL p).getD ix 0) z x0 x1 z0 z1 hzz
            obtain ⟨y, hy⟩ : ∃ y, bits .xor .u8 ((encL p).getD ix 0) z = y := ⟨_, rfl⟩
            rw [hy] at y0 y1 hyx
            have hdam := damage_law (bodyL p) (bodyL_bytes p) (by have := HEl.out; have := Hm.out; have := H20.out; omega) ix (by have := HEl.out; have := Hm.out; omega) y y0 y1 (encL p) rfl hyx
            have hset : IsRow (w4.setCell ⟨g, ix, none⟩ (.int .u8 y)) (.slice (some ⟨g, 0, none⟩) m cap) m (u8s ((encL p).set ix y)) := by
              refine ⟨_, cap, rfl, hn4, fun _ => ⟨g, 0, rfl, ?_, fun j hj => ?_⟩⟩
              · exact Nat.lt_of_lt_of_le (heap_lt hh4) (by simp)
              · rw [u8s_length, List.length_set] at hj
                have hj' : j < m := by have := Hm.out; omega
                rw [Nat.zero_add, u8s_at _ j (by rw [List.length_set]; exact hj), getD_set]
                have h5 := heap_set_same (i := ix) hh4 (.int .u8 y)
                have hcur : cur[j]? = some (.int .u8 ((encL p).getD j 0)) := by have := hcx j hj'; simpa [World.cell?, hh4] using this
                have hcl : ix < cur.size := by rw [hcs]; omega
                have hnew : (w4.setCell ⟨g, ix, none⟩ (.int .u8 y)).cell? ⟨g, j, none⟩ = (cur.setIfInBounds ix (.int .u8 y))[j]? := by simp only [World.cell?, h5]; rfl
                rw [hnew, Array.getElem?_setIfInBounds]
                by_cases hji : ix = j
                · subst hji
                  rw [if_pos rfl, if_pos hcl, if_pos ⟨rfl, by have := Hm.out; omega⟩]
                · rw [if_neg hji, if_neg (fun e => hji e.1)]; exact hcur
            have hb5 : Below w.heap.size w (w4.setCell ⟨g, ix, none⟩ (.int .u8 y)) := hbb4.setCell (p := ⟨g, ix, none⟩) (by have := hbb3.size; simp only; omega) _
            have HD := Lib.hid (decode_sum _ ((encL p).set ix y) m (bodyL p).length _ (by have := HEl.out; have := Hm.out; omega) (by rw [List.length_set]; exact Hm.out) (by have := HEl.out; have := Hm.out; have := H20.out; omega) (fun t ht => by
              rcases List.mem_or_eq_of_mem_set ht with h | h
              · exact hxb t h
              · rw [h]; exact ⟨y0, y1⟩) hset hdam)
            have hmz : ((m : Int) == 0) = false := beq_eq_false_iff_ne.2 (by omega)
            clear hdam hset hcx hrow4 hel hxb HEl Hrow HC hown4
            generalize (encL p).getD ix 0 = x at *
            go_wp2_with fail
            refine HD.out.mono ?_
            rintro e w6 ⟨rfl, hb6⟩
            have hbb6 : Below w.heap.size w w6 := hb5.trans (hb6.mono hb5.size)
            have HN : Hid (∀ w, Calls Tryd.prog 25 #[zeroP] w fun e w' => e = .returned (.bool true) ∧ Below w.heap.size w w') := noneZ_any
            have hbA : Below w.heap.size w (w6.alloc (.cells #[.slice none 0 0, .slice none 0 0, .int .i64 0] 25)) := hbb6.alloc hbb6.size _
            unfold zeroP at HN ⊢
            clear HD hb6
            go_wp2_with fail
            refine (HN.out _).mono ?_
            rintro e w7 ⟨rfl, hb7⟩
            have hbb7 := hbA.trans (hb7.mono hbA.size)
            go_wp2_with fail
            go_ret
            exact ⟨rfl, hbb7⟩
end Go.Proofs.YtbcbjefonkbjnaaDoor
