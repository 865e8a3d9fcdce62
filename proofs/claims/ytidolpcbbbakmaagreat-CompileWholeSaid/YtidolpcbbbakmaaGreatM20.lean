/- The writer: choice. The writer: exp of every expression. -/
import Derived.Test.YtidolpcbbbakmaaGreatM19
import Derived.Deep.RegionHeld3
namespace Go.Proofs.YtidolpcbbbakmaaGreat
open Go Go.RowKit
open Go.Maps

/-- The table while it is made. -/
def tabL (L : List Ins) (i : Ins) (k : Nat) : List Ins := L ++ [i] ++ List.replicate k ⟨14, 0, 0⟩
theorem tabL_next (L : List Ins) (i : Ins) (k : Nat) : tabL L i k ++ [⟨14, 0, 0⟩] = tabL L i (k + 1) := by
  unfold tabL; rw [List.replicate_succ', ← List.append_assoc]
theorem tabL_length (L : List Ins) (i : Ins) (k : Nat) : (tabL L i k).length = L.length + 1 + k := by unfold tabL; simp; omega
theorem tabL_0 (L : List Ins) (i : Ins) : tabL L i 0 = L ++ [i] := by unfold tabL; simp
theorem tabL_pre (L : List Ins) (i : Ins) (k j : Nat) (h : j < L.length) : (tabL L i k)[j]? = L[j]? := by
  unfold tabL; rw [List.append_assoc]; exact List.getElem?_append_left h
theorem tabL_at (L : List Ins) (i : Ins) (k : Nat) : (tabL L i k)[L.length]? = some i := by
  unfold tabL; rw [List.append_assoc, List.getElem?_append_right (Nat.le_refl _), Nat.sub_self]; rfl
theorem tabL_tab (L : List Ins) (i : Ins) (k j : Nat) (h : j < k) : (tabL L i k)[L.length + 1 + j]? = some ⟨14, 0, 0⟩ := by
  unfold tabL
  rw [List.getElem?_append_right (by simp only [List.length_append, List.length_singleton]; omega), List.length_append, List.length_singleton, show L.length + 1 + j - (L.length + 1) = j by omega, List.getElem?_replicate, if_pos h]
/-- The jumps that are to be patched: a row of its own. -/
structure EndsAt (V : World) (B1 : Nat) (ev : Value) (es : List Nat) (cv : Value) : Prop where
  own : V.ownsRow B1 3 1 ev es.length (natCells es)
  apart : ∀ g, ev.ownBlock = some g → cv.ownBlock ≠ some g
/-- Other blocks than those that were there have turned. -/
theorem Em.fresh {wb : Nat} {V W W' : World} {r r' : Option Nat} {g : Option Nat} (h : Em wb V W r r') (hg : W.grownBy W' g) (hn : ∀ k, g = some k → V.heap.size ≤ k) : Em wb V W' r r' :=
  ⟨hg.os.trans h.os, hg.tape.trans h.tape, hg.output.trans h.output, Nat.le_trans h.size hg.size, fun k hk hw hr => (hg.block k (by have := h.size; omega) (fun e => by have := hn k e.symm; omega)).trans (h.kept k hk hw hr), h.own⟩
/-- The writer's code is patched. -/
theorem WSt.patch {V : World} {wb mb B g c : Nat} {L : List Ins} (h : WSt V wb mb B (.slice (some ⟨g, 0, none⟩) L.length c) L) (i : Nat) (x : Int) (op b : Int) (he : ∃ a, L[i]? = some ⟨op, a, b⟩) : WSt (V.setCell ⟨g, i * 3 + 1, none⟩ (.int .i64 x)) wb mb B (.slice (some ⟨g, 0, none⟩) L.length c) (L.set i ⟨op, x, b⟩) ∧ V.grownBy (V.setCell ⟨g, i * 3 + 1, none⟩ (.int .i64 x)) (some g) := by
  have hg := grown_set V g (i * 3 + 1) (.int .i64 x)
  have hb := (owns_lt h.own g rfl).1
  have hlt := h.lt
  refine ⟨⟨?_, ?_, hlt⟩, hg⟩
  · exact (hg.block wb (heap_lt h.blk) (fun e => by have := Option.some.inj e; omega)).trans h.blk
  · have := owns_set h.own (i * 3 + 1) (.int .i64 x)
    rw [List.length_set]
    rw [show insCells (L.set i ⟨op, x, b⟩) = (insCells L).set (i * 3 + 1) (.int .i64 x) from ?_]
    · exact this
    · obtain ⟨a, ha⟩ := he
      have hcell : ∀ (l : List Ins) (i : Nat), l[i]? = some ⟨op, a, b⟩ → insCells (l.set i ⟨op, x, b⟩) = (insCells l).set (i * 3 + 1) (.int .i64 x) := by
        intro l
        induction l with
        | nil => intro i h; simp at h
        | cons y l ih =>
          intro i h
          cases i with
          | zero => simp at h; subst h; simp [insCells]
          | succ i =>
            have := ih i (by simpa using h)
            rw [List.set_cons_succ]
            have e : ∀ z (l : List Ins), insCells (z :: l) = [.int .i64 z.op, .int .i64 z.a, .int .i64 z.b] ++ insCells l := fun z l => rfl
            rw [e, e, this, show (i + 1) * 3 + 1 = i * 3 + 1 + 3 by omega]
            simp
      exact hcell L i ha
theorem own_some {V : World} {B : Nat} {e : TypeId} {s n : Nat} {v : Value} {xs : List Value} (h : V.ownsRow B e s v n xs) (hn : 0 < n) : ∃ g c, v = .slice (some ⟨g, 0, none⟩) n c ∧ B ≤ g ∧ ∃ cur, V.heap[g]? = some (.cells cur e (0, 0)) := by
  obtain ⟨_, h2⟩ := h
  rcases h2 with ⟨_, h0⟩ | ⟨g, cap, cur, hv, hb, hh, _⟩
  · omega
  · exact ⟨g, cap, hv, hb, cur, hh⟩
theorem owns_cell {V : World} {B : Nat} {e : TypeId} {s n g c : Nat} {xs : List Value} {i : Nat} {u : Value} (h : V.ownsRow B e s (.slice (some ⟨g, 0, none⟩) n c) n xs) (hi : xs[i]? = some u) : V.cell? ⟨g, i, none⟩ = some u ∧ V.frozen? ⟨g, i, none⟩ = false := by
  obtain ⟨h1, h2⟩ := h
  rcases h2 with ⟨h2, _⟩ | ⟨g', cap, cur, hv, hb, hh, hn, hc, hs, ht⟩
  · cases h2
  · injection hv with ha _ hcap
    injection ha with ha
    injection ha with hg _ _
    subst hg
    refine ⟨?_, Lib.frozen_of_heap hh i⟩
    have hlt : i < n * s := by rw [← h1]; exact (List.getElem?_eq_some_iff.1 hi).1
    rw [← ht, List.getElem?_take_of_lt hlt, Array.getElem?_toList] at hi
    simp [World.cell?, hh, hi]
theorem ins_at {L : List Ins} {i : Nat} {x : Ins} (h : L[i]? = some x) : (insCells L)[i * 3 + 1]? = some (.int .i64 x.a) := by
  induction L generalizing i with
  | nil => simp at h
  | cons y l ih =>
    have e : insCells (y :: l) = [.int .i64 y.op, .int .i64 y.a, .int .i64 y.b] ++ insCells l := rfl
    cases i with
    | zero => simp at h; subst h; rw [e]; rfl
    | succ i =>
      have := ih (by simpa using h)
      rw [e, show (i + 1) * 3 + 1 = i * 3 + 1 + 3 by omega, List.getElem?_append_right (by simp)]
      simpa using this
theorem own_shape {V : World} {B : Nat} {e : TypeId} {s n : Nat} {v : Value} {xs : List Value} (h : V.ownsRow B e s v n xs) : ∃ a c, v = .slice a n c := by
  obtain ⟨_, h2⟩ := h
  rcases h2 with ⟨rfl, rfl⟩ | ⟨g', cap, cur, rfl, _⟩
  · exact ⟨_, _, rfl⟩
  · exact ⟨_, _, rfl⟩
theorem EndsAt.free {V V' : World} {B1 : Nat} {ev : Value} {es : List Nat} {cv : Value} (h : EndsAt V B1 ev es cv) (hg : V.grownBy V' none) : EndsAt V' B1 ev es cv := ⟨owns_grown h.own hg (by nofun), h.apart⟩
/-- The writer goes on: the row of jumps stays. -/
theorem EndsAt.write {V V' : World} {wb B1 : Nat} {ev : Value} {es : List Nat} {cv cv' : Value} (h : EndsAt V B1 ev es cv) (hwb : wb < B1) (hE : Em wb V V' cv.ownBlock cv'.ownBlock) : EndsAt V' B1 ev es cv' := by
  have hlt := owns_lt h.own
  refine ⟨?_, fun g hg e => ?_⟩
  · obtain ⟨h1, h2⟩ := h.own
    refine ⟨h1, ?_⟩
    rcases h2 with h2 | ⟨g, cap, cur, rfl, hb, hh, hrest⟩
    · exact .inl h2
    · exact .inr ⟨g, cap, cur, rfl, hb, (hE.kept g (heap_lt hh) (by omega) (h.apart g rfl)).trans hh, hrest⟩
  · rcases hE.own with e2 | ⟨g2, e2, hg2⟩
    · rw [e2] at e; exact h.apart g hg e
    · rw [e2] at e; cases e; have := (hlt _ hg).2; omega
/-- A patch of the code leaves the row of jumps. -/
theorem EndsAt.patch {V V' : World} {B1 g : Nat} {ev : Value} {es : List Nat} {cv : Value} (h : EndsAt V B1 ev es cv) (hg : V.grownBy V' (some g)) (hc : cv.ownBlock = some g) : EndsAt V' B1 ev es cv :=
  ⟨owns_grown h.own hg (fun k hk e => by cases hk; exact h.apart _ e hc), h.apart⟩
/-- The jumps written so far. -/
def endsL (L : List Ins) (x0 : ExpD) (r : List ExpD) (k : Nat) : List Nat := (List.range (min k (r.length - 1))).map fun j => braP L x0 r j + clenX (r.getD j default)
set_option maxHeartbeats 4000000 in
set_option maxRecDepth 100000 in
theorem choice_gen (caps : Int) (clo : Int → Int → Bool) (T : ByteArray → Int) (wb mb B B0 : Nat) (x0 : ExpD) (r : List ExpD) (Hx : ExpAll caps clo T wb mb B B0 x0) (Hr : ∀ y ∈ r, ExpAll caps clo T wb mb B B0 y) (n : Int) (s : ByteArray) (a : Option Addr) (N c : Nat) (hN : N = r.length + 1) (loc : Int) (cv : Value) (L : List Ins) (V : World) (h : Wg V wb mb B B0 cv L T) (hx : IsExp B0 V (.mk 9 n s (.slice a N c) (x0 :: r))) (hf : flatX caps clo loc (.mk 9 n s (.slice a N c) (x0 :: r)) = true) (h0 : 0 ≤ loc) (hh : loc + heightL (x0 :: r) + 1 ≤ 100000) (hL : L.length + clenX (.mk 9 n s (.slice a N c) (x0 :: r)) ≤ 100000) :
    Calls Tryz.prog 78 #[.pointer (some ⟨wb, 0, none⟩), .agg #[.int .i64 9, .int .i64 n, .string s, .slice a N c], .int .i64 loc] V (Wr wb mb B L cv V (clenX (.mk 9 n s (.slice a N c) (x0 :: r))) (fun L' => CodeX L' T loc (.mk 9 n s (.slice a N c) (x0 :: r)) L.length)) := by
  have hg := grown_alloc V (.cells #[.int .i64 9, .int .i64 n, .string s, .slice a N c] 29)
  have gP := new_heap V (.cells #[.int .i64 9, .int .i64 n, .string s, .slice a N c] 29)
  obtain ⟨p0, p1, p2, p3⟩ := exp_box gP
  have HE1 := Lib.hid (Em.free (wb := wb) (r := cv.ownBlock) hg)
  have hW2 := h.free hg
  obtain ⟨hR0, hm, hy0⟩ := hx.parts
  have hbx := h.below HE1.out
  have hwl := wide_parts hf
  unfold wideL at hwl
  obtain ⟨hwx, hwr⟩ := hwl
  have hfx := (flat_parts hf).2 0 (by simp)
  rw [show lo 9 loc 0 = loc from rfl, show (x0 :: r).getD 0 default = x0 from rfl] at hfx
  have HFR := Lib.hid (fun (i : Nat) (hi : i < r.length) => show flatX caps clo (loc + 1) (r.getD i default) = true from by
    have := (flat_parts hf).2 (i + 1) (by simp; omega)
    rwa [show lo 9 loc (i + 1) = loc + 1 from by unfold lo bump; rw [if_pos (by omega), if_pos (by omega)], show (x0 :: r).getD (i + 1) default = r.getD i default from by simp] at this)
  have hn2 : 0 < r.length ∧ r.length ≤ 1000 := by
    have := (form_9 (flat_parts hf).1).1
    unfold inB at this
    simp at this
    have h2 := this.2
    omega
  have HWX := Lib.hid hwx
  have HWR := Lib.hid hwr
  have hcl := clenX_mk 9 n s (.slice a N c) (x0 :: r)
  rw [if_pos rfl, clenL_cons, List.length_cons] at hcl
  rw [heightL_cons] at hh
  have hyx := hy0 x0 (by simp)
  have HYR := Lib.hid (fun y hy => hy0 y (List.mem_cons_of_mem _ hy))
  have hwl0 := heap_lt h.st.blk
  have hcl0 := owns_lt h.st.own
  have hlc : N ≤ c := by
    obtain ⟨a', c', e, hlc, _⟩ := hR0
    injection e with e1 e2 e3
    rw [List.length_cons] at hlc
    omega
  rw [show (.slice a N c : Value) = .slice a (x0 :: r).length c from by rw [hN, List.length_cons]] at hR0
  have HR := Lib.hid hR0
  obtain ⟨b, off, rfl, hbB, c0, c1, c2, c3⟩ := parts_at HR.out hbx 0 (by simp)
  rw [show (x0 :: r).getD 0 default = x0 from rfl] at c0 c1 c2 c3
  have H0 := Lib.hid h
  have H2 := Lib.hid hW2
  have HGP := Lib.hid gP
  have HX := Lib.hid (Hx loc cv L _ hW2 (hyx.under hbx) hfx h0 (by omega) (by omega))
  have hw1 : IntKind.i64.wrap ((N : Int) - 1) = (r.length : Int) := by rw [wrap_ok _ (by omega) (by omega)]; omega
  obtain ⟨xo, xn, xs, xv, xl⟩ := x0
  obtain ⟨xa, xc, rfl, _⟩ := hyx.parts.1
  simp only [ExpD.op, ExpD.n, ExpD.s, ExpD.lv, Nat.zero_mul, Nat.add_zero] at c0 c1 c2 c3
  rw [expV_mk] at HX
  have HRR := Lib.hid Hr
  have hN1 : 1 ≤ N := by omega
  have hNr : N - 1 = r.length := by omega
  have HNN := Lib.hid hN
  clear hN
  clear h hx hf gP hg hW2 hyx hfx Hx Hr hR0 hy0
  go_enter Tryz.func78, Tryz.ntmps78
  go_wp2_with fail
  refine HX.out.mono ?_
  rintro e V2 ⟨rfl, cv1, L1, hW3, hE3, hl3, hp3, hc3⟩
  have HG3 := Lib.hid (H2.out.step hW3 hE3)
  have HE3 := Lib.hid (HE1.out.trans hE3)
  have gP2 := (hE3.kept _ (heap_lt HGP.out) (by omega) (fun e => by have := (hcl0 _ e).2; omega)).trans HGP.out
  have HM := Lib.hid (emit2_any wb mb B cv1 L1 13 loc r.length V2 hW3 (Nat.le_trans H2.out.size hE3.size) (by omega))
  have HC3 : Hid (L1.length = L.length + _ ∧ (∀ i, i < L.length → L1[i]? = L[i]?) ∧ CodeX L1 T loc _ L.length) := ⟨hl3, hp3, hc3⟩
  have hs3 := hE3.size
  have hlt3 := heap_lt HGP.out
  have hno3 : cv1.ownBlock ≠ some V.heap.size := fun e => by
    rcases hE3.own with e2 | ⟨g, e2, hg⟩
    · rw [e2] at e; have := (hcl0 _ e).2; omega
    · rw [e2] at e; cases e; omega
  have hL1 : L1.length ≤ 100000 := by omega
  have HL3 := Lib.hid hl3
  clear hl3
  obtain ⟨tq, hp1⟩ : ∃ tq, L1.length = tq := ⟨_, rfl⟩
  rw [hp1] at HM hL1
  clear p0 p1 p2 p3 c0 c1 c2 c3 hW3 hE3 hp3 hc3 HX
  obtain ⟨p0, p1, p2, p3⟩ := exp_box gP2
  go_wp2_with fail
  refine HM.out.mono ?_
  rintro e V3 ⟨rfl, cv2, hW4, hE4⟩
  have HG4 := Lib.hid (HG3.out.step hW4 hE4)
  have HE4 := Lib.hid (HE3.out.trans hE4)
  have gP3 := (hE4.kept _ (heap_lt gP2) (by omega) hno3).trans gP2
  have hno4 : cv2.ownBlock ≠ some V.heap.size := fun e => by
    rcases hE4.own with e2 | ⟨g, e2, hg⟩
    · rw [e2] at e; exact hno3 e
    · rw [e2] at e; cases e; omega
  have HGP3 := Lib.hid gP3
  have hs4 := hE4.size
  have HGR : Hid (Em wb V3 V3 cv2.ownBlock cv2.ownBlock) := Em.refl _ _ _
  clear gP2 gP3 hW4 hE4 HM p0 p1 p2 p3
  rw [← tabL_0] at HG4
  go_wp2_with fail
  go_loopw [30] (fun i wr => ∃ (k : Nat) (cv' : Value), i = .int .i64 k ∧ k ≤ r.length ∧ Hid (WSt wr wb mb B cv' (tabL L1 ⟨13, loc, r.length⟩ k)) ∧ Hid (Em wb V3 wr cv2.ownBlock cv'.ownBlock)) (fun i _ => r.length - (intOf i).toNat)
  case atStart => exact ⟨0, cv2, rfl, Nat.zero_le _, HG4.out.st, HGR⟩
  case round =>
    obtain ⟨k, cv3, rfl, hk, HW5, HE5⟩ := hrel
    by_cases hkl : k < r.length
    · have HM := Lib.hid (emit2_any wb mb B cv3 _ 14 0 0 wr HW5.out (Nat.le_trans HG4.out.size HE5.out.size) (by rw [tabL_length, hp1]; omega))
      go_wp2_with fail
      refine HM.out.mono ?_
      rintro e V5 ⟨rfl, cv4, hW6, hE6⟩
      rw [tabL_next] at hW6
      have HW6 := Lib.hid hW6
      have HE6 := Lib.hid (HE5.out.trans hE6)
      clear hW6 hE6 HM
      go_wp2_with fail
      go_round
      case rel => exact ⟨k + 1, cv4, by go_num, by omega, HW6, HE6⟩
      case measure => simp [intOf]; omega
    · obtain rfl : k = r.length := by omega
      have HGk := Lib.hid (HG4.out.step HW5.out HE5.out)
      have gPr := (HE5.out.kept _ (heap_lt HGP3.out) (by omega) hno4).trans HGP3.out
      obtain ⟨p0, p1, p2, p3⟩ := exp_box gPr
      have hc1 : ¬ c = 1 := by omega
      have hc2 : (c == 1) = false := by simp; omega
      go_wp2_with fail
      have HS0 : Hid (SwSt T L loc (.mk xo xn xs (.slice xa xl.length xc) xl) r 0 0 0 0 (tabL L1 ⟨13, loc, r.length⟩ r.length)) := sw_start HL3.out HC3.out.2.1 HC3.out.2.2 HWX.out (tabL_length ..) (fun i hi => tabL_pre _ _ _ i hi) (tabL_at ..) (fun j hj => tabL_tab _ _ _ j hj)
      have HE0 := Lib.hid (HE4.out.trans HE5.out)
      have HGw := Lib.hid HGk.out.st
      have hcb := H0.out.b0
      clear p0 p1 p2 p3 gPr HC3 HGP3 HE5 HW5 HE3 HE4
      generalize hX0 : ExpD.mk xo xn xs (.slice xa xl.length xc) xl = x0 at *
      go_loopw [8, 39] (fun ev i w2 => ∃ (k : Nat) (cv' : Value) (M : List Ins), i = .int .i64 k ∧ k ≤ r.length ∧ Hid (WSt w2 wb mb B cv' M) ∧ Hid (Em wb V w2 cv.ownBlock cv'.ownBlock) ∧ Hid (SwSt T L loc x0 r k k (min k (r.length - 1)) 0 M) ∧ Hid (EndsAt w2 V.heap.size ev (endsL L x0 r k) cv')) (fun _ i _ => r.length - (intOf i).toNat)
      case atStart => exact ⟨0, cv3, _, rfl, Nat.zero_le _, HGw, HE0, by rw [Nat.zero_min]; exact HS0.out, ⟨by unfold endsL; rw [Nat.zero_min]; exact World.ownsRow_nil _ _ _ _, by nofun⟩⟩
      case round =>
        obtain ⟨k, cv4, M, rfl, hk, HW, HE, HS, HEN⟩ := hrel
        by_cases hkl : k < r.length
        · have hbV := H0.out.below HE.out
          obtain ⟨b', off', ha, _, c0, c1, c2, c3⟩ := parts_at (l := x0 :: r) HR.out hbV (k + 1) (by simp; omega)
          cases ha
          rw [show off + (k + 1) * 4 = off + 4 + k * 4 by omega, List.getD_cons_succ] at c0 c1 c2 c3
          have hmem := getD_mem default r k hkl
          have hyk := (HYR.out _ hmem).under hbV
          have hX := HRR.out _ hmem
          have hfk := HFR.out k hkl
          have hlen := HS.out.len
          have hmin : min k (r.length - 1) = k := by omega
          rw [hmin] at hlen
          have hhm := heightL_mem hmem
          have hcl1 := clen_take r k hkl
          have hcl2 := clen_take_le r (k + 1)
          have hG := H0.out.step HW.out HE.out
          obtain ⟨g, cc, rfl, hgB, cur, hcur⟩ := own_some hG.st.own (by omega)
          obtain ⟨y, hy⟩ : ∃ y, r.getD k default = y := ⟨_, rfl⟩
          rw [hy] at c0 c1 c2 c3 hyk hX hfk hhm hcl1
          have Hy := Lib.hid hy
          clear hmem hy
          obtain ⟨yo, yn, ys, yv, yl⟩ := y
          obtain ⟨ya, yc, rfl, _⟩ := hyk.parts.1
          simp only [ExpD.op, ExpD.n, ExpD.s, ExpD.lv] at c0 c1 c2 c3
          have hg := grown_alloc wr (.cells #[.int .i64 yo, .int .i64 yn, .string ys, .slice ya yl.length yc] 29)
          have gX := new_heap wr (.cells #[.int .i64 yo, .int .i64 yn, .string ys, .slice ya yl.length yc] 29)
          have hG2 := hG.free hg
          obtain ⟨d0, d1⟩ := w_cells hG2.st.blk
          have htq : tq = L.length + clenX x0 := by rw [← hp1]; exact HL3.out
          have hMl : tq + 1 + k < M.length := by rw [hlen]; unfold tabP; omega
          have hMl2 : M.length ≤ 100000 := by rw [hlen]; unfold tabP; omega
          have hSk := HS.out
          rw [hmin] at hSk
          have htk := hSk.tab k hkl
          rw [if_neg (Nat.lt_irrefl k), show tabP L x0 + k = tq + 1 + k from by unfold tabP; omega] at htk
          have hSt := sw_tab HWX.out HWR.out hkl hSk
          rw [show tabP L x0 + k = tq + 1 + k from by unfold tabP; omega] at hSt
          have HST := Lib.hid hSt
          have HLEN := Lib.hid hlen
          clear hlen hSt hSk htq
          obtain ⟨hcell, hfz⟩ := owns_cell hG2.st.own (ins_at htk)
          go_upto_region 12 with fail
          generalize hW1 : wr.alloc (.cells #[.int .i64 yo, .int .i64 yn, .string ys, .slice ya yl.length yc] 29) = W1 at *
          have hGd := hG2.free (grown_drew W1)
          have hp := hGd.st.patch (tq + 1 + k) (M.length : Int) 14 0 ⟨0, htk⟩
          have hE5 := ((HE.out.trans (Em.free (wb := wb) (r := some g) hg)).trans (Em.free (wb := wb) (r := some g) (grown_drew W1))).trans (Em.grown hp.2 (.inl rfl))
          have hen := ((HEN.out.free hg).free (grown_drew W1)).patch hp.2 rfl
          have gX2 := (hp.2.block wr.heap.size (heap_lt gX) (fun e => by have := Option.some.inj e; have := heap_lt hcur; omega)).trans gX
          have hsz1 : wr.heap.size < W1.heap.size := heap_lt gX
          clear hW1
          generalize hW2 : W1.drew.setCell ⟨g, (tq + 1 + k) * 3 + 1, none⟩ (.int .i64 M.length) = W2 at *
          have hG5 := H0.out.step hp.1 hE5
          have HX := Lib.hid (hX (loc + 1) _ _ W2 hG5 (hyk.under ((grown_under (B := B0) hg (by have := hG.size; have := hG.st.lt; have := hG.lo; omega) (by nofun)).trans (grown_under (B := B0) (both (free_of (grown_drew W1) (some g)) hp.2) (by have := hG2.size; have := hG2.st.lt; have := hG2.lo; omega) (fun j hj => by cases hj; have := hG2.st.lt; have := hG2.lo; omega)))) hfk (by omega) (by omega) (by rw [List.length_set]; have := HLEN.out; unfold tabP at this; omega))
          rw [expV_mk] at HX
          obtain ⟨e0, e1, e2, e3⟩ := exp_box gX2
          have HE5 := Lib.hid hE5
          have HEN5 := Lib.hid hen
          have HG5 := Lib.hid hG5
          have hw2 : IntKind.i64.wrap ((r.length : Int) - 1) = (r.length : Int) - 1 := wrap_ok _ (by omega) (by omega)
          clear hX hyk hfk hG hG2 hGd hp hE5 hen gX gX2 hG5 htk c0 c1 c2 c3 hbV hg
          go_region
          all_goals
            clear hcell hfz d0 d1 hW2
            go_wp2_with fail
            refine HX.out.mono ?_
            rintro e V5 ⟨rfl, cv5, M2, hW6, hE6, hl6, hp6, hc6⟩
            have hS6 := sw_code HWX.out HWR.out hkl HST.out (M2 := M2) (by rw [Hy.out]; exact hl6) hp6 (by rw [Hy.out]; exact hc6)
            have HS6 := Lib.hid hS6
            have HE6 := Lib.hid (HE5.out.trans hE6)
            have HEN6 := Lib.hid (HEN5.out.write (by omega) hE6)
            have HW6 := Lib.hid hW6
            have hl62 : M2.length ≤ 100000 := by rw [hl6, List.length_set]; have := HLEN.out; unfold tabP at this; omega
            clear hS6 hW6 hE6 hl6 hp6 hc6 HX e0 e1 e2 e3
            by_cases hlast : (k : Int) < (r.length : Int) - 1
            · have HM := Lib.hid (emit2_any wb mb B cv5 M2 14 0 0 V5 HW6.out (Nat.le_trans H0.out.size HE6.out.size) (by omega))
              obtain ⟨ii0, hii, hiz0, hiz1, hiz2⟩ := info_parts info_int
              go_wp2_with fail
              refine HM.out.mono ?_
              rintro e V7 ⟨rfl, cv7, hW7, hE7⟩
              obtain ⟨hS7, hpl⟩ := sw_jump HWX.out HWR.out hkl HS6.out
              have HS7 := Lib.hid hS7
              have HPL := Lib.hid hpl
              have HE7 := Lib.hid (HE6.out.trans hE7)
              have HEN7 := Lib.hid (HEN6.out.write (by omega) hE7)
              have HW7 := Lib.hid hW7
              have hsV : V.heap.size ≤ V7.heap.size := HE7.out.size
              clear hS7 hpl hW7 hE7 HM
              go_wp2_with (at_builtin; refine wpList_append_lies _ rfl _ _ 83 rfl V.heap.size 3 ii0 (.int .i64 0) 1 8 Tryz.underlying83 hii hiz0 hiz1 hiz2 rfl (by decide) _ (endsL L x0 r k).length (natCells (endsL L x0 r k)) rfl (HEN7.out.own.alloc _) ⟨V7.heap.size, 0, none⟩ 1 1 [.int .i64 (M2.length : Int)] rfl rfl ?c1 ?c2 (by decide) ?c3 ?c4 ?c5 _ rfl ?_)
              case c1 => exact World.news_of_block (cs := #[.int .i64 (M2.length : Int)]) (new_heap V7 _)
              case c2 => intro u hu; simp at hu; subst hu; rfl
              case c3 => unfold maxLen endsL; simp; omega
              case c4 => unfold endsL; simp; omega
              case c5 => simp; omega
              intro g8 cap8 w8 hown8 hgrow8 hat8 hlt8
              have hg7 := grown_alloc V7 (.cells #[.int .i64 (M2.length : Int)] 3)
              have he8 : endsL L x0 r (k + 1) = endsL L x0 r k ++ [M2.length] := by
                unfold endsL
                rw [show min (k + 1) (r.length - 1) = k + 1 by omega, show min k (r.length - 1) = k by omega, List.range_succ, List.map_append, HPL.out]; rfl
              have hap : ∀ j, u8.ownBlock = some j → cv7.ownBlock ≠ some j := HEN7.out.apart
              have hub := owns_lt HEN7.out.own
              have hcb7 := owns_lt HW7.out.own
              have hG7 := (H0.out.step HW7.out HE7.out).free hg7
              have HW8 : Hid (WSt w8 wb mb B cv7 (M2 ++ [⟨14, 0, 0⟩])) := ⟨(hgrow8.block wb (heap_lt hG7.st.blk) (fun e => by have := (hub wb e.symm).1; omega)).trans hG7.st.blk, owns_grown hG7.st.own hgrow8 (fun j hj => hap j hj), hG7.st.lt⟩
              have HE8 : Hid (Em wb V w8 cv.ownBlock cv7.ownBlock) := (HE7.out.trans (Em.free hg7)).fresh hgrow8 (fun j hj => (hub j hj).1)
              have HEN8 : Hid (EndsAt w8 V.heap.size (.slice (some ⟨g8, 0, none⟩) ((endsL L x0 r k).length + 1) cap8) (endsL L x0 r (k + 1)) cv7) := by
                refine ⟨?_, fun j hj e => ?_⟩
                · rw [he8, map_app, List.length_append, List.length_singleton]; exact hown8
                · cases hj
                  rcases hat8 with e8 | e8
                  · exact hap g8 e8 e
                  · have h9 : g8 < V7.heap.size := (hcb7 _ e).2
                    omega
              have HS8 : Hid (SwSt T L loc x0 r (k + 1) (k + 1) (min (k + 1) (r.length - 1)) 0 (M2 ++ [⟨14, 0, 0⟩])) := by rw [show min (k + 1) (r.length - 1) = k + 1 by omega]; exact HS7.out
              clear hg7 hown8 hgrow8 hat8 hG7 he8 hap hub hcb7
              go_wp2_with fail
              go_roundw
              case rel => exact ⟨k + 1, cv7, _, by go_num, by omega, HW8, HE8, HS8, HEN8⟩
              case measure => simp [intOf]; omega
            · have HEN6' : Hid (EndsAt V5 V.heap.size u8 (endsL L x0 r (k + 1)) cv5) := by
                have : endsL L x0 r (k + 1) = endsL L x0 r k := by unfold endsL; rw [show min (k + 1) (r.length - 1) = min k (r.length - 1) by omega]
                rw [this]; exact HEN6.out
              have HS8 : Hid (SwSt T L loc x0 r (k + 1) (k + 1) (min (k + 1) (r.length - 1)) 0 M2) := by rw [show min (k + 1) (r.length - 1) = k by omega]; exact HS6.out
              go_wp2_with fail
              go_roundw
              case rel => exact ⟨k + 1, cv5, _, by go_num, by omega, HW6, HE6, HS8, HEN6'⟩
              case measure => simp [intOf]; omega
        · obtain rfl : k = r.length := by omega
          have hes : (endsL L x0 r r.length).length = r.length - 1 := by unfold endsL; simp
          obtain ⟨ea, ec, hev⟩ := own_shape HEN.out.own
          rw [hes] at hev
          subst hev
          have hG := H0.out.step HW.out HE.out
          have hS := HS.out
          rw [show min r.length (r.length - 1) = r.length - 1 by omega] at hS
          have hlen := hS.len
          obtain ⟨g, cc, rfl, hgB, cur, hcur⟩ := own_some hG.st.own (by omega)
          obtain ⟨es, hese⟩ : ∃ es, endsL L x0 r r.length = es := ⟨_, rfl⟩
          have Hese := Lib.hid hese
          rw [hese] at HEN hes
          have hML : M.length ≤ 100000 := by rw [hlen, List.take_length]; unfold tabP; omega
          obtain ⟨ml, hml⟩ : ∃ ml, M.length = ml := ⟨_, rfl⟩
          have HSM : Hid (M.length = ml ∧ SwSt T L loc x0 r r.length r.length (r.length - 1) 0 M) := ⟨hml, hS⟩
          have HWM := HW
          rw [hml] at HWM hML
          clear hG hS hlen hcur hese hml
          go_wp2_with fail
          go_loopw [75] (fun i wr => ∃ (m : Nat) (M : List Ins), i = .int .i64 m ∧ m ≤ r.length - 1 ∧ Hid (WSt wr wb mb B (.slice (some ⟨g, 0, none⟩) ml cc) M) ∧ Hid (Em wb V wr cv.ownBlock (some g)) ∧ Hid (M.length = ml ∧ SwSt T L loc x0 r r.length r.length (r.length - 1) m M) ∧ Hid (EndsAt wr V.heap.size (.slice ea (r.length - 1) ec) es (.slice (some ⟨g, 0, none⟩) ml cc))) (fun i _ => r.length - 1 - (intOf i).toNat)
          case atStart => exact ⟨0, M, rfl, Nat.zero_le _, HWM, HE, HSM, ⟨HEN.out.own, HEN.out.apart⟩⟩
          case round =>
            obtain ⟨m, M2, rfl, hm, HW2, HE2, HS2, HEN2⟩ := hrel
            by_cases hml : m < r.length - 1
            · obtain ⟨hS3, hlt⟩ := sw_patch HWX.out HWR.out hml HS2.out.2
              have hj := HS2.out.2.jmp m hml
              rw [if_neg (Nat.lt_irrefl m)] at hj
              have hem : es.getD m 0 = braP L x0 r m + clenX (r.getD m default) := by
                rw [← Hese.out]; unfold endsL
                rw [show min r.length (r.length - 1) = r.length - 1 by omega]
                simp [List.getD, hml]
              obtain ⟨am, ham⟩ : ∃ am, braP L x0 r m + clenX (r.getD m default) = am := ⟨_, rfl⟩
              rw [ham] at hS3 hlt hj hem
              rw [HS2.out.1] at hS3 hlt
              have hown2 := HEN2.out.own
              rw [hes] at hown2
              obtain ⟨g2, c2, hea, hgB2, cur2, hcur2⟩ := own_some hown2 (by omega)
              obtain rfl : ea = some ⟨g2, 0, none⟩ := by injection hea
              have hec := (owns_cell (i := m) (u := .int .i64 (am : Int)) hown2 (by
                unfold natCells
                rw [List.getElem?_map, List.getElem?_eq_getElem (by omega), ← hem]
                simp [List.getD, hes, hml])).1
              have hW2' : WSt wr wb mb B (.slice (some ⟨g, 0, none⟩) M2.length cc) M2 := by rw [HS2.out.1]; exact HW2.out
              obtain ⟨hcell, hfz⟩ := owns_cell hW2'.own (ins_at hj)
              obtain ⟨d0, d1⟩ := w_cells HW2.out.blk
              have hW2d := HW2.out.free (grown_drew wr)
              have hp := WSt.patch (L := M2) (by rw [HS2.out.1]; exact hW2d) am (ml : Int) 14 0 ⟨0, hj⟩
              rw [HS2.out.1] at hp
              have HW3 := Lib.hid hp.1
              have HE3 := Lib.hid ((HE2.out.trans (Em.free (wb := wb) (r := some g) (grown_drew wr))).trans (Em.grown hp.2 (.inl rfl)))
              have HEN3 := Lib.hid ((HEN2.out.free (grown_drew wr)).patch hp.2 rfl)
              have HS3 : Hid ((M2.set am ⟨14, ml, 0⟩).length = ml ∧ SwSt T L loc x0 r r.length r.length (r.length - 1) (m + 1) (M2.set am ⟨14, ml, 0⟩)) := ⟨by rw [List.length_set]; exact HS2.out.1, hS3⟩
              clear hS3 hj hem ham hea hcur2 hp hW2d hW2' hown2
              go_upto_region 20 with fail
              go_region
              all_goals
                clear hcell hfz d0 d1 hec
                go_wp2_with fail
                go_roundw
                case rel => exact ⟨m + 1, _, by go_num, by omega, HW3, HE3, HS3, HEN3⟩
                case measure => simp [intOf]; omega
            · obtain rfl : m = r.length - 1 := by omega
              obtain ⟨f1, f2⟩ := sw_done (n := n) (s := s) (v := .slice (some ⟨b, off, none⟩) N c) hn2.1 HS2.out.2
              have HF : Hid (Wr wb mb B L cv V (clenX (.mk 9 n s (.slice (some ⟨b, off, none⟩) N c) (x0 :: r))) (fun L' => CodeX L' T loc (.mk 9 n s (.slice (some ⟨b, off, none⟩) N c) (x0 :: r)) L.length) (.returned (.tuple #[])) wr) := ⟨rfl, _, M2, HW2.out, HE2.out, f2, HS2.out.2.pre, f1⟩
              clear f1 f2
              subst hX0
              go_wp2_with fail
              go_end0
              exact HF.out

set_option maxHeartbeats 1000000 in
set_option maxRecDepth 100000 in
theorem exp_9_gen (caps : Int) (clo : Int → Int → Bool) (T : ByteArray → Int) (wb mb B B0 : Nat) (x0 : ExpD) (r : List ExpD) (Hx : ExpAll caps clo T wb mb B B0 x0) (Hr : ∀ y ∈ r, ExpAll caps clo T wb mb B B0 y) (n : Int) (s : ByteArray) (a : Option Addr) (N c : Nat) (hN : N = r.length + 1) (loc : Int) (cv : Value) (L : List Ins) (V : World) (h : Wg V wb mb B B0 cv L T) (hx : IsExp B0 V (.mk 9 n s (.slice a N c) (x0 :: r))) (hf : flatX caps clo loc (.mk 9 n s (.slice a N c) (x0 :: r)) = true) (h0 : 0 ≤ loc) (hh : loc + heightL (x0 :: r) + 1 ≤ 100000) (hL : L.length + clenX (.mk 9 n s (.slice a N c) (x0 :: r)) ≤ 100000) :
    Calls Tryz.prog 50 #[.pointer (some ⟨wb, 0, none⟩), .agg #[.int .i64 9, .int .i64 n, .string s, .slice a N c], .int .i64 loc] V (Wr wb mb B L cv V (clenX (.mk 9 n s (.slice a N c) (x0 :: r))) (fun L' => CodeX L' T loc (.mk 9 n s (.slice a N c) (x0 :: r)) L.length)) := by
  have hg := grown_alloc V (.cells #[.int .i64 9, .int .i64 n, .string s, .slice a N c] 29)
  have gP := new_heap V (.cells #[.int .i64 9, .int .i64 n, .string s, .slice a N c] 29)
  obtain ⟨p0, p1, p2, p3⟩ := exp_box gP
  have hE1 := Em.free (wb := wb) (r := cv.ownBlock) hg
  have HE1 := Lib.hid hE1
  have HX := Lib.hid (choice_gen caps clo T wb mb B B0 x0 r Hx Hr n s a N c hN loc cv L _ (h.free hg) (hx.under (h.below hE1)) hf h0 hh hL)
  clear h hx hf gP hg hE1 Hx Hr hN
  go_enter Tryz.func50, Tryz.ntmps50
  go_wp2_with fail
  refine HX.out.mono ?_
  rintro e V2 ⟨rfl, cv', L', hW, hE, h1, h2, h3⟩
  have HR : Hid (Wr wb mb B L cv V (clenX (.mk 9 n s (.slice a N c) (x0 :: r))) (fun L' => CodeX L' T loc (.mk 9 n s (.slice a N c) (x0 :: r)) L.length) (.returned (.tuple #[])) V2) := ⟨rfl, cv', L', hW, HE1.out.trans hE, h1, h2, h3⟩
  clear hW hE h1 h2 h3 HX
  go_wp2_with fail
  go_end0
  exact HR.out
theorem clen_node {op n : Int} {s : ByteArray} {v : Value} {l : List ExpD} (h9 : op ≠ 9) : clenX (.mk op n s v l) = clenL l + 1 := by rw [clenX_mk, if_neg h9]
set_option maxRecDepth 100000 in
theorem exp_all (caps : Int) (clo : Int → Int → Bool) (T : ByteArray → Int) (wb mb B B0 : Nat) (x : ExpD) : ExpAll caps clo T wb mb B B0 x := by
  induction x using ExpD.induct with
  | h op n s lv l ih =>
    intro loc cv L V h hx hf h0 hh hL
    rw [expV_mk]
    rw [heightX_mk] at hh
    obtain ⟨a, c, hlv, _⟩ := hx.parts.1
    subst hlv
    obtain ⟨hfm, hfp⟩ := flat_parts hf
    rcases form_ops hfm with rfl | rfl | rfl | rfl | rfl | rfl | rfl | rfl | rfl | rfl | rfl | rfl | rfl | rfl
    · have := (form_2 hfm).1; simp at this
      obtain rfl := this.1
      exact exp_2_gen T wb mb B B0 n s a c loc cv L V h (by omega)
    · have := (form_3 hfm).1; simp at this
      obtain rfl := this.1
      exact exp_3_gen T wb mb B B0 n s a c loc cv L V h (by omega) (by unfold maxLen; omega)
    · rw [clen_node (by decide)] at hL
      exact exp_6_gen caps clo T wb mb B B0 l ih n s a c loc cv L V h hx hf h0 (by omega) (by omega)
    · rw [clen_node (by decide)] at hL
      exact exp_7_gen caps clo T wb mb B B0 l ih n s a c loc cv L V h hx hf h0 (by omega) (by omega)
    · rw [clen_node (by decide)] at hL
      exact exp_8_gen caps clo T wb mb B B0 l ih n s a c loc cv L V h hx hf h0 (by omega) (by omega)
    · cases l with
      | nil => have := (form_9 hfm).1; unfold inB at this; simp at this
      | cons x0 r => exact exp_9_gen caps clo T wb mb B B0 x0 r (ih x0 (by simp)) (fun y hy => ih y (by simp [hy])) n s a _ c (by simp) loc cv L V h hx hf h0 (by omega) hL
    · have hk := form_let hfm
      match l, hk with
      | [x, y], _ => exact exp_11_gen caps clo T wb mb B B0 x y (ih x (by simp)) (ih y (by simp)) n s a c loc cv L V h hx hf h0 (by omega) hL
    · rw [clen_node (by decide)] at hL
      exact exp_12_gen caps clo T wb mb B B0 l ih n s a c loc cv L V h hx hf h0 (by omega) (by omega)
    · have := (form_13 hfm).1; simp at this
      obtain rfl := this.1
      exact exp_13_gen T wb mb B B0 n s a c loc cv L V h (by omega)
    · have := (form_21 hfm).1; simp at this
      obtain rfl := this.1
      exact exp_21_gen T wb mb B B0 n s a c loc cv L V h (by omega)
    · have := (form_22 hfm).1; simp at this
      obtain rfl := this.1
      exact exp_22_gen T wb mb B B0 n s a c loc cv L V h (by omega)
    · have := (form_23 hfm).1; simp at this
      obtain rfl := this.1
      exact exp_23_gen T wb mb B B0 n s a c loc cv L V h (by omega)
    · rw [clen_node (by decide)] at hL
      exact exp_24_gen caps clo T wb mb B B0 l ih n s a c loc cv L V h hx hf h0 (by omega) (by omega)
    · rw [clen_node (by decide)] at hL
      exact exp_25_gen caps clo T wb mb B B0 l ih n s a c loc cv L V h hx hf h0 (by omega) (by omega)
end Go.Proofs.YtidolpcbbbakmaaGreat
