/- Part of the proof; its texts: Cw5 Cw6. -/
import Derived.Test.YtbcfdebdikgijaaGreatDoorS9
set_option maxRecDepth 100000
set_option linter.unusedVariables false
set_option linter.unusedSimpArgs false
set_option maxHeartbeats 4000000
namespace Go.Proofs.YtbcfdebdikgijaaGreatDoor
open Go Go.RowKit
open Go.Maps
def PN (L : List Ins) (i : Ins) (k : Nat) : List Ins := L ++ [i] ++ List.replicate k ⟨14, 0, 0⟩
theorem zH (L : List Ins) (i : Ins) (k : Nat) : PN L i k ++ [⟨14, 0, 0⟩] = PN L i (k + 1) := by
 unfold PN; rw [List.replicate_succ', <- List.append_assoc]
theorem M4 (L : List Ins) (i : Ins) (k : Nat) : (PN L i k).length = L.length + 1 + k := by unfold PN; simp; omega
theorem mg (L : List Ins) (i : Ins) : PN L i 0 = L ++ [i] := by unfold PN; simp
theorem vk (L : List Ins) (i : Ins) (k j : Nat) (h : j < L.length) : (PN L i k)[j]? = L[j]? := by
 unfold PN; rw [List.append_assoc]; exact List.getElem?_append_left h
theorem qF (L : List Ins) (i : Ins) (k : Nat) : (PN L i k)[L.length]? = some i := by
 unfold PN; rw [List.append_assoc, List.getElem?_append_right (Nat.le_refl _), Nat.sub_self]; rfl
theorem vg (L : List Ins) (i : Ins) (k j : Nat) (h : j < k) : (PN L i k)[L.length + 1 + j]? = some ⟨14, 0, 0⟩ := by
 unfold PN
 rw [List.getElem?_append_right (by simp only [List.length_append, List.length_singleton]; omega), List.length_append, List.length_singleton, show L.length + 1 + j - (L.length + 1) = j by omega, List.getElem?_replicate, ZY h]
structure Us (V : World) (B1 : Nat) (ev : Value) (es : List Nat) (cv : Value) : Prop where
 own : V.ownsRow B1 3 1 ev es.length (WL es)
 apart : ∀ g, ev.ownBlock = some g -> cv.ownBlock ≠ some g
theorem Em.fresh {wb : Nat} {V W W' : World} {r r' : Option Nat} {g : Option Nat} (h : Em wb V W r r') (hg : W.grownBy W' g) (hn : ∀ k, g = some k -> V.heap.size <= k) : Em wb V W' r r' :=
 ⟨hg.os.trans h.os, hg.tape.trans h.tape, hg.output.trans h.output, Nat.le_trans h.size hg.size, fun k hk hw hr => (hg.block k (by have := h.size; omega) (fun e => by have := hn k e.symm; omega)).trans (h.kept k hk hw hr), h.own⟩
theorem MH.patch {V : World} {wb mb B g c : Nat} {L : List Ins} (h : MH V wb mb B (.slice (some ⟨g, 0, none⟩) L.length c) L) (i : Nat) (x : Int) (op b : Int) (he : ∃ a, L[i]? = some ⟨op, a, b⟩) : MH (V.setCell ⟨g, i * 3 + 1, none⟩ (.int .i64 x)) wb mb B (.slice (some ⟨g, 0, none⟩) L.length c) (L.set i ⟨op, x, b⟩) /\ V.grownBy (V.setCell ⟨g, i * 3 + 1, none⟩ (.int .i64 x)) (some g) := by
 have hg := Zv V g (i * 3 + 1) (.int .i64 x)
 have hb := (Zw h.own g rfl).1
 have hlt := h.lt
 refine ⟨⟨?_, ?_, hlt⟩, hg⟩
 ·exact (hg.block wb (Z6 h.blk) (fun e => by have := Option.some.inj e; omega)).trans h.blk
 ·have := vD h.own (i * 3 + 1) (.int .i64 x)
  rw [List.length_set]; rw [show YE (L.set i ⟨op, x, b⟩) = (YE L).set (i * 3 + 1) (.int .i64 x) from ?_]
  ·exact this
  ·obtain ⟨a, ha⟩ := he
   have hcell : ∀ (l : List Ins) (i : Nat), l[i]? = some ⟨op, a, b⟩ -> YE (l.set i ⟨op, x, b⟩) = (YE l).set (i * 3 + 1) (.int .i64 x) := by
    intro l
    induction l with
    | nil => intro i h; simp at h
    | cons y l ih =>
      intro i h; cases i with
      | zero => simp at h; subst h; simp [YE]
      | succ i =>
        have := ih i (by simpa using h); rw [List.set_cons_succ]; have e : ∀ z (l : List Ins), YE (z :: l) = [.int .i64 z.op, .int .i64 z.a, .int .i64 z.b] ++ YE l := fun z l => rfl
        rw [e, e, this, show (i + 1) * 3 + 1 = i * 3 + 1 + 3 by omega]; simp
   exact hcell L i ha
theorem Oz {V : World} {B : Nat} {e : TypeId} {s n : Nat} {v : Value} {xs : List Value} (h : V.ownsRow B e s v n xs) (hn : 0 < n) : ∃ g c, v = .slice (some ⟨g, 0, none⟩) n c /\ B <= g /\ ∃ cur, V.heap[g]? = some (.cells cur e (0, 0)) := by
 obtain ⟨_, h2⟩ := h
 rcases h2 with ⟨_, h0⟩ | ⟨g, cap, cur, hv, hb, hh, _⟩
 ·omega
 ·exact ⟨g, cap, hv, hb, cur, hh⟩
theorem RN {V : World} {B : Nat} {e : TypeId} {s n g c : Nat} {xs : List Value} {i : Nat} {u : Value} (h : V.ownsRow B e s (.slice (some ⟨g, 0, none⟩) n c) n xs) (hi : xs[i]? = some u) : V.cell? ⟨g, i, none⟩ = some u /\ V.frozen? ⟨g, i, none⟩ = false := by
 obtain ⟨h1, h2⟩ := h
 rcases h2 with ⟨h2, _⟩ | ⟨g', cap, cur, hv, hb, hh, hn, hc, hs, ht⟩
 ·cases h2
 ·injection hv with ha _ hcap
  injection ha with ha; injection ha with hg _ _; subst hg; refine ⟨?_, Lib.frozen_of_heap hh i⟩; have hlt : i < n * s := by rw [<- h1]; exact (List.getElem?_eq_some_iff.1 hi).1
  rw [<- ht, List.getElem?_take_of_lt hlt, Array.getElem?_toList] at hi; simp [World.cell?, hh, hi]
theorem uZ {L : List Ins} {i : Nat} {x : Ins} (h : L[i]? = some x) : (YE L)[i * 3 + 1]? = some (.int .i64 x.a) := by
 induction L generalizing i with
 | nil => simp at h
 | cons y l ih =>
   have e : YE (y :: l) = [.int .i64 y.op, .int .i64 y.a, .int .i64 y.b] ++ YE l := rfl; cases i with
   | zero => simp at h; subst h; rw [e]; rfl
   | succ i =>
     have := ih (by simpa using h); rw [e, show (i + 1) * 3 + 1 = i * 3 + 1 + 3 by omega, List.getElem?_append_right (by simp)]; simpa using this
theorem Yg {V : World} {B : Nat} {e : TypeId} {s n : Nat} {v : Value} {xs : List Value} (h : V.ownsRow B e s v n xs) : ∃ a c, v = .slice a n c := by
 obtain ⟨_, h2⟩ := h
 rcases h2 with ⟨rfl, rfl⟩ | ⟨g', cap, cur, rfl, _⟩
 ·exact ⟨_, _, rfl⟩
 ·exact ⟨_, _, rfl⟩
theorem Us.free {V V' : World} {B1 : Nat} {ev : Value} {es : List Nat} {cv : Value} (h : Us V B1 ev es cv) (hg : V.grownBy V' none) : Us V' B1 ev es cv := ⟨Zx h.own hg (by nofun), h.apart⟩
theorem Us.write {V V' : World} {wb B1 : Nat} {ev : Value} {es : List Nat} {cv cv' : Value} (h : Us V B1 ev es cv) (hwb : wb < B1) (hE : Em wb V V' cv.ownBlock cv'.ownBlock) : Us V' B1 ev es cv' := by
 have hlt := Zw h.own
 refine ⟨?_, fun g hg e => ?_⟩
 ·obtain ⟨h1, h2⟩ := h.own
  refine ⟨h1, ?_⟩; rcases h2 with h2 | ⟨g, cap, cur, rfl, hb, hh, hrest⟩
  ·exact .inl h2
  ·exact .inr ⟨g, cap, cur, rfl, hb, (hE.kept g (Z6 hh) (by omega) (h.apart g rfl)).trans hh, hrest⟩
 ·rcases hE.own with e2 | ⟨g2, e2, hg2⟩
  ·rw [e2] at e; exact h.apart g hg e
  ·rw [e2] at e; cases e; have := (hlt _ hg).2; omega
theorem Us.patch {V V' : World} {B1 g : Nat} {ev : Value} {es : List Nat} {cv : Value} (h : Us V B1 ev es cv) (hg : V.grownBy V' (some g)) (hc : cv.ownBlock = some g) : Us V' B1 ev es cv :=
 ⟨Zx h.own hg (fun k hk e => by cases hk; exact h.apart _ e hc), h.apart⟩
def UO (L : List Ins) (x0 : Z0) (r : List Z0) (k : Nat) : List Nat := (List.range (min k (r.length - 1))).map fun j => UQ L x0 r j + ZU (r.getD j default)
theorem C8 (caps : Int) (Ze : Int -> Int -> Bool) (T : ByteArray -> Int) (wb mb B B0 : Nat) (x0 : Z0) (r : List Z0) (Hx : UR caps Ze T wb mb B B0 x0) (Hr : ∀ y ∈ r, UR caps Ze T wb mb B B0 y) (n : Int) (s : ByteArray) (a : Option Addr) (N c : Nat) (hN : N = r.length + 1) (loc : Int) (cv : Value) (L : List Ins) (V : World) (h : Wg V wb mb B B0 cv L T) (hx : Y0 B0 V (.mk 9 n s (.slice a N c) (x0 :: r))) (hf : ZI caps Ze loc (.mk 9 n s (.slice a N c) (x0 :: r)) = true) (h0 : 0 <= loc) (hh : loc + YI (x0 :: r) + 1 <= 100000) (hL : L.length + ZU (.mk 9 n s (.slice a N c) (x0 :: r)) <= 100000) :
 Calls Tryz.prog 85 #[.pointer (some ⟨wb, 0, none⟩), .agg #[.int .i64 9, .int .i64 n, .string s, .slice a N c], .int .i64 loc] V (Wr wb mb B L cv V (ZU (.mk 9 n s (.slice a N c) (x0 :: r))) (fun L' => YL L' T loc (.mk 9 n s (.slice a N c) (x0 :: r)) L.length)) := by
 have hg := Z8 V (.cells #[.int .i64 9, .int .i64 n, .string s, .slice a N c] 36)
 have gP := ZV V (.cells #[.int .i64 9, .int .i64 n, .string s, .slice a N c] 36)
 obtain ⟨p0, p1, p2, p3⟩ := ZP gP
 have HE1 := Z9 (Em.free (wb := wb) (r := cv.ownBlock) hg)
 have hW2 := h.free hg
 obtain ⟨hR0, hm, hy0⟩ := hx.parts
 have hbx := h.below HE1.out
 have hwl := Va hf
 unfold Vk at hwl
 obtain ⟨hwx, hwr⟩ := hwl
 have hfx := (Za hf).2 0 (by simp)
 rw [show lo 9 loc 0 = loc from rfl, show (x0 :: r).getD 0 default = x0 from rfl] at hfx
 have lZ := Z9 (fun (i : Nat) (hi : i < r.length) => show ZI caps Ze (loc + 1) (r.getD i default) = true from by
  have := (Za hf).2 (i + 1) (by simp; omega)
  rwa [show lo 9 loc (i + 1) = loc + 1 from by unfold lo bump; rw [ZY (by omega), ZY (by omega)], show (x0 :: r).getD (i + 1) default = r.getD i default from by simp] at this)
 have hn2 : 0 < r.length /\ r.length <= 1000 := by
  have := (Rs (Za hf).1).1; unfold Y7 at this; simp at this; have h2 := this.2; omega
 have lY := Z9 hwx
 have bV := Z9 hwr
 have hcl := Xx 9 n s (.slice a N c) (x0 :: r)
 rw [ZY rfl, Zm, List.length_cons] at hcl
 rw [WK] at hh
 have hyx := hy0 x0 (by simp)
 have HYR := Z9 (fun y hy => hy0 y (List.mem_cons_of_mem _ hy))
 have FN := Z6 h.st.blk
 have hcl0 := Zw h.st.own
 have hlc : N <= c := by
  obtain ⟨a', c', e, hlc, _⟩ := hR0; injection e with e1 e2 e3; rw [List.length_cons] at hlc; omega
 rw [show (.slice a N c : Value) = .slice a (x0 :: r).length c from by rw [hN, List.length_cons]] at hR0
 have HR := Z9 hR0
 obtain ⟨b, off, rfl, Rx, c0, c1, c2, c3⟩ := XY HR.out hbx 0 (by simp)
 rw [show (x0 :: r).getD 0 default = x0 from rfl] at c0 c1 c2 c3
 have H0 := Z9 h
 have H2 := Z9 hW2
 have WO := Z9 gP
 have HX := Z9 (Hx loc cv L _ hW2 (hyx.under hbx) hfx h0 (by omega) (by omega))
 have hw1 : IntKind.i64.wrap ((N : Int) - 1) = (r.length : Int) := by rw [YJ _ (by omega) (by omega)]; omega
 obtain ⟨xo, xn, xs, xv, xl⟩ := x0
 obtain ⟨xa, xc, rfl, _⟩ := hyx.parts.1
 simp only [Z0.op, Z0.n, Z0.s, Z0.lv, Nat.zero_mul, Nat.add_zero] at c0 c1 c2 c3
 rw [ZE] at HX
 have HRR := Z9 Hr
 have hN1 : 1 <= N := by omega
 have hNr : N - 1 = r.length := by omega
 have HNN := Z9 hN
 clear hN
 clear h hx hf gP hg hW2 hyx hfx Hx Hr hR0 hy0
 go_in
 go_wp2_with fail
 refine HX.out.mono ?_
 rintro e V2 ⟨rfl, cv1, L1, hW3, hE3, hl3, hp3, hc3⟩
 have HG3 := Z9 (H2.out.step hW3 hE3)
 have HE3 := Z9 (HE1.out.trans hE3)
 have gP2 := (hE3.kept _ (Z6 WO.out) (by omega) (fun e => by have := (hcl0 _ e).2; omega)).trans WO.out
 have HM := Z9 (XW wb mb B cv1 L1 13 loc r.length V2 hW3 (Nat.le_trans H2.out.size hE3.size) (by omega))
 have HC3 : Hid (L1.length = L.length + _ /\ (∀ i, i < L.length -> L1[i]? = L[i]?) /\ YL L1 T loc _ L.length) := ⟨hl3, hp3, hc3⟩
 have hs3 := hE3.size
 have hlt3 := Z6 WO.out
 have qK : cv1.ownBlock ≠ some V.heap.size := fun e => by
  rcases hE3.own with e2 | ⟨g, e2, hg⟩
  ·rw [e2] at e; have := (hcl0 _ e).2; omega
  ·rw [e2] at e; cases e; omega
 have hL1 : L1.length <= 100000 := by omega
 have HL3 := Z9 hl3
 clear hl3
 obtain ⟨tq, hp1⟩ : ∃ tq, L1.length = tq := ⟨_, rfl⟩
 rw [hp1] at HM hL1
 clear p0 p1 p2 p3 c0 c1 c2 c3 hW3 hE3 hp3 hc3 HX
 obtain ⟨p0, p1, p2, p3⟩ := ZP gP2
 go_wp2_with fail
 refine HM.out.mono ?_
 rintro e V3 ⟨rfl, cv2, hW4, hE4⟩
 have HG4 := Z9 (HG3.out.step hW4 hE4)
 have HE4 := Z9 (HE3.out.trans hE4)
 have gP3 := (hE4.kept _ (Z6 gP2) (by omega) qK).trans gP2
 have au : cv2.ownBlock ≠ some V.heap.size := fun e => by
  rcases hE4.own with e2 | ⟨g, e2, hg⟩
  ·rw [e2] at e; exact qK e
  ·rw [e2] at e; cases e; omega
 have CZ := Z9 gP3
 have hs4 := hE4.size
 have lX : Hid (Em wb V3 V3 cv2.ownBlock cv2.ownBlock) := Em.refl _ _ _
 clear gP2 gP3 hW4 hE4 HM p0 p1 p2 p3
 rw [<- mg] at HG4
 go_wp2_with fail
 go_loopw [30] (fun i wr => ∃ (k : Nat) (cv' : Value), i = .int .i64 k /\ k <= r.length /\ Hid (MH wr wb mb B cv' (PN L1 ⟨13, loc, r.length⟩ k)) /\ Hid (Em wb V3 wr cv2.ownBlock cv'.ownBlock)) (fun i _ => r.length - (intOf i).toNat)
 case atStart => exact ⟨0, cv2, rfl, Nat.zero_le _, HG4.out.st, lX⟩
 case round =>
  obtain ⟨k, cv3, rfl, hk, HW5, HE5⟩ := hrel; by_cases hkl : k < r.length
  ·have HM := Z9 (XW wb mb B cv3 _ 14 0 0 wr HW5.out (Nat.le_trans HG4.out.size HE5.out.size) (by rw [M4, hp1]; omega))
   go_wp2_with fail; refine HM.out.mono ?_; rintro e V5 ⟨rfl, cv4, hW6, hE6⟩; rw [zH] at hW6; have HW6 := Z9 hW6; have HE6 := Z9 (HE5.out.trans hE6); clear hW6 hE6 HM; go_wp2_with fail; go_round
   case rel => exact ⟨k + 1, cv4, by go_num, by omega, HW6, HE6⟩
   case measure => simp [intOf]; omega
  ·obtain rfl : k = r.length := by omega
   have HGk := Z9 (HG4.out.step HW5.out HE5.out); have Qd := (HE5.out.kept _ (Z6 CZ.out) (by omega) au).trans CZ.out; obtain ⟨p0, p1, p2, p3⟩ := ZP Qd; have hc1 : ¬ c = 1 := by omega
   have hc2 : (c == 1) = false := by simp; omega
   go_wp2_with fail; have HS0 : Hid (QO T L loc (.mk xo xn xs (.slice xa xl.length xc) xl) r 0 0 0 0 (PN L1 ⟨13, loc, r.length⟩ r.length)) := vv HL3.out HC3.out.2.1 HC3.out.2.2 lY.out (M4 ..) (fun i hi => vk _ _ _ i hi) (qF ..) (fun j hj => vg _ _ _ j hj); have HE0 := Z9 (HE4.out.trans HE5.out); have HGw := Z9 HGk.out.st; have hcb := H0.out.b0; clear p0 p1 p2 p3 Qd HC3 CZ HE5 HW5 HE3 HE4; generalize hX0 : Z0.mk xo xn xs (.slice xa xl.length xc) xl = x0 at *; go_loopw [8, 39] (fun ev i w2 => ∃ (k : Nat) (cv' : Value) (M : List Ins), i = .int .i64 k /\ k <= r.length /\ Hid (MH w2 wb mb B cv' M) /\ Hid (Em wb V w2 cv.ownBlock cv'.ownBlock) /\ Hid (QO T L loc x0 r k k (min k (r.length - 1)) 0 M) /\ Hid (Us w2 V.heap.size ev (UO L x0 r k) cv')) (fun _ i _ => r.length - (intOf i).toNat)
   case atStart => exact ⟨0, cv3, _, rfl, Nat.zero_le _, HGw, HE0, by rw [Nat.zero_min]; exact HS0.out, ⟨by unfold UO; rw [Nat.zero_min]; exact World.ownsRow_nil _ _ _ _, by nofun⟩⟩
   case round =>
    obtain ⟨k, cv4, M, rfl, hk, HW, HE, HS, iP⟩ := hrel; by_cases hkl : k < r.length
    ·have AX := H0.out.below HE.out
     obtain ⟨b', off', ha, _, c0, c1, c2, c3⟩ := XY (l := x0 :: r) HR.out AX (k + 1) (by simp; omega); cases ha; rw [show off + (k + 1) * 4 = off + 4 + k * 4 by omega, List.getD_cons_succ] at c0 c1 c2 c3; have hmem := Zr default r k hkl; have hyk := (HYR.out _ hmem).under AX; have hX := HRR.out _ hmem; have R4 := lZ.out k hkl; have hlen := HS.out.len; have hmin : min k (r.length - 1) = k := by omega
     rw [hmin] at hlen; have hhm := Xd hmem; have ak := RO r k hkl; have iO := OC r (k + 1); have hG := H0.out.step HW.out HE.out; obtain ⟨g, cc, rfl, hgB, cur, hcur⟩ := Oz hG.st.own (by omega); obtain ⟨y, hy⟩ : ∃ y, r.getD k default = y := ⟨_, rfl⟩; rw [hy] at c0 c1 c2 c3 hyk hX R4 hhm ak; have Hy := Z9 hy; clear hmem hy; obtain ⟨yo, yn, ys, yv, yl⟩ := y; obtain ⟨ya, yq, rfl, _⟩ := hyk.parts.1; simp only [Z0.op, Z0.n, Z0.s, Z0.lv] at c0 c1 c2 c3; have hg := Z8 wr (.cells #[.int .i64 yo, .int .i64 yn, .string ys, .slice ya yl.length yq] 36); have gX := ZV wr (.cells #[.int .i64 yo, .int .i64 yn, .string ys, .slice ya yl.length yq] 36); have hG2 := hG.free hg; obtain ⟨d0, d1⟩ := V9 hG2.st.blk; have htq : tq = L.length + ZU x0 := by rw [<- hp1]; exact HL3.out
     have hMl : tq + 1 + k < M.length := by rw [hlen]; unfold Vo; omega
     have abX : M.length <= 100000 := by rw [hlen]; unfold Vo; omega
     have bU := HS.out; rw [hmin] at bU; have htk := bU.tab k hkl; rw [Z7 (Nat.lt_irrefl k), show Vo L x0 + k = tq + 1 + k from by unfold Vo; omega] at htk; have hSt := mh lY.out bV.out hkl bU; rw [show Vo L x0 + k = tq + 1 + k from by unfold Vo; omega] at hSt; have HST := Z9 hSt; have HLEN := Z9 hlen; clear hlen hSt bU htq; obtain ⟨hcell, hfz⟩ := RN hG2.st.own (uZ htk); go_upto_region 12 with fail; generalize hW1 : wr.alloc (.cells #[.int .i64 yo, .int .i64 yn, .string ys, .slice ya yl.length yq] 36) = W1 at *; have hGd := hG2.free (Z4 W1); have hp := hGd.st.patch (tq + 1 + k) (M.length : Int) 14 0 ⟨0, htk⟩; have hE5 := ((HE.out.trans (Em.free (wb := wb) (r := some g) hg)).trans (Em.free (wb := wb) (r := some g) (Z4 W1))).trans (Em.grown hp.2 (.inl rfl)); have hen := ((iP.out.free hg).free (Z4 W1)).patch hp.2 rfl; have gX2 := (hp.2.block wr.heap.size (Z6 gX) (fun e => by have := Option.some.inj e; have := Z6 hcur; omega)).trans gX; have hsz1 : wr.heap.size < W1.heap.size := Z6 gX; clear hW1; generalize hW2 : W1.drew.setCell ⟨g, (tq + 1 + k) * 3 + 1, none⟩ (.int .i64 M.length) = W2 at *; have hG5 := H0.out.step hp.1 hE5; have HX := Z9 (hX (loc + 1) _ _ W2 hG5 (hyk.under ((ZX (B := B0) hg (by have := hG.size; have := hG.st.lt; have := hG.lo; omega) (by nofun)).trans (ZX (B := B0) (both (YA (Z4 W1) (some g)) hp.2) (by have := hG2.size; have := hG2.st.lt; have := hG2.lo; omega) (fun j hj => by cases hj; have := hG2.st.lt; have := hG2.lo; omega)))) R4 (by omega) (by omega) (by rw [List.length_set]; have := HLEN.out; unfold Vo at this; omega)); rw [ZE] at HX; obtain ⟨e0, e1, e2, e3⟩ := ZP gX2; have HE5 := Z9 hE5; have aj := Z9 hen; have HG5 := Z9 hG5; have hw2 : IntKind.i64.wrap ((r.length : Int) - 1) = (r.length : Int) - 1 := YJ _ (by omega) (by omega); clear hX hyk R4 hG hG2 hGd hp hE5 hen gX gX2 hG5 htk c0 c1 c2 c3 AX hg; go_region
     all_goals
      clear hcell hfz d0 d1 hW2; go_wp2_with fail; refine HX.out.mono ?_; rintro e V5 ⟨rfl, cv5, M2, hW6, hE6, hl6, hp6, hc6⟩; have hS6 := qI lY.out bV.out hkl HST.out (M2 := M2) (by rw [Hy.out]; exact hl6) hp6 (by rw [Hy.out]; exact hc6); have HS6 := Z9 hS6; have HE6 := Z9 (HE5.out.trans hE6); have iN := Z9 (aj.out.write (by omega) hE6); have HW6 := Z9 hW6; have hl62 : M2.length <= 100000 := by rw [hl6, List.length_set]; have := HLEN.out; unfold Vo at this; omega
      clear hS6 hW6 hE6 hl6 hp6 hc6 HX e0 e1 e2 e3; by_cases hlast : (k : Int) < (r.length : Int) - 1
      ·have HM := Z9 (XW wb mb B cv5 M2 14 0 0 V5 HW6.out (Nat.le_trans H0.out.size HE6.out.size) (by omega))
       obtain ⟨ii0, hii, TI, TH, TG⟩ := info_parts Pg; go_wp2_with fail; refine HM.out.mono ?_; rintro e V7 ⟨rfl, cv7, hW7, hE7⟩; obtain ⟨hS7, hpl⟩ := qH lY.out bV.out hkl HS6.out; have HS7 := Z9 hS7; have HPL := Z9 hpl; have HE7 := Z9 (HE6.out.trans hE7); have lW := Z9 (iN.out.write (by omega) hE7); have HW7 := Z9 hW7; have hsV : V.heap.size <= V7.heap.size := HE7.out.size; clear hS7 hpl hW7 hE7 HM; go_wp2_with (at_builtin; refine wpList_append_lies _ rfl _ _ 101 rfl V.heap.size 3 ii0 (.int .i64 0) 1 8 Tryz.underlying101 hii TI TH TG rfl (by decide) _ (UO L x0 r k).length (WL (UO L x0 r k)) rfl (lW.out.own.alloc _) ⟨V7.heap.size, 0, none⟩ 1 1 [.int .i64 (M2.length : Int)] rfl rfl ?c1 ?c2 (by decide) ?c3 ?c4 ?c5 _ rfl ?_)
       case c1 => exact World.news_of_block (cs := #[.int .i64 (M2.length : Int)]) (ZV V7 _)
       case c2 => intro u hu; simp at hu; subst hu; rfl
       case c3 => unfold maxLen UO; simp; omega
       case c4 => unfold UO; simp; omega
       case c5 => simp; omega
       intro g8 CY w8 M0 U9 CX iM; have hg7 := Z8 V7 (.cells #[.int .i64 (M2.length : Int)] 3); have he8 : UO L x0 r (k + 1) = UO L x0 r k ++ [M2.length] := by
        unfold UO; rw [show min (k + 1) (r.length - 1) = k + 1 by omega, show min k (r.length - 1) = k by omega, List.range_succ, List.map_append, HPL.out]; rfl
       have hap : ∀ j, u8.ownBlock = some j -> cv7.ownBlock ≠ some j := lW.out.apart; have hub := Zw lW.out.own; have iL := Zw HW7.out.own; have hG7 := (H0.out.step HW7.out HE7.out).free hg7; have HW8 : Hid (MH w8 wb mb B cv7 (M2 ++ [⟨14, 0, 0⟩])) := ⟨(U9.block wb (Z6 hG7.st.blk) (fun e => by have := (hub wb e.symm).1; omega)).trans hG7.st.blk, Zx hG7.st.own U9 (fun j hj => hap j hj), hG7.st.lt⟩; have HE8 : Hid (Em wb V w8 cv.ownBlock cv7.ownBlock) := (HE7.out.trans (Em.free hg7)).fresh U9 (fun j hj => (hub j hj).1); have ah : Hid (Us w8 V.heap.size (.slice (some ⟨g8, 0, none⟩) ((UO L x0 r k).length + 1) CY) (UO L x0 r (k + 1)) cv7) := by
        refine ⟨?_, fun j hj e => ?_⟩
        ·rw [he8, Bz, List.length_append, List.length_singleton]; exact M0
        ·cases hj
         rcases CX with e8 | e8
         ·exact hap g8 e8 e
         ·have h9 : g8 < V7.heap.size := (iL _ e).2
          omega
       have HS8 : Hid (QO T L loc x0 r (k + 1) (k + 1) (min (k + 1) (r.length - 1)) 0 (M2 ++ [⟨14, 0, 0⟩])) := by rw [show min (k + 1) (r.length - 1) = k + 1 by omega]; exact HS7.out
       clear hg7 M0 U9 CX hG7 he8 hap hub iL; go_wp2_with fail; go_roundw
       case rel => exact ⟨k + 1, cv7, _, by go_num, by omega, HW8, HE8, HS8, ah⟩
       case measure => simp [intOf]; omega
      ·have iK : Hid (Us V5 V.heap.size u8 (UO L x0 r (k + 1)) cv5) := by
        have : UO L x0 r (k + 1) = UO L x0 r k := by unfold UO; rw [show min (k + 1) (r.length - 1) = min k (r.length - 1) by omega]
        rw [this]; exact iN.out
       have HS8 : Hid (QO T L loc x0 r (k + 1) (k + 1) (min (k + 1) (r.length - 1)) 0 M2) := by rw [show min (k + 1) (r.length - 1) = k by omega]; exact HS6.out
       go_wp2_with fail; go_roundw
       case rel => exact ⟨k + 1, cv5, _, by go_num, by omega, HW6, HE6, HS8, iK⟩
       case measure => simp [intOf]; omega
    ·obtain rfl : k = r.length := by omega
     have hes : (UO L x0 r r.length).length = r.length - 1 := by unfold UO; simp
     obtain ⟨ea, ec, hev⟩ := Yg iP.out.own; rw [hes] at hev; subst hev; have hG := H0.out.step HW.out HE.out; have hS := HS.out; rw [show min r.length (r.length - 1) = r.length - 1 by omega] at hS; have hlen := hS.len; obtain ⟨g, cc, rfl, hgB, cur, hcur⟩ := Oz hG.st.own (by omega); obtain ⟨es, lV⟩ : ∃ es, UO L x0 r r.length = es := ⟨_, rfl⟩; have aac := Z9 lV; rw [lV] at iP hes; have hML : M.length <= 100000 := by rw [hlen, List.take_length]; unfold Vo; omega
     obtain ⟨ml, hml⟩ : ∃ ml, M.length = ml := ⟨_, rfl⟩; have HSM : Hid (M.length = ml /\ QO T L loc x0 r r.length r.length (r.length - 1) 0 M) := ⟨hml, hS⟩; have HWM := HW; rw [hml] at HWM hML; clear hG hS hlen hcur lV hml; go_wp2_with fail; go_loopw [75] (fun i wr => ∃ (m : Nat) (M : List Ins), i = .int .i64 m /\ m <= r.length - 1 /\ Hid (MH wr wb mb B (.slice (some ⟨g, 0, none⟩) ml cc) M) /\ Hid (Em wb V wr cv.ownBlock (some g)) /\ Hid (M.length = ml /\ QO T L loc x0 r r.length r.length (r.length - 1) m M) /\ Hid (Us wr V.heap.size (.slice ea (r.length - 1) ec) es (.slice (some ⟨g, 0, none⟩) ml cc))) (fun i _ => r.length - 1 - (intOf i).toNat)
     case atStart => exact ⟨0, M, rfl, Nat.zero_le _, HWM, HE, HSM, ⟨iP.out.own, iP.out.apart⟩⟩
     case round =>
      obtain ⟨m, M2, rfl, hm, HW2, HE2, HS2, iJ⟩ := hrel; by_cases hml : m < r.length - 1
      ·obtain ⟨hS3, hlt⟩ := vo lY.out bV.out hml HS2.out.2
       have hj := HS2.out.2.jmp m hml; rw [Z7 (Nat.lt_irrefl m)] at hj; have hem : es.getD m 0 = UQ L x0 r m + ZU (r.getD m default) := by
        rw [<- aac.out]; unfold UO; rw [show min r.length (r.length - 1) = r.length - 1 by omega]; simp [List.getD, hml]
       obtain ⟨am, jJ⟩ : ∃ am, UQ L x0 r m + ZU (r.getD m default) = am := ⟨_, rfl⟩; rw [jJ] at hS3 hlt hj hem; rw [HS2.out.1] at hS3 hlt; have hown2 := iJ.out.own; rw [hes] at hown2; obtain ⟨g2, c2, bT, abY, abZ, iI⟩ := Oz hown2 (by omega); obtain rfl : ea = some ⟨g2, 0, none⟩ := by injection bT
       have hec := (RN (i := m) (u := .int .i64 (am : Int)) hown2 (by
        unfold WL; rw [List.getElem?_map, List.getElem?_eq_getElem (by omega), <- hem]; simp [List.getD, hes, hml])).1
       have hW2' : MH wr wb mb B (.slice (some ⟨g, 0, none⟩) M2.length cc) M2 := by rw [HS2.out.1]; exact HW2.out
       obtain ⟨hcell, hfz⟩ := RN hW2'.own (uZ hj); obtain ⟨d0, d1⟩ := V9 HW2.out.blk; have iH := HW2.out.free (Z4 wr); have hp := MH.patch (L := M2) (by rw [HS2.out.1]; exact iH) am (ml : Int) 14 0 ⟨0, hj⟩; rw [HS2.out.1] at hp; have HW3 := Z9 hp.1; have HE3 := Z9 ((HE2.out.trans (Em.free (wb := wb) (r := some g) (Z4 wr))).trans (Em.grown hp.2 (.inl rfl))); have aad := Z9 ((iJ.out.free (Z4 wr)).patch hp.2 rfl); have HS3 : Hid ((M2.set am ⟨14, ml, 0⟩).length = ml /\ QO T L loc x0 r r.length r.length (r.length - 1) (m + 1) (M2.set am ⟨14, ml, 0⟩)) := ⟨by rw [List.length_set]; exact HS2.out.1, hS3⟩; clear hS3 hj hem jJ bT iI hp iH hW2' hown2; go_upto_region 20 with fail; go_region
       all_goals
        clear hcell hfz d0 d1 hec; go_wp2_with fail; go_roundw
        case rel => exact ⟨m + 1, _, by go_num, by omega, HW3, HE3, HS3, aad⟩
        case measure => simp [intOf]; omega
      ·obtain rfl : m = r.length - 1 := by omega
       obtain ⟨f1, f2⟩ := qG (n := n) (s := s) (v := .slice (some ⟨b, off, none⟩) N c) hn2.1 HS2.out.2; have HF : Hid (Wr wb mb B L cv V (ZU (.mk 9 n s (.slice (some ⟨b, off, none⟩) N c) (x0 :: r))) (fun L' => YL L' T loc (.mk 9 n s (.slice (some ⟨b, off, none⟩) N c) (x0 :: r)) L.length) (.returned (.tuple #[])) wr) := ⟨rfl, _, M2, HW2.out, HE2.out, f2, HS2.out.2.pre, f1⟩; clear f1 f2; subst hX0; go_wp2_with fail; go_end0; exact HF.out
theorem zG (caps : Int) (Ze : Int -> Int -> Bool) (T : ByteArray -> Int) (wb mb B B0 : Nat) (x0 : Z0) (r : List Z0) (Hx : UR caps Ze T wb mb B B0 x0) (Hr : ∀ y ∈ r, UR caps Ze T wb mb B B0 y) (n : Int) (s : ByteArray) (a : Option Addr) (N c : Nat) (hN : N = r.length + 1) (loc : Int) (cv : Value) (L : List Ins) (V : World) (h : Wg V wb mb B B0 cv L T) (hx : Y0 B0 V (.mk 9 n s (.slice a N c) (x0 :: r))) (hf : ZI caps Ze loc (.mk 9 n s (.slice a N c) (x0 :: r)) = true) (h0 : 0 <= loc) (hh : loc + YI (x0 :: r) + 1 <= 100000) (hL : L.length + ZU (.mk 9 n s (.slice a N c) (x0 :: r)) <= 100000) :
 Calls Tryz.prog 55 #[.pointer (some ⟨wb, 0, none⟩), .agg #[.int .i64 9, .int .i64 n, .string s, .slice a N c], .int .i64 loc] V (Wr wb mb B L cv V (ZU (.mk 9 n s (.slice a N c) (x0 :: r))) (fun L' => YL L' T loc (.mk 9 n s (.slice a N c) (x0 :: r)) L.length)) := by
 have hg := Z8 V (.cells #[.int .i64 9, .int .i64 n, .string s, .slice a N c] 36)
 have gP := ZV V (.cells #[.int .i64 9, .int .i64 n, .string s, .slice a N c] 36)
 obtain ⟨p0, p1, p2, p3⟩ := ZP gP
 have hE1 := Em.free (wb := wb) (r := cv.ownBlock) hg
 have HE1 := Z9 hE1
 have HX := Z9 (C8 caps Ze T wb mb B B0 x0 r Hx Hr n s a N c hN loc cv L _ (h.free hg) (hx.under (h.below hE1)) hf h0 hh hL)
 clear h hx hf gP hg hE1 Hx Hr hN
 go_in
 go_wp2_with fail
 refine HX.out.mono ?_
 rintro e V2 ⟨rfl, cv', L', hW, hE, h1, h2, h3⟩
 have HR : Hid (Wr wb mb B L cv V (ZU (.mk 9 n s (.slice a N c) (x0 :: r))) (fun L' => YL L' T loc (.mk 9 n s (.slice a N c) (x0 :: r)) L.length) (.returned (.tuple #[])) V2) := ⟨rfl, cv', L', hW, HE1.out.trans hE, h1, h2, h3⟩
 clear hW hE h1 h2 h3 HX
 go_wp2_with fail
 go_end0
 exact HR.out
theorem Ur {op n : Int} {s : ByteArray} {v : Value} {l : List Z0} (h9 : op ≠ 9) : ZU (.mk op n s v l) = ZC l + 1 := by rw [Xx, Z7 h9]
theorem qE (caps : Int) (Ze : Int -> Int -> Bool) (T : ByteArray -> Int) (wb mb B B0 : Nat) (x : Z0) : UR caps Ze T wb mb B B0 x := by
 induction x using Z0.induct with
 | h op n s lv l ih =>
   intro loc cv L V h hx hf h0 hh hL; rw [ZE]; rw [WX] at hh; obtain ⟨a, c, hlv, _⟩ := hx.parts.1; subst hlv; obtain ⟨hfm, hfp⟩ := Za hf; rcases Td hfm with rfl | rfl | rfl | rfl | rfl | rfl | rfl | rfl | rfl | rfl | rfl | rfl | rfl | rfl
   ·have := (NS hfm).1; simp at this
    obtain rfl := this.1; exact zM T wb mb B B0 n s a c loc cv L V h (by omega)
   ·have := (Sd hfm).1; simp at this
    obtain rfl := this.1; exact zL T wb mb B B0 n s a c loc cv L V h (by omega) (by unfold maxLen; omega)
   ·rw [Ur (by decide)] at hL
    exact zK caps Ze T wb mb B B0 l ih n s a c loc cv L V h hx hf h0 (by omega) (by omega)
   ·rw [Ur (by decide)] at hL
    exact zJ caps Ze T wb mb B B0 l ih n s a c loc cv L V h hx hf h0 (by omega) (by omega)
   ·rw [Ur (by decide)] at hL
    exact zI caps Ze T wb mb B B0 l ih n s a c loc cv L V h hx hf h0 (by omega) (by omega)
   ·cases l with
    | nil => have := (Rs hfm).1; unfold Y7 at this; simp at this
    | cons x0 r => exact zG caps Ze T wb mb B B0 x0 r (ih x0 (by simp)) (fun y hy => ih y (by simp [hy])) n s a _ c (by simp) loc cv L V h hx hf h0 (by omega) hL
   ·have hk := TV hfm
    match l, hk with
    | [x, y], _ => exact C9 caps Ze T wb mb B B0 x y (ih x (by simp)) (ih y (by simp)) n s a c loc cv L V h hx hf h0 (by omega) hL
   ·rw [Ur (by decide)] at hL
    exact Dc caps Ze T wb mb B B0 l ih n s a c loc cv L V h hx hf h0 (by omega) (by omega)
   ·have := (O4 hfm).1; simp at this
    obtain rfl := this.1; exact Di T wb mb B B0 n s a c loc cv L V h (by omega)
   ·have := (Qw hfm).1; simp at this
    obtain rfl := this.1; exact Dh T wb mb B B0 n s a c loc cv L V h (by omega)
   ·have := (Mv hfm).1; simp at this
    obtain rfl := this.1; exact Dg T wb mb B B0 n s a c loc cv L V h (by omega)
   ·have := (Qv hfm).1; simp at this
    obtain rfl := this.1; exact Df T wb mb B B0 n s a c loc cv L V h (by omega)
   ·rw [Ur (by decide)] at hL
    exact Db caps Ze T wb mb B B0 l ih n s a c loc cv L V h hx hf h0 (by omega) (by omega)
   ·rw [Ur (by decide)] at hL
    exact Da caps Ze T wb mb B B0 l ih n s a c loc cv L V h hx hf h0 (by omega) (by omega)
end Go.Proofs.YtbcfdebdikgijaaGreatDoor
