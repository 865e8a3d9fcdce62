/- Part of the proof; its texts: Cx1 Cx2 Cy1 Cy2. -/
import Derived.Test.YtbcfdebdikgijaaGreatDoorS10
import Derived.Test.YtbcfdebdikgijaaGreatDoorS12
import Derived.Lib.AppendZeros
set_option maxRecDepth 100000
set_option linter.unusedVariables false
set_option linter.unusedSimpArgs false
set_option maxHeartbeats 4000000
namespace Go.Proofs.YtbcfdebdikgijaaGreatDoor
open Go Go.RowKit
open Go.Maps
def X5 : List ByteArray -> ByteArray -> Option Nat
 | [], _ => none
 | x :: r, s => if x = s then some 0 else (X5 r s).map (· + 1)
theorem Uq : ∀ {l : List ByteArray} {s : ByteArray}, X5 l s = none ↔ s ∉ l
 | [], s => by simp [X5]
 | x :: r, s => by
   unfold X5; by_cases e : x = s
   ·rw [ZY e]; simp [e]
   ·rw [Z7 e]
    have ih := Uq (l := r) (s := s); cases h : X5 r s with
    | none => simp [ih.1 h, Ne.symm e]
    | some i =>
      have h2 : ¬ (s ∉ r) := fun hn => by rw [ih.2 hn] at h; cases h
      have h3 : s ∈ r := by simpa using h2
      simp [h3]
theorem Uo : ∀ {l : List ByteArray} {s : ByteArray} {i : Nat}, X5 l s = some i -> i < l.length /\ l.getD i default = s /\ ∀ j, j < i -> l.getD j default ≠ s
 | [], s, i, h => by cases h
 | x :: r, s, i, h => by
   unfold X5 at h; by_cases e : x = s
   ·rw [ZY e] at h; cases h
    exact ⟨by simp, by simpa using e, fun j hj => by omega⟩
   ·rw [Z7 e] at h
    cases hr : X5 r s with
    | none => rw [hr] at h; cases h
    | some k =>
      rw [hr] at h; simp at h; subst h; obtain ⟨h1, h2, h3⟩ := Uo hr; refine ⟨by simp; omega, by simpa using h2, fun j hj => ?_⟩; cases j with
      | zero => simpa using e
      | succ j => simpa using h3 j (by omega)
theorem uW {l : List ByteArray} {s : ByteArray} {i : Nat} (h1 : i < l.length) (h2 : l.getD i default = s) (h3 : ∀ j, j < i -> l.getD j default ≠ s) : X5 l s = some i := by
 cases h : X5 l s with
 | none => exact absurd (h2 ▸ (by rw [show l.getD i default = l[i] by simp [List.getD, h1]]; exact List.getElem_mem h1)) (Uq.1 h)
 | some k =>
   obtain ⟨k1, k2, k3⟩ := Uo h; rcases (by omega : k < i \/ k = i \/ i < k) with g | g | g
   ·exact absurd k2 (h3 k g)
   ·rw [g]
   ·exact absurd h2 (k3 i g)
theorem PL (l : List ByteArray) (x s : ByteArray) : X5 (l ++ [x]) s = (X5 l s).or (if x = s then some l.length else none) := by
 induction l with
 | nil => simp [X5]
 | cons y r ih =>
   rw [List.cons_append]; unfold X5; by_cases e : y = s
   ·simp [e]
   ·rw [Z7 e, Z7 e, ih]
    cases X5 r s with
    | none => by_cases hx : x = s <;> simp [hx]
    | some i => simp
def Ux (ts : List ByteArray) (s : ByteArray) : Int := ((X5 ts s).getD 0 : Nat)
def SA (s : ByteArray) : Lit := .string s.data.toList
theorem Ls (s : ByteArray) : WideAt.IsKeyLit (SA s) := trivial
theorem AQ {s t : ByteArray} (h : s ≠ t) : SA s ≠ SA t := fun e => h (by
 unfold SA at e
 injection e with e
 cases s; cases t
 simp at e
 rw [ByteArray.mk.injEq]
 exact e)
def Q0 (V : World) (mb : Nat) (ts : List ByteArray) (k : Nat) : Prop :=
 ∃ (n : Nat) (D : DataW Unit), n <= k /\ V.ownsMap Tryz.prog 9 (plainElem Tryz.prog 3) mb n D /\ ∀ s : ByteArray, Maps.has D (SA s) = (X5 (ts.take k) s).isSome /\ ∀ i, X5 (ts.take k) s = some i -> D.atKey (SA s) (.lit (.int .i64 0)) = .lit (.int .i64 (i : Int))
theorem Q0.start {V : World} (ts : List ByteArray) : Q0 (V.alloc (.map #[] 0)) V.heap.size ts 0 :=
 ⟨0, .map [], Nat.le_refl _, World.ownsMap_made V _ _ _, fun s => ⟨by rw [List.take_zero]; rfl, fun i h => by rw [List.take_zero] at h; cases h⟩⟩
theorem Q0.stays {V V' : World} {mb : Nat} {ts : List ByteArray} {k : Nat} (h : Q0 V mb ts k) (e : V'.heap[mb]? = V.heap[mb]?) : Q0 V' mb ts k := by
 obtain ⟨n, D, hn, ⟨es, clock, hb, hr⟩, hat⟩ := h
 exact ⟨n, D, hn, ⟨es, clock, e.trans hb, hr⟩, hat⟩
theorem Q0.look {V : World} {mb : Nat} {ts : List ByteArray} {k : Nat} (h : Q0 V mb ts k) (s : ByteArray) (hs : s.size <= maxLen) : ∃ c, (Instr.lookup 118 (.map (some mb)) (.string s) true).run Tryz.prog V = .ok (.tuple #[.int .i64 c, .bool (X5 (ts.take k) s).isSome]) V := by
 obtain ⟨n, D, hn, hown, hat⟩ := h
 obtain ⟨v, ps, hrun, hv⟩ := hown.look_ok RP Tryz.underlying118 (OE V) (plainElem_int Tryz.underlying3 (by decide)) (WideMaps.keyOf_string_mk Tryz.underlying9 hs)
 obtain ⟨c, rfl, hc, _⟩ := plainElem_int_inv Tryz.underlying3 hv
 refine ⟨c, hrun.trans ?_⟩
 rw [show Maps.has D (.string s.data.toList) = _ from (hat s).1]
theorem Q0.same {V : World} {mb : Nat} {ts : List ByteArray} {k : Nat} (h : Q0 V mb ts k) (hk : k < ts.length) (hm : (X5 (ts.take k) (ts.getD k default)).isSome = true) : Q0 V mb ts (k + 1) := by
 obtain ⟨n, D, hn, hown, hat⟩ := h
 refine ⟨n, D, by omega, hown, fun s => ?_⟩
 have : X5 (ts.take (k + 1)) s = X5 (ts.take k) s := by
  rw [take_one default ts k hk, PL]; by_cases e : ts.getD k default = s
  ·subst e
   cases h : X5 (ts.take k) (ts.getD k default) with
   | none => rw [h] at hm; cases hm
   | some i => rfl
  ·rw [Z7 e, Option.or_none]
 rw [this]; exact hat s
theorem Q0.put {V : World} {mb : Nat} {ts : List ByteArray} {k : Nat} (h : Q0 V mb ts k) (hk : k < ts.length) (hk2 : k <= 1000000) (hm : (X5 (ts.take k) (ts.getD k default)).isSome = false) (hs : (ts.getD k default).size <= maxLen) :
 ∃ V', (Instr.mapUpdate 118 (.map (some mb)) (.string (ts.getD k default)) (.int .i64 (k : Int))).run Tryz.prog V = .ok () V' /\ Q0 V' mb ts (k + 1) /\ V.grownBy V' (some mb) := by
 obtain ⟨n, D, hn, hown, hat⟩ := h
 obtain ⟨V', hrun, hown', hg⟩ := hown.update RP Tryz.underlying118 (by unfold maxLen; omega) (WideMaps.keyOf_string_mk Tryz.underlying9 hs) (plainElem_int Tryz.underlying3 (a := (k : Int)) (WalkArith.wf_i64 (by omega)))
 refine ⟨V', hrun, ⟨n + 1, _, by omega, hown', fun s => ?_⟩, hg⟩
 have hno : ts.getD k default ∉ ts.take k := Uq.1 (by cases h : X5 (ts.take k) (ts.getD k default) with | none => rfl | some i => rw [h] at hm; cases hm)
 have hD := hown.isMap
 have hlen : (ts.take k).length = k := by rw [List.length_take]; omega
 rw [take_one default ts k hk, PL, hlen]
 by_cases e : ts.getD k default = s
 ·subst e
  rw [Uq.2 hno, ZY rfl]; exact ⟨has_put_same hD (Ls _) _, fun i hi => by cases hi; exact atKey_put_same hD (Ls _) _ _⟩
 ·have hne : SA s ≠ SA (ts.getD k default) := AQ (Ne.symm e)
  have h1 : Maps.has (D.put (SA (ts.getD k default)) (.lit (.int .i64 (k : Int)))) (SA s) = Maps.has D (SA s) := has_put_other hne _; have h2 : (D.put (SA (ts.getD k default)) (.lit (.int .i64 (k : Int)))).atKey (SA s) (.lit (.int .i64 0)) = D.atKey (SA s) (.lit (.int .i64 0)) := atKey_put_other hne _ _; have h3 : (X5 (ts.take k) s).or (if ts.getD k default = s then some k else none) = X5 (ts.take k) s := by rw [Z7 e, Option.or_none]
  rw [h3]; exact ⟨h1.trans (hat s).1, fun i hi => h2.trans ((hat s).2 i hi)⟩
theorem Q0.done {V : World} {mb : Nat} {ts : List ByteArray} (h : Q0 V mb ts ts.length) : Tp V mb (Ux ts) := by
 obtain ⟨n, D, hn, hown, hat⟩ := h
 refine ⟨n, D, hown, fun s _ => ?_⟩
 obtain ⟨h1, h2⟩ := hat s
 rw [List.take_length] at h1 h2
 cases h : X5 ts s with
 | none =>
   rw [h] at h1
   show D.atKey (SA s) _ = _
   rw [atKey_of_not_has h1]; unfold Ux; rw [h]; rfl
 | some i =>
   show D.atKey (SA s) _ = _
   rw [h2 i h]; unfold Ux; rw [h]; rfl
def iC (ts : List ByteArray) (f : ZJ) (w : World) (e : Ending) (w' : World) : Prop :=
 ∃ (code : List Ins) (d : Int) (cv : Value), e = .returned (.tuple #[.agg #[.int .i64 f.caps, .int .i64 (Xm 1 f.body), .int .i64 d, cv], .int .i64 0]) /\ VE w' cv code /\ Whole code (Ux ts) f.body /\ TA code d 0 /\ Below w.heap.size w w' /\ ∀ g, cv.ownBlock = some g -> w.heap.size <= g
theorem uV {M : List Ins} {T : ByteArray -> Int} {x : Z0} (hw : Tw x) (h : YL M T 1 x 0) (hl : M.length = ZU x) : Whole (M ++ [⟨9, 0, 0⟩]) T x := by
 refine ⟨XB x hw _ _ h fun i _ hi => List.getElem?_append_left (by omega), by simp [hl], ?_⟩
 rw [<- hl, List.getElem?_append_right (Nat.le_refl _), Nat.sub_self]; rfl
theorem zB (B : Nat) (fl : List ZJ) (hl : fl.length <= 4096) (SQ : ∀ f ∈ fl, 0 <= f.caps /\ f.caps <= 1000) (f : ZJ) (tv : Value) (ts : List ByteArray) (w : World) (hBw : B <= w.heap.size) (hx : Y0 B w f.body) (hf : V6 (YM fl) f = true) (hs : YO f.body <= 600) (hh : Y5 f.body <= 211) (ht : Xv w tv ts) (htl : ts.length <= 1000000) (hts : ∀ s ∈ ts, s.size <= maxLen) :
 Calls Tryz.prog 23 #[TJ f, tv] w (iC ts f w) := by
 have hmm := @run_makeMap Tryz.prog
 have hfx : ZI f.caps (YM fl) 1 f.body = true := by have := hf; unfold V6 at this; rw [Bool.and_eq_true] at this; exact this.2
 have HFX := Z9 hfx
 have lY := Z9 (Tq _ _ hfx)
 have hcl := BA f.body
 have hlg := Rn f.body 1
 have hll := LA f.body 1
 have nW : 1 <= Xm 1 f.body /\ Xm 1 f.body <= 300 := ⟨hlg, by omega⟩
 have iO : ZU f.body <= 1800 := by omega
 have bW := Z9 (fun (V : World) (iR : B <= V.heap.size) (iQ : Y0 B V f.body) => FT B fl hl SQ f V iR iQ hf hs hh)
 have AP := Z9 (fun (mb : Nat) (hmb : B <= mb) => qE f.caps (YM fl) (Ux ts) (mb + 1) mb (mb + 1 + 1) B f.body)
 have HT := Z9 ht
 have rD := Z9 hts
 have HX := Z9 hx
 obtain ⟨ta, tc, rfl, htc, _⟩ := ht
 obtain ⟨caps, ⟨op, n, s, lv, l⟩⟩ := f
 obtain ⟨la, lc, hlv, _⟩ := hx.parts.1
 subst hlv
 rw [show TJ ⟨caps, .mk op n s (.slice la l.length lc) l⟩ = .agg #[.int .i64 caps, .int .i64 op, .int .i64 n, .string s, .slice la l.length lc] from rfl] at *
 have hb : Below w.heap.size w ((w.alloc (.cells #[.int .i64 caps, .int .i64 op, .int .i64 n, .string s, .slice la l.length lc] 38)).alloc (.cells #[.int .i64 0, .int .i64 0, .int .i64 0, .slice none 0 0] 53)) := ((Below.refl _ _).alloc (Nat.le_refl _) _).alloc (by simp) _
 have gP : ((w.alloc (.cells #[.int .i64 caps, .int .i64 op, .int .i64 n, .string s, .slice la l.length lc] 38)).alloc (.cells #[.int .i64 0, .int .i64 0, .int .i64 0, .slice none 0 0] 53)).heap[w.heap.size]? = some (.cells #[.int .i64 caps, .int .i64 op, .int .i64 n, .string s, .slice la l.length lc] 38 (0, 0)) := (Below.heap_alloc _ _ _ (by simp)).trans (ZV w _)
 have gR : ((w.alloc (.cells #[.int .i64 caps, .int .i64 op, .int .i64 n, .string s, .slice la l.length lc] 38)).alloc (.cells #[.int .i64 0, .int .i64 0, .int .i64 0, .slice none 0 0] 53)).heap[w.heap.size + 1]? = some (.cells #[.int .i64 0, .int .i64 0, .int .i64 0, .slice none 0 0] 53 (0, 0)) := (congrArg _ (by simp)).trans (ZV (w.alloc _) _)
 change 1 <= Xm 1 (.mk op n s (.slice la l.length lc) l) /\ Xm 1 (.mk op n s (.slice la l.length lc) l) <= 300 at nW
 change ZU (.mk op n s (.slice la l.length lc) l) <= 1800 at iO
 have Kr : Hid (YO (.mk op n s (.slice la l.length lc) l) <= 600 /\ Y5 (.mk op n s (.slice la l.length lc) l) <= 211) := ⟨hs, hh⟩
 obtain ⟨lx, hlx⟩ : ∃ lx, Xm 1 (.mk op n s (.slice la l.length lc) l) = lx := ⟨_, rfl⟩
 have HLX := Z9 hlx
 rw [hlx] at nW
 clear hlx hx hf hs hh hts hfx hlg hll hcl SQ hl
 go_in
 go_upto_region 1 with fail
 generalize ((w.alloc (.cells #[.int .i64 caps, .int .i64 op, .int .i64 n, .string s, .slice la l.length lc] 38)).alloc (.cells #[.int .i64 0, .int .i64 0, .int .i64 0, .slice none 0 0] 53)) = W at *
 obtain ⟨p0, p1, p2, p3, p4⟩ := XR gP
 have HL := Z9 (bW.out W (by have := hb.size; omega) (HX.out.under (hb.mono hBw)))
 rw [show (⟨caps, .mk op n s (.slice la l.length lc) l⟩ : ZJ).body = .mk op n s (.slice la l.length lc) l from rfl, HLX.out] at HL
 go_wp2_with fail
 refine HL.out.mono ?_
 rintro e w2 ⟨rfl, hb2⟩
 have gP2 := (hb2.block _ (Z6 gP)).trans gP
 have gR2 := (hb2.block _ (Z6 gR)).trans gR
 have hbb := hb.trans (hb2.mono hb.size)
 clear gP gR hb hb2 p0 p1 p2 p3 p4 HL
 go_wp2_with fail
 generalize hw3 : (w2.alloc (.map #[] 0)) = w3
 generalize hw4 : (w3.alloc (.cells #[.slice none 0 0, .map (some w2.heap.size)] 120)) = w4
 have hg1 : w2.grownBy w3 none := hw3 ▸ Z8 w2 _
 have hg2 : w3.grownBy w4 none := hw4 ▸ Z8 w3 _
 have hz3 : w3.heap.size = w2.heap.size + 1 := by subst hw3; simp
 have hz4 : w4.heap.size = w2.heap.size + 1 + 1 := by subst hw4; simp [hz3]
 have gW4 : w4.heap[w2.heap.size + 1]? = some (.cells #[.slice none 0 0, .map (some w2.heap.size)] 120 (0, 0)) := by subst hw4; rw [<- hz3]; exact ZV w3 _
 have hM3 : Q0 w3 w2.heap.size ts 0 := hw3 ▸ Q0.start ts
 have HM4 := Z9 (hM3.stays (hg2.block _ (by omega) (by nofun)))
 clear hw3 hw4 hM3
 have hl0 := hbb.size
 have hl1 := Z6 gP2
 have hl2 := Z6 gR2
 have hgN := VD hg1 hg2
 have gP4 := (hgN.block _ hl1 (by nofun)).trans gP2
 have gR4 := (hgN.block _ hl2 (by nofun)).trans gR2
 have HB4 := Z9 (hbb.trans (ZX (B := w.heap.size) hgN hl0 (by nofun)))
 have hBz : w2.heap.size + 1 + 1 <= w4.heap.size := by omega
 have uU := Z9 gP4
 have qA := Z9 gR4
 have iB := Z9 gW4
 clear hg1 hg2 gW4 hgN gP2 gR2 hbb gP4 gR4 bW
 generalize w2.heap.size = wm at *
 clear hz3 hz4
 go_loopw [27] (fun i wr => ∃ k : Nat, k <= ts.length /\ i = .int .i64 k /\ Hid (Q0 wr wm ts k) /\ Hid (w4.grownBy wr (some wm))) (fun i _ => ts.length - (intOf i).toNat)
 case atStart => exact ⟨0, Nat.zero_le _, rfl, HM4, ⟨rfl, rfl, rfl, Nat.le_refl _, fun _ _ _ => rfl⟩⟩
 case round =>
  obtain ⟨k, hk, rfl, HM, HG⟩ := hrel; have hBr : Below w.heap.size w wr := HB4.out.trans (ZX (B := w.heap.size) HG.out HB4.out.size (fun j hj => by cases hj; omega)); have gWr := (HG.out.block _ (Z6 iB.out) (by simp)).trans iB.out; have hzr := HG.out.size; by_cases hkl : k < ts.length
  ·obtain ⟨d0, d1⟩ := V9 gWr
   have ht2 : Xv wr (.slice ta ts.length tc) ts := Xe.below HT.out hBr; obtain ⟨tb, FJ, tc', zA, _, _, t0⟩ := Vj ht2 k hkl; obtain rfl := (Value.slice.inj zA).1; have hsz := rD.out _ (Zr default ts k hkl); obtain ⟨c, QN⟩ := HM.out.look (ts.getD k default) hsz; have FI := Z9 (HM.out.same hkl); have zy := Z9 (fun hm => HM.out.put hkl (by omega) hm hsz); obtain ⟨bb, hbb⟩ : ∃ bb, (X5 (ts.take k) (ts.getD k default)).isSome = bb := ⟨_, rfl⟩; rw [hbb] at QN FI zy; generalize ts.getD k default = x at *; clear zA ht2 hbb hsz; cases bb
   ·obtain ⟨V', hput, hM2, hg2⟩ := zy.out rfl
    have HM2 := Z9 hM2; have HG2 := Z9 (both HG.out hg2); clear hM2 hg2; go_wp2_with fail; go_roundw
    case rel => exact ⟨k + 1, by omega, by go_num, HM2, HG2⟩
    case measure => simp [intOf]; omega
   ·have HM2 := Z9 (FI.out rfl)
    go_wp2_with fail; go_roundw
    case rel => exact ⟨k + 1, by omega, by go_num, HM2, HG⟩
    case measure => simp [intOf]; omega
  ·obtain rfl : k = ts.length := by omega
   have hT := HM.out.done; have Qd := (HG.out.block _ (Z6 uU.out) (by simp; omega)).trans uU.out; have uT := (HG.out.block _ (Z6 qA.out) (by simp; omega)).trans qA.out; have vB : Wg wr (wm + 1) wm (wm + 1 + 1) B (.slice none 0 0) [] (Ux ts) := ⟨⟨gWr, World.ownsRow_nil _ _ _ _, Nat.lt_succ_self _⟩, hT, by omega, Nat.lt_succ_self _, by omega⟩; have HWg := Z9 vB; have iA := Z9 (AP.out wm (by omega) 1 _ [] wr vB (HX.out.under (hBr.mono hBw)) HFX.out (by omega) (by have h1 := Kr.out.2; show 1 + (Y5 (.mk op n s (.slice la l.length lc) l) : Int) <= 100000; omega) (by show 0 + ZU (.mk op n s (.slice la l.length lc) l) <= 100000; omega)); rw [ZE] at iA; have HBr := Z9 hBr; obtain ⟨p0, p1, p2, p3, p4⟩ := XR Qd; clear vB hT hBr gWr AP; go_wp2_with fail; refine iA.out.mono ?_; rintro e w5 ⟨rfl, cv5, L5, hW5, hE5, hl5, _, hc5⟩; have gP5 := (hE5.kept _ (Z6 Qd) (by omega) (by nofun)).trans Qd; have gR5 := (hE5.kept _ (Z6 uT) (by omega) (by nofun)).trans uT; have hs5 := hE5.size; have hb5 := HBr.out.trans (hE5.below (B := w.heap.size) (by omega) (by omega) (by nofun)); have qz := Zw hW5.own; have HM := Z9 (XW (wm + 1) wm (wm + 1 + 1) cv5 L5 9 0 0 w5 hW5 (by omega) (by rw [hl5]; show 0 + _ <= _; omega)); have hl5' : L5.length = ZU (.mk op n s (.slice la l.length lc) l) := by rw [hl5]; show 0 + _ = _; omega
   have HWH := Z9 (uV lY.out hc5 hl5'); clear p0 p1 p2 p3 p4 Qd uT hE5 hW5 iA hc5 hl5; go_wp2_with fail; refine HM.out.mono ?_; rintro e w6 ⟨rfl, cv6, hW6, hE6⟩; have gP6 := (hE6.kept _ (Z6 gP5) (by omega) (fun e => by have := (qz _ e).1; omega)).trans gP5; have gR6 := (hE6.kept _ (Z6 gR5) (by omega) (fun e => by have := (qz _ e).1; omega)).trans gR5; have hs6 := hE6.size; have hb6 := hb5.trans (hE6.below (B := w.heap.size) (by omega) (by omega) (fun k e => by have := (qz _ e).1; omega)); obtain ⟨code, hcode⟩ : ∃ code, L5 ++ [⟨9, 0, 0⟩] = code := ⟨_, rfl⟩; have aag : code.length <= 2000 := by rw [<- hcode, List.length_append, hl5']; simp; omega
   rw [hcode] at hW6 HWH; have hI6 : VE w6 cv6 code := Xn hW6.own; have hd6 := NM cv6 code w6 hI6 (by omega); have gW6 := hW6.blk; have HI6 := Z9 hI6; have HO6 := Z9 hW6.own; obtain ⟨ca, cc, rfl, _⟩ := hI6; have HD := Z9 hd6; obtain ⟨s0, s1⟩ := V9 gW6; clear hd6 hE6 hW6 HM gP5 gR5 hb5 qz hcode; go_wp2_with fail; refine HD.out.mono ?_; rintro e w7 ⟨r, er, rfl, DF, hb7⟩; obtain ⟨he0, hr0, hr1⟩ := L6 HFX.out HWH.out DF; subst he0; have hr2 : r <= 700 := by
    have := Kr.out.1; have h2 : r <= (YO (.mk op n s (.slice la l.length lc) l) : Int) + 1 := hr1; omega
   have gP7 := (hb7.block _ (Z6 gP6)).trans gP6; have gR7 := (hb7.block _ (Z6 gR6)).trans gR6; have gW7 := (hb7.block _ (Z6 gW6)).trans gW6; have hbe := hb6.trans (hb7.mono hb6.size); have HO7 := Z9 (Zx HO6.out (Yf hb7) (by nofun)); have aah := Z9 DF; clear gP6 gR6 gW6 s0 s1 hb6 hb7 HD DF hr1; obtain ⟨p0, p1, p2, p3, p4⟩ := XR gP7; obtain ⟨s0, s1⟩ := V9 gW7; have hfz : w7.frozen? ⟨w.heap.size + 1, 0, none⟩ = false := Lib.frozen_of_heap gR7 0; obtain ⟨q0, q1, q2, q3⟩ := WQ gR7; obtain ⟨cn, hcn⟩ : ∃ cn, code.length = cn := ⟨_, rfl⟩; rw [hcn] at aag; have HCN := Z9 hcn; go_upto_region 17 with fail; obtain ⟨gr, hgr⟩ := mF gR7 (.int .i64 caps) (.int .i64 lx) (.int .i64 r) (.slice ca cn cc); have hbf := hbe.trans (ZX (B := w.heap.size) hgr (by have := hbe.size; omega) (fun k hk => by cases hk; omega)); have DC : w7.frozen? ⟨w.heap.size + 1, 1, none⟩ = false := Lib.frozen_of_heap gR7 1; have Dz : w7.frozen? ⟨w.heap.size + 1, 2, none⟩ = false := Lib.frozen_of_heap gR7 2; have jg : w7.frozen? ⟨w.heap.size + 1, 3, none⟩ = false := Lib.frozen_of_heap gR7 3; have HG := Z9 gr; have qy := Z9 hbf; have HIF : Hid (VE (((((w7.setCell ⟨w.heap.size + 1, 0, none⟩ (.int .i64 caps)).setCell ⟨w.heap.size + 1, 1, none⟩ (.int .i64 lx)).setCell ⟨w.heap.size + 1, 2, none⟩ (.int .i64 r)).setCell ⟨w.heap.size + 1, 3, none⟩ (.slice ca cn cc)).drew) (.slice ca cn cc) code) := Xe.below (by have h := Xn (Zx HO7.out hgr (fun k hk e => by cases hk; have := (Zw HO7.out _ e).1; omega)); rw [hcn] at h; rw [hcn]; exact h) (Below.refl _ _).drew; clear hgr hbe gr hbf; go_region
   all_goals go_wp2_with fail
   all_goals
    have hg1 := HG.out; refine Y4 (v := .tuple #[.agg #[.int .i64 caps, .int .i64 lx, .int .i64 r, .slice ca cn cc], .int .i64 0]) ?_ rfl ⟨code, r, .slice ca cn cc, by rw [<- HLX.out], HIF.out, HWH.out, aah.out, qy.out.drew, fun g hg => by have := (Zw HO7.out g (by rw [hcn]; exact hg)).1; omega⟩; rw [results_cell_tmp (p := 4) (u := 5) (ty := 53) rfl]; simp [asAddr, run_loadVar_row (((((w7.setCell { block := w.heap.size + 1, off := 0 } (Value.int IntKind.i64 caps)).setCell
     { block := w.heap.size + 1, off := 1 } (Value.int IntKind.i64 lx)).setCell
     { block := w.heap.size + 1, off := 2 } (Value.int IntKind.i64 r)).setCell
     { block := w.heap.size + 1, off := 3 } (Value.slice ca cn cc)).drew) _ _ _ _ _ _ hg1 Tryz.underlying53 rfl LG, Result.andThen]
    try rfl
mutual
def YK : Z0 -> List ByteArray
 | .mk op _ s _ l => if op = 3 then [s] else YW l
def YW : List Z0 -> List ByteArray
 | [] => []
 | x :: r => YK x ++ YW r
end
theorem X0 : YW [] = [] := by rw [YW]
theorem YZ (x : Z0) (r : List Z0) : YW (x :: r) = YK x ++ YW r := by rw [YW]
theorem YG (op n : Int) (s : ByteArray) (v : Value) (l : List Z0) : YK (.mk op n s v l) = if op = 3 then [s] else YW l := by rw [YK]
theorem QM (x : Z0) (l : List Z0) : YW (l ++ [x]) = YW l ++ YK x := by
 induction l with
 | nil => rw [List.nil_append, YZ, X0]; simp
 | cons y l ih => rw [List.cons_append, YZ, YZ, ih]; simp
theorem Un (l : List Z0) (h : ∀ y ∈ l, (YK y).length <= YO y) : (YW l).length <= Yv l := by
 induction l with
 | nil => rw [X0, VP]; simp
 | cons x r ih => rw [YZ, X6, List.length_append]; have := h x (by simp); have := ih fun y hy => h y (by simp [hy]); omega
theorem Tg (x : Z0) : (YK x).length <= YO x := by
 induction x using Z0.induct with
 | h op n s lv l ih =>
   rw [YG, Wv]; split
   ·simp
   ·have := Un l ih; omega
def Tn (V : World) (B : Nat) (lv : Value) (acc : List ByteArray) : Prop := V.ownsRow B 9 1 lv acc.length (strCells acc) /\ (acc = [] -> lv = .slice none 0 0)
theorem Tn.grown {V V' : World} {B : Nat} {lv : Value} {acc : List ByteArray} {r : Option Nat} (h : Tn V B lv acc) (hg : V.grownBy V' r) (hr : ∀ k, r = some k -> lv.ownBlock ≠ some k) : Tn V' B lv acc := ⟨Zx h.1 hg hr, h.2⟩
theorem Tn.texts {V : World} {B : Nat} {lv : Value} {acc : List ByteArray} (h : Tn V B lv acc) : Xv V lv acc := Xn h.1
theorem Tn.nil (V : World) (B : Nat) : Tn V B (.slice none 0 0) [] := ⟨World.ownsRow_nil _ _ _ _, fun _ => rfl⟩
def Tk (w : World) (r r' : Option Nat) : Prop := r' = r \/ ∃ g, r' = some g /\ w.heap.size <= g
theorem CO {a b c : World} {r s : Option Nat} (h : a.grownBy b r) (hs : Tk a r s) (k : b.grownBy c s) : a.grownBy c r :=
 ⟨k.os.trans h.os, k.tape.trans h.tape, k.output.trans h.output, Nat.le_trans h.size k.size, fun q hq hr => (k.block q (Nat.lt_of_lt_of_le hq h.size) (fun e => by
   rcases hs with e2 | ⟨g, e2, hg⟩
   ·rw [e2] at e; exact hr e
   ·rw [e2] at e; cases e; omega)).trans (h.block q hq hr)⟩
theorem Tk.trans {a b : World} {r s t : Option Nat} (h : Tk a r s) (k : Tk b s t) (hs : a.heap.size <= b.heap.size) : Tk a r t := by
 rcases k with e | ⟨g, e, hg⟩
 ·rw [e]; exact h
 ·exact .inr ⟨g, e, Nat.le_trans hs hg⟩
def iw (B1 : Nat) (acc new : List ByteArray) (lv : Value) (w : World) (e : Ending) (w' : World) : Prop :=
 ∃ bR, e = .returned bR /\ Tn w' B1 bR (acc ++ new) /\ w.grownBy w' lv.ownBlock /\ Tk w lv.ownBlock bR.ownBlock
theorem VN (l : List ByteArray) (s : ByteArray) : strCells (l ++ [s]) = strCells l ++ [.string s] := by simp [strCells]
theorem FH (B B1 : Nat) (hB1 : B <= B1) (x : Z0) : ∀ (lv : Value) (acc : List ByteArray) (w : World), B1 <= w.heap.size -> Y0 B w x -> Tn w B1 lv acc -> acc.length + YO x <= 100000 ->
 Calls Tryz.prog 51 #[lv, Ws x] w (iw B1 acc (YK x) lv w) := by
 induction x using Z0.induct with
 | h op n s xv l ih =>
   intro lv acc w hBw hx hO hsz; rw [ZE]; have SC := Z9 ih; obtain ⟨hr, hm, hy⟩ := hx.parts; have HY := Z9 hy; have HR := Z9 hr; have hm' : l.length <= 9223372036854775807 := by unfold maxLen at hm; omega
   rw [Wv] at hsz; obtain ⟨a, c, rfl, hlc, _⟩ := hr; obtain ⟨oa, oc, rfl⟩ := Yg hO.1; have hown0 := Zw hO.1; have hg1 := Z8 w (.cells #[.int .i64 op, .int .i64 n, .string s, .slice a l.length c] 36); have gP := ZV w (.cells #[.int .i64 op, .int .i64 n, .string s, .slice a l.length c] 36); obtain ⟨p0, p1, p2, p3⟩ := ZP gP; have HO1 := Z9 (hO.grown hg1 (by nofun)); have HG1 := Z9 (YA hg1 (Value.slice oa acc.length oc).ownBlock); have WO := Z9 gP; have hsz1 := hg1.size; clear ih hx hy hm gP hO hg1; by_cases h3 : op = 3
   ·subst h3
    obtain ⟨is0, his, Qc, PK, Qb⟩ := info_parts S9; generalize hW0 : w.alloc (.cells #[.int .i64 3, .int .i64 n, .string s, .slice a l.length c] 36) = W at *; have hst : YK (.mk 3 n s (.slice a l.length c) l) = [s] := by rw [YG, ZY rfl]
    rw [hst]; clear hst; go_in; go_wp2_with (at_builtin; refine wpList_append_lies _ rfl _ _ 27 rfl B1 9 is0 (.string ByteArray.empty) 1 16 Tryz.underlying27 his Qc PK Qb rfl (by decide) _ acc.length (strCells acc) rfl (HO1.out.1.alloc _) ⟨W.heap.size, 0, none⟩ 1 1 [.string s] rfl rfl ?c1 ?c2 (by decide) ?c3 ?c4 ?c5 _ rfl ?_)
    case c1 => exact World.news_of_block (cs := #[.string s]) (ZV W _)
    case c2 => intro u hu; simp at hu; subst hu; rfl
    case c3 => unfold maxLen; omega
    case c4 => omega
    case c5 => simp; omega
    intro g cap w4 Vl WS OO Kv; have hg3 := Z8 W (.cells #[.string s] 9); have HG4 := Z9 (both (both HG1.out (YA hg3 _)) WS); have HO4 : Hid (Tn w4 B1 (.slice (some ⟨g, 0, none⟩) (acc.length + 1) cap) (acc ++ [s])) := ⟨by rw [VN, List.length_append, List.length_singleton]; exact Vl, fun e => by simp at e⟩; have HF4 : Hid (Tk w (Value.slice oa acc.length oc).ownBlock (Value.slice (some ⟨g, 0, none⟩) (acc.length + 1) cap).ownBlock) := by
     rcases OO with e | e
     ·exact .inl e.symm
     ·exact .inr ⟨g, rfl, by omega⟩
    clear hg3 Vl WS OO; go_wp2; go_ret; exact ⟨_, rfl, HO4.out, HG4.out, HF4.out⟩
   ·have hst : YK (.mk op n s (.slice a l.length c) l) = YW l := by rw [YG, Z7 h3]
    rw [hst]; clear hst; have h3' : (op == 3) = false := Zt h3; have HF1 : Hid (Tk w (Value.slice oa acc.length oc).ownBlock (Value.slice oa acc.length oc).ownBlock) := .inl rfl; go_in; go_wp2_with fail; generalize w.alloc (.cells #[.int .i64 op, .int .i64 n, .string s, .slice a l.length c] 36) = W at *; go_loopw [0, 18] (fun lv i wr => ∃ (k : Nat), k <= l.length /\ i = .int .i64 k /\ Hid (Tn wr B1 lv (acc ++ YW (l.take k))) /\ Hid (w.grownBy wr (Value.slice oa acc.length oc).ownBlock) /\ Hid (Tk w (Value.slice oa acc.length oc).ownBlock lv.ownBlock)) (fun _ i _ => l.length - (intOf i).toNat)
    case atStart => exact ⟨0, Nat.zero_le _, rfl, by rw [List.take_zero, X0, List.append_nil]; exact HO1, HG1, HF1⟩
    case round =>
     obtain ⟨k, hk, rfl, HO, HG, HF⟩ := hrel; by_cases hkl : k < l.length
     ·have Rx : Below B w wr := ZX HG.out (by omega) (fun j hj => by have := (hown0 j hj).1; omega)
      obtain ⟨b, off, rfl, vK, c0, c1, c2, c3⟩ := XY HR.out Rx k hkl; have hmem := Zr default l k hkl; have hsy := RS hmem; have HT := Z9 (show YW (l.take (k + 1)) = YW (l.take k) ++ YK (l.getD k default) from by rw [take_one default l k hkl, QM]); have hyk := (HY.out _ hmem).under Rx; have hih := SC.out _ hmem; have hlen : (acc ++ YW (l.take k)).length + YO (l.getD k default) <= 100000 := by
       have h1 := Un (l.take k) fun y _ => Tg y
       have h2 := V8 l (k + 1); rw [take_one default l k hkl, VB] at h2; rw [List.length_append]; omega
      clear hmem; generalize l.getD k default = x at *; obtain ⟨xo, xn, xs, xv, xl⟩ := x; obtain ⟨xa, xc, rfl, _⟩ := hyk.parts.1; simp only [Z0.op, Z0.n, Z0.s, Z0.lv] at c0 c1 c2 c3; have hg3 := Z8 wr (.cells #[.int .i64 xo, .int .i64 xn, .string xs, .slice xa xl.length xc] 36); have gX := ZV wr (.cells #[.int .i64 xo, .int .i64 xn, .string xs, .slice xa xl.length xc] 36); obtain ⟨e0, e1, e2, e3⟩ := ZP gX; have CK := HG.out.size; have HM := Z9 (hih u0 _ (wr.alloc (.cells #[.int .i64 xo, .int .i64 xn, .string xs, .slice xa xl.length xc] 36)) (by have := hg3.size; omega) (hyk.grown hg3 (by omega) (by nofun)) (HO.out.grown hg3 (by nofun)) hlen); have HG2 := Z9 (both HG.out (YA hg3 _)); have lS := hg3.size; rw [ZE] at HM; clear hih hyk gX hg3 hlen; go_wp2_with fail; refine HM.out.mono ?_; rintro e w2 ⟨lv2, rfl, hO2, hg4, hf4⟩; have HO2 : Hid (Tn w2 B1 lv2 (acc ++ YW (l.take (k + 1)))) := by rw [HT.out, <- List.append_assoc]; exact hO2
      have HG3 := Z9 (CO HG2.out HF.out hg4); have HF3 := Z9 (HF.out.trans hf4 (by omega)); clear hO2 hg4 hf4 HM c0 c1 c2 c3 e0 e1 e2 e3; go_wp2_with fail; go_roundw
      case rel => exact ⟨k + 1, by omega, by go_num, HO2, HG3, HF3⟩
      case measure => simp [intOf]; omega
     ·have HO2 := HO.out
      rw [List.take_of_length_le (by omega)] at HO2; have HO3 := Z9 HO2; clear HO2; go_wp2; go_ret; exact ⟨_, rfl, HO3.out, HG.out, HF.out⟩
theorem lQ (n : Nat) (hn : 0 < n) (h1 : n <= 1000000) (w : World) : Calls Tryz.prog 79 #[.slice none 0 0, .int .i64 n] w fun e w' => ∃ g cap, e = .returned (.slice (some ⟨g, 0, none⟩) 0 cap) /\ w'.ownsRow w.heap.size 9 1 (.slice (some ⟨g, 0, none⟩) 0 cap) 0 [] /\ w.grownBy w' none := by
 obtain ⟨is0, his, Qc, PK, Qb⟩ := info_parts S9
 have hrz : ∀ ty, (Builtin.append_ #[27, 3] ty #[.slice none 0 0, .int .i64 (n : Int)]).run Tryz.prog w = .ok (.slice (some ⟨w.heap.size, 0, none⟩) n (grownCap w n 0 9)) (w.drew.alloc (.cells (Builtin.zeroCells (Value.string ByteArray.empty).cells n ++ Builtin.zeroCells (Value.string ByteArray.empty).cells (grownCap w n 0 9 - n)) 9)) := fun ty =>
  Lib.run_append_nil_zeros w 27 3 ty 9 is0 (.string ByteArray.empty) .i64 .i64 Tryz.underlying27 Tryz.underlying3 his Qc n hn (by omega) (by omega) (by rw [Qb]; omega)
 have hge := grownCap_ge w n 0 9
 have hle := grownCap_le_maxLen w n 0 9 (by unfold maxLen; omega)
 have hown : (w.drew.alloc (.cells (Builtin.zeroCells (Value.string ByteArray.empty).cells n ++ Builtin.zeroCells (Value.string ByteArray.empty).cells (grownCap w n 0 9 - n)) 9)).ownsRow w.heap.size 9 1 (.slice (some ⟨w.heap.size, 0, none⟩) 0 (grownCap w n 0 9)) 0 [] := by
  refine ⟨rfl, .inr ⟨_, _, _, rfl, Nat.le_refl _, ZV w.drew _, Nat.zero_le _, hle, ?_, by simp⟩⟩; rw [Array.size_append, size_zeroCells, size_zeroCells, show (Value.string ByteArray.empty).cells.size = 1 from rfl]; omega
 have HG := Z9 (both (Z4 w) (Z8 w.drew (.cells (Builtin.zeroCells (Value.string ByteArray.empty).cells n ++ Builtin.zeroCells (Value.string ByteArray.empty).cells (grownCap w n 0 9 - n)) 9)))
 have HO := Z9 hown
 have hG63 : grownCap w n 0 9 <= 9223372036854775807 := by unfold maxLen at hle; omega
 clear hown hle
 generalize grownCap w n 0 9 = G at *
 generalize w.drew.alloc (.cells (Builtin.zeroCells (Value.string ByteArray.empty).cells n ++ Builtin.zeroCells (Value.string ByteArray.empty).cells (G - n)) 9) = W at *
 have hn0 : ¬ (n : Int) < 0 := by omega
 have hn1 : (0 : Int) < (n : Int) := by omega
 go_in
 go_wp2_with (at_builtin; refine Lib.wpList_append_run _ rfl _ _ _ _ rfl _ _ rfl rfl _ _ (hrz _) ?_)
 all_goals
  go_ret; exact ⟨_, _, rfl, HO.out, HG.out⟩
theorem uS (g : Nat) (a : Option Addr) (c : Nat) (all : List ByteArray) (w : World) (h : w.heap[g]? = some (.cells #[.slice none 0 0, .slice a all.length c] 27 (0, 0))) (B : Nat) (hO : Tn w B (.slice a all.length c) all) (hn : 0 < all.length) (hl : all.length <= 1000000) :
 Calls Tryz.prog 52 #[.slice (some ⟨g, 0, none⟩) 2 2] w fun e w' => ∃ v, e = .returned v /\ w'.ownsRow w.heap.size 9 1 v all.length (strCells all) /\ w.grownBy w' none := by
 have c0 : w.cell? ⟨g, 0, none⟩ = some (.slice none 0 0) := by simp [World.cell?, h]
 have c1 : w.cell? ⟨g, 1, none⟩ = some (.slice a all.length c) := by simp [World.cell?, h]
 have HH := Z9 h
 clear h
 obtain ⟨is0, his, Qc, PK, Qb⟩ := info_parts S9
 have HO := Z9 hO
 clear hO
 have hwr : IntKind.i64.wrap (0 + (all.length : Int)) = (all.length : Int) := by rw [YJ _ (by omega) (by omega)]; omega
 go_in
 go_wp2_with fail
 go_loop [3, 11] (fun n i => n = .int .i64 0 /\ i = .int .i64 0 \/ n = .int .i64 0 /\ i = .int .i64 1 \/ n = .int .i64 all.length /\ i = .int .i64 2) (fun _ i => 2 - (intOf i).toNat)
 case atStart => exact .inl ⟨rfl, rfl⟩
 case round =>
  rcases hrel with ⟨rfl, rfl⟩ | ⟨rfl, rfl⟩ | ⟨rfl, rfl⟩
  ·go_wp2_with fail
   go_round
   case rel => exact .inr (.inl ⟨rfl, rfl⟩)
   case measure => simp [intOf]
  ·go_wp2_with fail
   go_round
   case rel => exact .inr (.inr ⟨by go_num, rfl⟩)
   case measure => simp [intOf]
  ·have lX := Z9 (lQ all.length hn hl w)
   go_wp2_with fail; refine lX.out.mono ?_; rintro e w2 ⟨gg, cap, rfl, hown, hg⟩; have HO2 := Z9 (HO.out.grown hg (by nofun)); have HG2 := Z9 hg; have HOW := Z9 hown; have hh2 := (hg.block g (Z6 HH.out) (by nofun)).trans HH.out; have hsz := hg.size; clear c0 c1; have c0 : w2.cell? ⟨g, 0, none⟩ = some (.slice none 0 0) := by simp [World.cell?, hh2]
   have c1 : w2.cell? ⟨g, 1, none⟩ = some (.slice a all.length c) := by simp [World.cell?, hh2]
   clear hg hown hh2 lX; go_wp2_with fail; go_loopw [6, 27] (fun v i wr => (i = .int .i64 0 /\ v = .slice (some ⟨gg, 0, none⟩) 0 cap \/ i = .int .i64 1 /\ v = .slice (some ⟨gg, 0, none⟩) 0 cap) /\ wr = w2 \/ i = .int .i64 2 /\ Hid (wr.ownsRow w.heap.size 9 1 v all.length (strCells all)) /\ Hid (w.grownBy wr none)) (fun _ i _ => 2 - (intOf i).toNat)
   case atStart => exact .inl ⟨.inl ⟨rfl, rfl⟩, rfl⟩
   case round =>
    rcases hrel with ⟨⟨rfl, rfl⟩ | ⟨rfl, rfl⟩, rfl⟩ | ⟨rfl, HOE, HGE⟩
    ·go_wp2_with (at_builtin; refine wpList_append_own_none rfl _ _ 27 rfl w.heap.size 9 is0 1 Tryz.underlying27 his _ 0 [] rfl HOW.out rfl ?_)
     go_roundw
     case rel => exact .inl ⟨.inr ⟨rfl, rfl⟩, trivial⟩
     case measure => simp [intOf]
    ·obtain ⟨ga, ca, bT, hgB, cur, hcur⟩ := Oz HO2.out.1 hn
     obtain rfl : a = some ⟨ga, 0, none⟩ := by injection bT
     go_wp2_with (at_builtin; refine wpList_append_lies _ rfl _ _ 27 rfl w.heap.size 9 is0 (.string ByteArray.empty) 1 16 Tryz.underlying27 his Qc PK Qb rfl (by decide) _ 0 [] rfl HOW.out ⟨ga, 0, none⟩ all.length c (strCells all) rfl (by rw [strCells_length, Nat.mul_one]) ?c1 ?c2 hn ?c3 ?c4 ?c5 _ rfl ?_)
     case c1 =>
      intro j u hj; have := (RN (i := j) HO2.out.1 hj).1; rcases j with _ | j <;> simpa [Addr.add] using this
     case c2 => intro u hu; unfold strCells at hu; obtain ⟨x, _, rfl⟩ := List.mem_map.1 hu; rfl
     case c3 => unfold maxLen; omega
     case c4 => omega
     case c5 => omega
     intro g4 cap4 w4 Vl WS OO Kv; have hgb := (Zw HOW.out gg rfl).1; have HG4 := Z9 (Yf ((ZX HG2.out (Nat.le_refl _) (by nofun)).trans (ZX (B := w.heap.size) WS hsz (fun k hk => by cases hk; exact hgb)))); have HO4 := Z9 Vl; clear Vl WS OO; go_wp2_with fail; go_roundw
     case rel => exact .inr ⟨rfl, HO4, HG4⟩
     case measure => simp [intOf]
    ·go_wp2
     go_ret; exact ⟨_, rfl, HOE.out, HGE.out⟩
end Go.Proofs.YtbcfdebdikgijaaGreatDoor
