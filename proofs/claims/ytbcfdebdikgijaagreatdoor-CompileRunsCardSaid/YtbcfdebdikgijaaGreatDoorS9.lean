/- Part of the proof; its texts: Cw1 Cw2 Cw3 Cw4. -/
import Derived.Test.YtbcfdebdikgijaaGreatDoorS6
import Derived.Test.YtbcfdebdikgijaaGreatDoorS8
import Derived.StringKeys
set_option maxRecDepth 100000
set_option linter.unusedVariables false
set_option linter.unusedSimpArgs false
set_option maxHeartbeats 2000000
namespace Go.Proofs.YtbcfdebdikgijaaGreatDoor
open Go Go.RowKit
open Go.Maps
theorem vD {V : World} {B : Nat} {e : TypeId} {s n : Nat} {g c : Nat} {xs : List Value} (h : V.ownsRow B e s (.slice (some ⟨g, 0, none⟩) n c) n xs) (i : Nat) (u : Value) : (V.setCell ⟨g, i, none⟩ u).ownsRow B e s (.slice (some ⟨g, 0, none⟩) n c) n (xs.set i u) := by
 obtain ⟨h1, h2⟩ := h
 refine ⟨by rw [List.length_set]; exact h1, ?_⟩
 rcases h2 with ⟨h2, _⟩ | ⟨g', cap, cur, hv, hb, hh, hn, hc, hs, ht⟩
 ·cases h2
 ·injection hv with ha _ hcap
  injection ha with ha; injection ha with hg _ _; subst hg; subst hcap; exact .inr ⟨_, _, _, rfl, hb, ZL hh u, hn, hc, by simp [hs], by rw [Array.toList_setIfInBounds, List.take_set, ht]⟩
/-! ### The code of an expression stays where its places stay -/
theorem Dk (l : List Z0) (x : Z0) : ZC (l ++ [x]) = ZC l + ZU x := by
 induction l with
 | nil => rw [List.nil_append, Zm, Yi]; omega
 | cons y l ih => rw [List.cons_append, Zm, Zm, ih]; omega
theorem RQ (C : List Ins) (T : ByteArray -> Int) (loc : Int) (p : Nat) : Wy C T loc [] p := by unfold Wy; trivial
theorem VZ {C : List Ins} {T : ByteArray -> Int} {loc : Int} {x : Z0} {r : List Z0} {p : Nat} : Wy C T loc (x :: r) p ↔ YL C T loc x p /\ Wy C T loc r (p + ZU x) := by rw [Wy]
theorem Lx {C : List Ins} {T : ByteArray -> Int} {loc : Int} {x : Z0} : ∀ {r : List Z0} {p : Nat}, Wy C T loc r p -> YL C T loc x (p + ZC r) -> Wy C T loc (r ++ [x]) p
 | [], p, _, h => by rw [List.nil_append, VZ]; rw [Yi] at h; exact ⟨h, RQ ..⟩
 | y :: r, p, h1, h2 => by
   rw [List.cons_append, VZ]; rw [VZ] at h1; rw [Zm, <- Nat.add_assoc] at h2; exact ⟨h1.1, Lx h1.2 h2⟩
mutual
def Tw : Z0 -> Prop
 | .mk op _ _ _ l => (op = 9 -> 2 <= l.length) /\ Vk l
def Vk : List Z0 -> Prop
 | [] => True
 | x :: r => Tw x /\ Vk r
end
theorem Ti : ∀ {l : List Z0}, Vk l -> ∀ y ∈ l, Tw y
 | [], _, _, h => by cases h
 | x :: r, h, y, hy => by
   unfold Vk at h; rcases List.mem_cons.1 hy with rfl | hy
   ·exact h.1
   ·exact Ti h.2 y hy
theorem OD : ∀ {l : List Z0}, (∀ y ∈ l, Tw y) -> Vk l
 | [], _ => by unfold Vk; trivial
 | x :: r, h => by unfold Vk; exact ⟨h x (List.mem_cons_self ..), OD fun y hy => h y (List.mem_cons_of_mem _ hy)⟩
theorem Tq {caps : Int} {Ze : Int -> Int -> Bool} (x : Z0) : ∀ loc, ZI caps Ze loc x = true -> Tw x := by
 induction x using Z0.induct with
 | h op n s lv l ih =>
   intro loc h; obtain ⟨h1, h2⟩ := Za h; unfold Tw; refine ⟨fun e => ?_, OD fun y hy => ?_⟩
   ·subst e
    have := (Rs h1).1; unfold Y7 at this; simp at this; omega
   ·obtain ⟨k, hk, rfl⟩ := List.mem_iff_getElem.1 hy
    have := h2 k hk; rw [show l.getD k default = l[k] by simp [List.getD, hk]] at this; exact ih _ hy _ this
section
variable {C C' : List Ins} {T : ByteArray -> Int}
def vC (C C' : List Ins) (T : ByteArray -> Int) (x : Z0) : Prop := Tw x -> ∀ loc p, YL C T loc x p -> (∀ i, p <= i -> i < p + ZU x -> C'[i]? = C[i]?) -> YL C' T loc x p
theorem TR {loc : Int} : ∀ {l : List Z0} {p : Nat}, (∀ y ∈ l, vC C C' T y) -> Vk l -> Wy C T loc l p -> (∀ i, p <= i -> i < p + ZC l -> C'[i]? = C[i]?) -> Wy C' T loc l p
 | [], p, _, _, _, _ => RQ ..
 | x :: r, p, ih, hw, h, hs => by
   unfold Vk at hw; rw [VZ] at h ⊢; rw [Zm] at hs; exact ⟨ih x (List.mem_cons_self ..) hw.1 _ _ h.1 fun i h1 h2 => hs i h1 (by omega), TR (fun y hy => ih y (List.mem_cons_of_mem _ hy)) hw.2 h.2 fun i h1 h2 => hs i (by omega) (by omega)⟩
theorem M5 {loc : Int} {e : Nat} : ∀ {l : List Z0} {tab p : Nat}, (∀ y ∈ l, vC C C' T y) -> Vk l -> Tz C T loc l tab p e -> (∀ i, tab <= i -> i < tab + l.length -> C'[i]? = C[i]?) -> (∀ i, p <= i -> i < p + ZC l + (l.length - 1) -> C'[i]? = C[i]?) -> Tz C' T loc l tab p e
 | [], tab, p, _, _, _, _, _ => by unfold Tz; trivial
 | x :: r, tab, p, ih, hw, h, ht, hs => by
   unfold Vk at hw; unfold Tz at h ⊢; rw [Zm, List.length_cons] at hs; rw [List.length_cons] at ht; obtain ⟨h1, h2, h3, h4⟩ := h; refine ⟨by rw [ht tab (Nat.le_refl _) (by omega)]; exact h1, ih x (List.mem_cons_self ..) hw.1 _ _ h2 fun i a b => hs i a (by omega), fun hne => ?_, ?_⟩
   ·have : 0 < r.length := List.length_pos_iff.2 hne
    rw [hs _ (by omega) (by omega)]; exact h3 hne
   ·by_cases hr : r = []
    ·subst hr; unfold Tz; trivial
    ·have : 0 < r.length := List.length_pos_iff.2 hr
     exact M5 (fun y hy => ih y (List.mem_cons_of_mem _ hy)) hw.2 h4 (fun i a b => ht i (by omega) (by omega)) (fun i a b => hs i (by omega) (by omega))
theorem XB (x : Z0) : vC C C' T x := by
 induction x using Z0.induct with
 | h op n s lv l ih =>
   intro hw loc p h hs; unfold Tw at hw; obtain ⟨hw9, hwl⟩ := hw; rw [Xx] at hs; unfold YL at h ⊢; by_cases h11 : op = 11
   ·rw [ZY h11] at h ⊢
    rw [Z7 (by omega)] at hs; cases l with
    | nil => unfold Ru at h; exact h.elim
    | cons x r =>
      unfold Ru at h ⊢; unfold Vk at hwl; rw [Zm] at hs; exact ⟨ih x (List.mem_cons_self ..) hwl.1 _ _ h.1 fun i a b => hs i a (by omega), by rw [hs _ (by omega) (by omega)]; exact h.2.1, TR (fun y hy => ih y (List.mem_cons_of_mem _ hy)) hwl.2 h.2.2 fun i a b => hs i (by omega) (by omega)⟩
   ·rw [Z7 h11] at h ⊢
    by_cases h9 : op = 9
    ·rw [ZY h9] at h hs ⊢
     cases l with
     | nil => unfold PV at h; exact h.elim
     | cons x r =>
       unfold PV at h ⊢; rw [Zm, List.length_cons] at hs; obtain ⟨h1, h2, h3⟩ := h; unfold Vk at hwl; have hr : 0 < r.length := by have := hw9 h9; rw [List.length_cons] at this; omega
       exact ⟨ih x (List.mem_cons_self ..) hwl.1 _ _ h1 fun i a b => hs i a (by omega), by rw [hs _ (by omega) (by omega)]; exact h2, M5 (fun y hy => ih y (List.mem_cons_of_mem _ hy)) hwl.2 h3 (fun i a b => hs i (by omega) (by omega)) (fun i a b => hs i (by omega) (by omega))⟩
    ·rw [Z7 h9] at h hs ⊢
     exact ⟨TR ih hwl h.1 fun i a b => hs i a (by omega), by rw [hs _ (by omega) (by omega)]; exact h.2⟩
end
/-! ### The map of texts -/
theorem RP : Keyed Tryz.prog 9 := string_keyed Tryz.underlying9
def Tp (V : World) (mb : Nat) (T : ByteArray -> Int) : Prop :=
 ∃ (n : Nat) (D : DataW Unit), V.ownsMap Tryz.prog 9 (plainElem Tryz.prog 3) mb n D /\ ∀ s : ByteArray, s.size <= maxLen -> D.atKey (.string s.data.toList) (.lit (.int .i64 0)) = .lit (.int .i64 (T s))
theorem Tp.look {V : World} {mb : Nat} {T : ByteArray -> Int} (h : Tp V mb T) (s : ByteArray) (hs : s.size <= maxLen) : (Instr.lookup 118 (.map (some mb)) (.string s) false).run Tryz.prog V = .ok (.int .i64 (T s)) V := by
 obtain ⟨n, D, hown, hat⟩ := h
 obtain ⟨c, hrun, hc, _⟩ := hown.lookup_int RP Tryz.underlying118 Tryz.underlying3 (OE V) (WideMaps.keyOf_string_mk Tryz.underlying9 hs)
 rw [hrun]
 have := hc.symm.trans (hat s hs)
 injection this with e
 injection e with _ e2
 rw [e2]
theorem Tp.lt {V : World} {mb : Nat} {T : ByteArray -> Int} (h : Tp V mb T) : mb < V.heap.size := by obtain ⟨n, D, hown, _⟩ := h; exact hown.lt
theorem Tp.stays {V V' : World} {mb : Nat} {T : ByteArray -> Int} (h : Tp V mb T) (e : V'.heap[mb]? = V.heap[mb]?) : Tp V' mb T := by
 obtain ⟨n, D, ⟨es, clock, hb, hr⟩, hat⟩ := h
 exact ⟨n, D, ⟨es, clock, e.trans hb, hr⟩, hat⟩
/-! ### emit -/
theorem XW (wb mb B : Nat) (cv : Value) (L : List Ins) (op a b : Int) (V : World) (h : MH V wb mb B cv L) (hB : B <= V.heap.size) (hL : L.length <= 1000000) :
 Calls Tryz.prog 56 #[.pointer (some ⟨wb, 0, none⟩), .int .i64 op, .int .i64 a, .int .i64 b] V fun e V' => e = .returned (.int .i64 L.length) /\ Qe wb mb B cv (L ++ [⟨op, a, b⟩]) V V' := by
 have H := Z9 h
 obtain ⟨ca, cn, cc, rfl⟩ := LH h.own
 obtain ⟨ii0, hii, TI, TH, TG⟩ := info_parts LJ
 obtain ⟨c0, c1⟩ := V9 h.blk
 have qQ := h.lt
 clear h
 go_in
 go_wp2_with (at_builtin; refine wpList_append_lies _ rfl _ _ 51 rfl B 59 ii0 (.agg #[.int .i64 0, .int .i64 0, .int .i64 0]) 3 24 Tryz.underlying51 hii TI TH TG rfl (by decide) _ L.length (YE L) rfl (H.out.own.alloc _) ⟨V.heap.size, 0, none⟩ 1 1 [.int .i64 op, .int .i64 a, .int .i64 b] rfl rfl ?c1 ?c2 (by decide) ?c3 ?c4 ?c5 _ rfl ?_)
 case c1 => exact World.news_of_block (cs := #[.int .i64 op, .int .i64 a, .int .i64 b]) (ZV V _)
 case c2 => intro u hu; simp at hu; rcases hu with rfl | rfl | rfl <;> rfl
 case c3 => unfold maxLen; omega
 case c4 => omega
 case c5 => simp; omega
 intro g cap w4 Vl WS OO Kv
 have hg3 := Z8 V (.cells #[.int .i64 op, .int .i64 a, .int .i64 b] 59)
 have hown0 := Zw H.out.own
 have DI := Z6 H.out.blk
 have gW := (WS.block wb (by simp; omega) (fun e => by have := (hown0 wb e.symm).1; omega)).trans ((hg3.block wb DI (by nofun)).trans H.out.blk)
 obtain ⟨d0, d1⟩ := V9 gW
 have fz : w4.frozen? ⟨wb, 0, none⟩ = false := Lib.frozen_of_heap gW 0
 have hE := ((Em.free (wb := wb) (r := (Value.slice ca cn cc).ownBlock) hg3).trans (Em.grown WS (r' := some g) (by
  rcases OO with e | e
  ·exact .inl e.symm
  ·exact .inr ⟨g, rfl, by simp; omega⟩))).trans (Em.set w4 0 (.slice (some ⟨g, 0, none⟩) (L.length + 1) cap) (some g))
 have gW2 := ZL (i := 0) gW (.slice (some ⟨g, 0, none⟩) (L.length + 1) cap)
 have hown5 : w4.ownsRow B 59 3 (.slice (some ⟨g, 0, none⟩) (L.length + 1) cap) (L ++ [(⟨op, a, b⟩ : Ins)]).length (YE (L ++ [(⟨op, a, b⟩ : Ins)])) := by rw [OQ, List.length_append]; exact Vl
 have hown6 := Zx hown5 (Zv w4 wb 0 (.slice (some ⟨g, 0, none⟩) (L.length + 1) cap)) (fun k hk e => by cases hk; have := (Zw hown5 _ e).1; omega)
 have HR : Hid (Qe wb mb B (.slice ca cn cc) (L ++ [⟨op, a, b⟩]) V (w4.setCell ⟨wb, 0, none⟩ (.slice (some ⟨g, 0, none⟩) (L.length + 1) cap))) := ⟨_, ⟨gW2, hown6, qQ⟩, hE⟩
 have s0 := (V9 gW2).1
 clear hE Vl hown5 hown6 WS OO hg3 hown0 gW c0 c1
 go_wp2
 go_ret
 exact ⟨rfl, HR.out⟩
def Wr (wb mb B : Nat) (L : List Ins) (cv : Value) (V : World) (len : Nat) (P : List Ins -> Prop) (e : Ending) (V' : World) : Prop :=
 e = .returned (.tuple #[]) /\ ∃ (cv' : Value) (L' : List Ins), MH V' wb mb B cv' L' /\ Em wb V V' cv.ownBlock cv'.ownBlock /\ L'.length = L.length + len /\ (∀ i, i < L.length -> L'[i]? = L[i]?) /\ P L'
structure Wg (V : World) (wb mb B B0 : Nat) (cv : Value) (L : List Ins) (T : ByteArray -> Int) : Prop where
 st : MH V wb mb B cv L
 tm : Tp V mb T
 size : B <= V.heap.size
 lo : mb < wb
 b0 : B0 <= mb
theorem Wg.below {V V' : World} {wb mb B B0 : Nat} {cv : Value} {L : List Ins} {T : ByteArray -> Int} {r : Option Nat} (h : Wg V wb mb B B0 cv L T) (hE : Em wb V V' cv.ownBlock r) : Below B0 V V' :=
 hE.below (by have := h.lo; have := h.b0; omega) (Z6 h.st.blk) (fun k e => by have := (Zw h.st.own _ e).1; have := h.st.lt; omega)
theorem Wg.step {V V' : World} {wb mb B B0 : Nat} {cv cv' : Value} {L L' : List Ins} {T : ByteArray -> Int} (h : Wg V wb mb B B0 cv L T) (hW : MH V' wb mb B cv' L') (hE : Em wb V V' cv.ownBlock cv'.ownBlock) : Wg V' wb mb B B0 cv' L' T :=
 ⟨hW, h.tm.stays (hE.kept mb h.tm.lt (by have := h.lo; omega) (fun e => by have := (Zw h.st.own _ e).1; have := h.st.lt; have := h.lo; omega)), Nat.le_trans h.size hE.size, h.lo, h.b0⟩
theorem Wg.free {V V' : World} {wb mb B B0 : Nat} {cv : Value} {L : List Ins} {T : ByteArray -> Int} (h : Wg V wb mb B B0 cv L T) (hg : V.grownBy V' none) : Wg V' wb mb B B0 cv L T :=
 h.step (h.st.free hg) (Em.free hg)
def UR (caps : Int) (Ze : Int -> Int -> Bool) (T : ByteArray -> Int) (wb mb B B0 : Nat) (x : Z0) : Prop :=
 ∀ (loc : Int) (cv : Value) (L : List Ins) (V : World), Wg V wb mb B B0 cv L T -> Y0 B0 V x -> ZI caps Ze loc x = true -> 0 <= loc -> loc + Y5 x <= 100000 -> L.length + ZU x <= 100000 ->
  Calls Tryz.prog 55 #[.pointer (some ⟨wb, 0, none⟩), Ws x, .int .i64 loc] V (Wr wb mb B L cv V (ZU x) (fun L' => YL L' T loc x L.length))
theorem RO (l : List Z0) (k : Nat) (h : k < l.length) : ZC (l.take (k + 1)) = ZC (l.take k) + ZU (l.getD k default) := by rw [take_one default l k h, Dk]
theorem OC (l : List Z0) (k : Nat) : ZC (l.take k) <= ZC l := by
 have : ∀ a b : List Z0, ZC (a ++ b) = ZC a + ZC b := fun a b => by
  induction a with
  | nil => rw [List.nil_append, Yi]; omega
  | cons x r ih => rw [List.cons_append, Zm, Zm, ih]; omega
 conv => rhs; rw [<- List.take_append_drop k l, this]
 omega
theorem JO {A B C : List Ins} (h : ∀ i, i < A.length -> B[i]? = A[i]?) (hl : A.length <= B.length) (k : ∀ i, i < B.length -> C[i]? = B[i]?) : ∀ i, i < A.length -> C[i]? = A[i]? :=
 fun i hi => (k i (by omega)).trans (h i hi)
theorem Dj {L L1 L2 : List Ins} {T : ByteArray -> Int} {loc : Int} {l : List Z0} {k : Nat} (hk : k < l.length) (hw : Vk l) (h1 : Wy L1 T loc (l.take k) L.length) (hl : L1.length = L.length + ZC (l.take k)) (h2 : YL L2 T loc (l.getD k default) L1.length) (hp : ∀ i, i < L1.length -> L2[i]? = L1[i]?) : Wy L2 T loc (l.take (k + 1)) L.length := by
 rw [take_one default l k hk]
 exact Lx (TR (fun y _ => XB y) (OD fun y hy => Ti hw y (List.mem_of_mem_take hy)) h1 fun i _ hi => hp i (by omega)) (by rw [<- hl]; exact h2)
theorem Qs (caps : Int) (Ze : Int -> Int -> Bool) (T : ByteArray -> Int) (wb mb B B0 : Nat) (l : List Z0) (H : ∀ y ∈ l, UR caps Ze T wb mb B B0 y) (a : Option Addr) (c : Nat) (loc : Int) (cv : Value) (L : List Ins) (V : World) (h : Wg V wb mb B B0 cv L T) (hR : Uu B0 V (.slice a l.length c) l.length (ZR l)) (hm : l.length <= maxLen) (hy : ∀ y ∈ l, Y0 B0 V y) (hf : ∀ i, i < l.length -> ZI caps Ze loc (l.getD i default) = true) (h0 : 0 <= loc) (hh : loc + YI l <= 100000) (hL : L.length + ZC l <= 100000) :
 Calls Tryz.prog 84 #[.pointer (some ⟨wb, 0, none⟩), .slice a l.length c, .int .i64 loc] V (Wr wb mb B L cv V (ZC l) (fun L' => Wy L' T loc l L.length)) := by
 have HH := Z9 H
 have H0 := Z9 h
 have HR := Z9 hR
 have HY := Z9 hy
 have HF := Z9 hf
 have HE0 := Z9 (Em.refl wb V cv.ownBlock)
 have hm' : l.length <= 9223372036854775807 := by unfold maxLen at hm; omega
 have HW := Z9 (OD (l := l) fun y hy => by
  obtain ⟨k, hk, rfl⟩ := List.mem_iff_getElem.1 hy; have := hf k hk; rw [show l.getD k default = l[k] by simp [List.getD, hk]] at this; exact Tq _ _ this)
 clear h hR hy hf H hm
 go_in
 go_wp2_with fail
 go_loopw [10] (fun i wr => ∃ (k : Nat) (cv' : Value) (L' : List Ins), i = .int .i64 k /\ k <= l.length /\ Hid (MH wr wb mb B cv' L') /\ Hid (Em wb V wr cv.ownBlock cv'.ownBlock) /\ Hid (L'.length = L.length + ZC (l.take k) /\ (∀ i, i < L.length -> L'[i]? = L[i]?) /\ Wy L' T loc (l.take k) L.length)) (fun i _ => l.length - (intOf i).toNat)
 case atStart => exact ⟨0, cv, L, rfl, Nat.zero_le _, H0.out.st, HE0, by rw [List.take_zero, Yi, Nat.add_zero], fun _ _ => rfl, RQ ..⟩
 case round =>
  obtain ⟨k, cv', L', rfl, hk, HWs, HE, HC⟩ := hrel; have AX := H0.out.below HE.out; have vB := H0.out.step HWs.out HE.out; by_cases hkl : k < l.length
  ·obtain ⟨b, off, rfl, Rx, c0, c1, c2, c3⟩ := XY HR.out AX k hkl
   have hmem := Zr default l k hkl; have hhm := Xd hmem; have hyk := (HY.out _ hmem).under AX; have hX := HH.out _ hmem; have R4 := HF.out k hkl; have hck := RO l k hkl; have hcl := OC l (k + 1); have hpl := HC.out.1; have HS := Z9 (fun (L2 : List Ins) (h2 : YL L2 T loc (l.getD k default) L'.length) (hp : ∀ i, i < L'.length -> L2[i]? = L'[i]?) => Dj hkl HW.out HC.out.2.2 hpl h2 hp); clear hmem; generalize l.getD k default = x at *; obtain ⟨xo, xn, xs, xv, xl⟩ := x; obtain ⟨xa, xc, rfl, _⟩ := hyk.parts.1; simp only [Z0.op, Z0.n, Z0.s, Z0.lv] at c0 c1 c2 c3; have hg := Z8 wr (.cells #[.int .i64 xo, .int .i64 xn, .string xs, .slice xa xl.length xc] 36); have gX := ZV wr (.cells #[.int .i64 xo, .int .i64 xn, .string xs, .slice xa xl.length xc] 36); obtain ⟨e0, e1, e2, e3⟩ := ZP gX; have HX := Z9 (hX loc cv' L' _ (vB.free hg) (hyk.under (ZX hg (by have := vB.size; have := vB.st.lt; have := vB.lo; have := vB.b0; omega) (by nofun))) R4 h0 (by omega) (by omega)); have hE2 := HE.out.trans (Em.free (wb := wb) (r := cv'.ownBlock) hg); have HE2 := Z9 hE2; rw [ZE] at HX; clear hX hyk R4 gX hg hE2 AX vB; go_wp2_with fail; refine HX.out.mono ?_; rintro e w2 ⟨rfl, cv2, L2, hW3, hE3, hl3, hp3, hc3⟩; have HW3 := Z9 hW3; have HE3 := Z9 (HE2.out.trans hE3); have HC3 : Hid (L2.length = L.length + ZC (l.take (k + 1)) /\ (∀ i, i < L.length -> L2[i]? = L[i]?) /\ Wy L2 T loc (l.take (k + 1)) L.length) := ⟨by omega, JO HC.out.2.1 (by omega) hp3, HS.out L2 hc3 hp3⟩; clear hW3 hE3 hl3 hp3 hc3 HX c0 c1 c2 c3 e0 e1 e2 e3; go_wp2_with fail; go_round
   case rel => exact ⟨k + 1, cv2, L2, by go_num, by omega, HW3, HE3, HC3⟩
   case measure => simp [intOf]; omega
  ·have HC3 := HC.out
   rw [List.take_of_length_le (by omega)] at HC3; have HC4 := Z9 HC3; clear HC3 AX vB; go_wp2_with fail; go_end0; exact ⟨rfl, cv', L', HWs.out, HE.out, HC4.out⟩
theorem Qe.cell {wb mb B : Nat} {L : List Ins} {cv : Value} {V V' : World} (h : Qe wb mb B cv L V V') : V'.cell? ⟨wb, 1, none⟩ = some (.map (some mb)) := by
 obtain ⟨cv', hW, _⟩ := h
 exact (V9 hW.blk).2
theorem Qr {wb mb B : Nat} {L : List Ins} {cv : Value} {V V1 V' : World} {T : ByteArray -> Int} {op n loc : Int} {s : ByteArray} {v : Value} {i : Ins} (h11 : op ≠ 11) (h9 : op ≠ 9) (hi : UW T op n s 0 = i) (hE1 : Em wb V V1 cv.ownBlock cv.ownBlock) (hW : Qe wb mb B cv (L ++ [i]) V1 V') : Wr wb mb B L cv V (ZU (.mk op n s v [])) (fun L' => YL L' T loc (.mk op n s v []) L.length) (.returned (.tuple #[])) V' := by
 obtain ⟨cv', hW, hE⟩ := hW
 refine ⟨rfl, cv', _, hW, hE1.trans hE, by rw [Xx, Z7 h9, Yi]; simp, fun j hj => List.getElem?_append_left hj, ?_⟩
 show YL _ T loc _ L.length
 unfold YL
 rw [Z7 h11, Z7 h9]
 refine ⟨RQ .., ?_⟩
 rw [Yi, Nat.add_zero, List.getElem?_append_right (Nat.le_refl _), Nat.sub_self]
 exact congrArg some hi.symm
theorem Qq {wb mb B : Nat} {L L1 : List Ins} {cv cv1 : Value} {V V1 V' : World} {T : ByteArray -> Int} {op n loc : Int} {s : ByteArray} {v : Value} {l : List Z0} {i : Ins} (h11 : op ≠ 11) (h9 : op ≠ 9) (hw : Vk l) (hi : UW T op n s l.length = i) (hE1 : Em wb V V1 cv.ownBlock cv1.ownBlock) (hl : L1.length = L.length + ZC l) (hp : ∀ i, i < L.length -> L1[i]? = L[i]?) (hc : Wy L1 T loc l L.length) (hW : Qe wb mb B cv1 (L1 ++ [i]) V1 V') : Wr wb mb B L cv V (ZU (.mk op n s v l)) (fun L' => YL L' T loc (.mk op n s v l) L.length) (.returned (.tuple #[])) V' := by
 obtain ⟨cv', hW, hE⟩ := hW
 refine ⟨rfl, cv', _, hW, hE1.trans hE, by rw [Xx, Z7 h9, List.length_append, hl]; simp; omega, fun j hj => (List.getElem?_append_left (by omega)).trans (hp j hj), ?_⟩
 show YL _ T loc _ L.length
 unfold YL
 rw [Z7 h11, Z7 h9]
 refine ⟨TR (fun y _ => XB y) hw hc fun j _ hj => List.getElem?_append_left (by omega), ?_⟩
 rw [<- hl, List.getElem?_append_right (Nat.le_refl _), Nat.sub_self]
 exact congrArg some hi.symm
theorem Va {caps : Int} {Ze : Int -> Int -> Bool} {loc op n : Int} {s : ByteArray} {v : Value} {l : List Z0} (h : ZI caps Ze loc (.mk op n s v l) = true) : Vk l := by
 have := Tq _ _ h
 unfold Tw at this
 exact this.2
theorem WJ {op loc : Int} (h11 : op ≠ 11) (h9 : op ≠ 9) (i : Nat) : lo op loc i = loc := by
 unfold lo bump
 rw [Z7 (show ¬ (op = 9 \/ op = 11) by omega)]
 split <;> omega
theorem zM (T : ByteArray -> Int) (wb mb B B0 : Nat) (n : Int) (s : ByteArray) (a : Option Addr) (c : Nat) (loc : Int) (cv : Value) (L : List Ins) (V : World) (h : Wg V wb mb B B0 cv L T) (hL : L.length <= 100000) :
 Calls Tryz.prog 55 #[.pointer (some ⟨wb, 0, none⟩), .agg #[.int .i64 2, .int .i64 n, .string s, .slice a 0 c], .int .i64 loc] V (Wr wb mb B L cv V (ZU (.mk 2 n s (.slice a 0 c) [])) (fun L' => YL L' T loc (.mk 2 n s (.slice a 0 c) []) L.length)) := by
 have hg := Z8 V (.cells #[.int .i64 2, .int .i64 n, .string s, .slice a 0 c] 36)
 have gP := ZV V (.cells #[.int .i64 2, .int .i64 n, .string s, .slice a 0 c] 36)
 obtain ⟨p0, p1, p2, p3⟩ := ZP gP
 have HM := Z9 (XW wb mb B cv L 1 n 0 _ (h.st.free hg) (Nat.le_trans h.size hg.size) (by omega))
 have HE := Z9 (Em.free (wb := wb) (r := cv.ownBlock) hg)
 clear h gP hg
 go_in
 go_wp2_with fail
 refine HM.out.mono ?_
 rintro e V2 ⟨rfl, hW⟩
 have HR := Z9 (Qr (T := T) (n := n) (s := s) (loc := loc) (v := .slice a 0 c) (op := 2) (by decide) (by decide) rfl HE.out hW)
 clear hW
 go_wp2_with fail
 go_end0
 exact HR.out
theorem Di (T : ByteArray -> Int) (wb mb B B0 : Nat) (n : Int) (s : ByteArray) (a : Option Addr) (c : Nat) (loc : Int) (cv : Value) (L : List Ins) (V : World) (h : Wg V wb mb B B0 cv L T) (hL : L.length <= 100000) :
 Calls Tryz.prog 55 #[.pointer (some ⟨wb, 0, none⟩), .agg #[.int .i64 13, .int .i64 n, .string s, .slice a 0 c], .int .i64 loc] V (Wr wb mb B L cv V (ZU (.mk 13 n s (.slice a 0 c) [])) (fun L' => YL L' T loc (.mk 13 n s (.slice a 0 c) []) L.length)) := by
 have hg := Z8 V (.cells #[.int .i64 13, .int .i64 n, .string s, .slice a 0 c] 36)
 have gP := ZV V (.cells #[.int .i64 13, .int .i64 n, .string s, .slice a 0 c] 36)
 obtain ⟨p0, p1, p2, p3⟩ := ZP gP
 have HM := Z9 (XW wb mb B cv L 16 n 0 _ (h.st.free hg) (Nat.le_trans h.size hg.size) (by omega))
 have HE := Z9 (Em.free (wb := wb) (r := cv.ownBlock) hg)
 clear h gP hg
 go_in
 go_wp2_with fail
 refine HM.out.mono ?_
 rintro e V2 ⟨rfl, hW⟩
 have HR := Z9 (Qr (T := T) (n := n) (s := s) (loc := loc) (v := .slice a 0 c) (op := 13) (by decide) (by decide) rfl HE.out hW)
 clear hW
 go_wp2_with fail
 go_end0
 exact HR.out
theorem Dh (T : ByteArray -> Int) (wb mb B B0 : Nat) (n : Int) (s : ByteArray) (a : Option Addr) (c : Nat) (loc : Int) (cv : Value) (L : List Ins) (V : World) (h : Wg V wb mb B B0 cv L T) (hL : L.length <= 100000) :
 Calls Tryz.prog 55 #[.pointer (some ⟨wb, 0, none⟩), .agg #[.int .i64 21, .int .i64 n, .string s, .slice a 0 c], .int .i64 loc] V (Wr wb mb B L cv V (ZU (.mk 21 n s (.slice a 0 c) [])) (fun L' => YL L' T loc (.mk 21 n s (.slice a 0 c) []) L.length)) := by
 have hg := Z8 V (.cells #[.int .i64 21, .int .i64 n, .string s, .slice a 0 c] 36)
 have gP := ZV V (.cells #[.int .i64 21, .int .i64 n, .string s, .slice a 0 c] 36)
 obtain ⟨p0, p1, p2, p3⟩ := ZP gP
 have HM := Z9 (XW wb mb B cv L 3 n 0 _ (h.st.free hg) (Nat.le_trans h.size hg.size) (by omega))
 have HE := Z9 (Em.free (wb := wb) (r := cv.ownBlock) hg)
 clear h gP hg
 go_in
 go_wp2_with fail
 refine HM.out.mono ?_
 rintro e V2 ⟨rfl, hW⟩
 have HR := Z9 (Qr (T := T) (n := n) (s := s) (loc := loc) (v := .slice a 0 c) (op := 21) (by decide) (by decide) rfl HE.out hW)
 clear hW
 go_wp2_with fail
 go_end0
 exact HR.out
theorem Dg (T : ByteArray -> Int) (wb mb B B0 : Nat) (n : Int) (s : ByteArray) (a : Option Addr) (c : Nat) (loc : Int) (cv : Value) (L : List Ins) (V : World) (h : Wg V wb mb B B0 cv L T) (hL : L.length <= 100000) :
 Calls Tryz.prog 55 #[.pointer (some ⟨wb, 0, none⟩), .agg #[.int .i64 22, .int .i64 n, .string s, .slice a 0 c], .int .i64 loc] V (Wr wb mb B L cv V (ZU (.mk 22 n s (.slice a 0 c) [])) (fun L' => YL L' T loc (.mk 22 n s (.slice a 0 c) []) L.length)) := by
 have hg := Z8 V (.cells #[.int .i64 22, .int .i64 n, .string s, .slice a 0 c] 36)
 have gP := ZV V (.cells #[.int .i64 22, .int .i64 n, .string s, .slice a 0 c] 36)
 obtain ⟨p0, p1, p2, p3⟩ := ZP gP
 have HM := Z9 (XW wb mb B cv L 6 0 0 _ (h.st.free hg) (Nat.le_trans h.size hg.size) (by omega))
 have HE := Z9 (Em.free (wb := wb) (r := cv.ownBlock) hg)
 clear h gP hg
 go_in
 go_wp2_with fail
 refine HM.out.mono ?_
 rintro e V2 ⟨rfl, hW⟩
 have HR := Z9 (Qr (T := T) (n := n) (s := s) (loc := loc) (v := .slice a 0 c) (op := 22) (by decide) (by decide) rfl HE.out hW)
 clear hW
 go_wp2_with fail
 go_end0
 exact HR.out
theorem Df (T : ByteArray -> Int) (wb mb B B0 : Nat) (n : Int) (s : ByteArray) (a : Option Addr) (c : Nat) (loc : Int) (cv : Value) (L : List Ins) (V : World) (h : Wg V wb mb B B0 cv L T) (hL : L.length <= 100000) :
 Calls Tryz.prog 55 #[.pointer (some ⟨wb, 0, none⟩), .agg #[.int .i64 23, .int .i64 n, .string s, .slice a 0 c], .int .i64 loc] V (Wr wb mb B L cv V (ZU (.mk 23 n s (.slice a 0 c) [])) (fun L' => YL L' T loc (.mk 23 n s (.slice a 0 c) []) L.length)) := by
 have hg := Z8 V (.cells #[.int .i64 23, .int .i64 n, .string s, .slice a 0 c] 36)
 have gP := ZV V (.cells #[.int .i64 23, .int .i64 n, .string s, .slice a 0 c] 36)
 obtain ⟨p0, p1, p2, p3⟩ := ZP gP
 have HM := Z9 (XW wb mb B cv L 5 n 0 _ (h.st.free hg) (Nat.le_trans h.size hg.size) (by omega))
 have HE := Z9 (Em.free (wb := wb) (r := cv.ownBlock) hg)
 clear h gP hg
 go_in
 go_wp2_with fail
 refine HM.out.mono ?_
 rintro e V2 ⟨rfl, hW⟩
 have HR := Z9 (Qr (T := T) (n := n) (s := s) (loc := loc) (v := .slice a 0 c) (op := 23) (by decide) (by decide) rfl HE.out hW)
 clear hW
 go_wp2_with fail
 go_end0
 exact HR.out
theorem zL (T : ByteArray -> Int) (wb mb B B0 : Nat) (n : Int) (s : ByteArray) (a : Option Addr) (c : Nat) (loc : Int) (cv : Value) (L : List Ins) (V : World) (h : Wg V wb mb B B0 cv L T) (hL : L.length <= 100000) (hs : s.size <= maxLen) :
 Calls Tryz.prog 55 #[.pointer (some ⟨wb, 0, none⟩), .agg #[.int .i64 3, .int .i64 n, .string s, .slice a 0 c], .int .i64 loc] V (Wr wb mb B L cv V (ZU (.mk 3 n s (.slice a 0 c) [])) (fun L' => YL L' T loc (.mk 3 n s (.slice a 0 c) []) L.length)) := by
 have hg := Z8 V (.cells #[.int .i64 3, .int .i64 n, .string s, .slice a 0 c] 36)
 have gP := ZV V (.cells #[.int .i64 3, .int .i64 n, .string s, .slice a 0 c] 36)
 obtain ⟨p0, p1, p2, p3⟩ := ZP gP
 have hW2 := h.free hg
 generalize hW0 : V.alloc (.cells #[.int .i64 3, .int .i64 n, .string s, .slice a 0 c] 36) = W at *
 have HM := Z9 (fun (W2 : World) (hd : W.grownBy W2 none) => XW wb mb B cv L 2 (T s) 0 W2 (hW2.st.free hd) (Nat.le_trans hW2.size hd.size) (by omega))
 have HE := Z9 (Em.free (wb := wb) (r := cv.ownBlock) hg)
 have hlk := hW2.tm.look s hs
 have hlk2 := (hW2.free (Z4 W)).tm.look s hs
 obtain ⟨d0, d1⟩ := V9 hW2.st.blk
 have HMd := Z9 (HM.out _ (Z4 W))
 have HD := Z9 (Em.free (wb := wb) (r := cv.ownBlock) (Z4 W))
 have FN := Z6 h.st.blk
 have hcl0 := Zw h.st.own
 have HK := Z9 (fun (V2 : World) (hV : Qe wb mb B cv (L ++ [⟨2, T s, 0⟩]) W.drew V2) => show V2.cell? ⟨V.heap.size, 2, none⟩ = some (.string s) from by
  obtain ⟨cv', _, hE⟩ := hV; have := (hE.kept V.heap.size (Z6 gP) (by omega) (fun e => by have := (hcl0 _ e).2; omega)).trans gP; exact (ZP this).2.2.1)
 clear h gP hg hW2 HM
 go_in
 go_upto_region 5 with fail
 clear hW0
 go_region_held3 (fun w' => w'.cell? ⟨wb, 1, none⟩ = some (.map (some mb)) /\ w'.cell? ⟨V.heap.size, 2, none⟩ = some (.string s)) (first | exact ⟨d1, p2⟩ | exact ⟨k1, k2⟩)
  ((go_at_call 56; refine HMd.out.mono ?_; rintro e V2 ⟨rfl, hW⟩; have k1 := hW.cell; have k2 := HK.out V2 hW))
 all_goals
  have HR := Z9 (Qr (T := T) (n := n) (s := s) (loc := loc) (v := .slice a 0 c) (op := 3) (by decide) (by decide) rfl (HE.out.trans HD.out) hW); clear hW; go_wp2_with fail; go_end0; exact HR.out
theorem zK (caps : Int) (Ze : Int -> Int -> Bool) (T : ByteArray -> Int) (wb mb B B0 : Nat) (l : List Z0) (H : ∀ y ∈ l, UR caps Ze T wb mb B B0 y) (n : Int) (s : ByteArray) (a : Option Addr) (c : Nat) (loc : Int) (cv : Value) (L : List Ins) (V : World) (h : Wg V wb mb B B0 cv L T) (hx : Y0 B0 V (.mk 6 n s (.slice a l.length c) l)) (hf : ZI caps Ze loc (.mk 6 n s (.slice a l.length c) l) = true) (h0 : 0 <= loc) (hh : loc + YI l <= 100000) (hL : L.length + ZC l <= 100000) :
 Calls Tryz.prog 55 #[.pointer (some ⟨wb, 0, none⟩), .agg #[.int .i64 6, .int .i64 n, .string s, .slice a l.length c], .int .i64 loc] V (Wr wb mb B L cv V (ZU (.mk 6 n s (.slice a l.length c) l)) (fun L' => YL L' T loc (.mk 6 n s (.slice a l.length c) l) L.length)) := by
 have hg := Z8 V (.cells #[.int .i64 6, .int .i64 n, .string s, .slice a l.length c] 36)
 have gP := ZV V (.cells #[.int .i64 6, .int .i64 n, .string s, .slice a l.length c] 36)
 obtain ⟨p0, p1, p2, p3⟩ := ZP gP
 have HE1 := Z9 (Em.free (wb := wb) (r := cv.ownBlock) hg)
 have hW2 := h.free hg
 have hx2 := hx.under (h.below HE1.out)
 obtain ⟨hR, hm, hy⟩ := hx2.parts
 have HX := Z9 (Qs caps Ze T wb mb B B0 l H a c loc cv L _ hW2 hR hm hy (fun i hi => by have := (Za hf).2 i hi; rwa [WJ (by decide) (by decide)] at this) h0 hh hL)
 have vw := Z9 (Va hf)
 have FN := Z6 h.st.blk
 have hcl0 := Zw h.st.own
 have H2 := Z9 hW2
 have WO := Z9 gP
 have hm' : l.length <= 9223372036854775807 := by unfold maxLen at hm; omega
 clear h hx hf gP hg hW2 hx2 hR hm hy H
 go_in
 go_wp2_with fail
 refine HX.out.mono ?_
 rintro e V2 ⟨rfl, cv1, L1, hW3, hE3, hl3, hp3, hc3⟩
 have gP2 := (hE3.kept _ (Z6 WO.out) (by omega) (fun e => by have := (hcl0 _ e).2; omega)).trans WO.out
 have HE3 := Z9 (HE1.out.trans hE3)
 have HM := Z9 (XW wb mb B cv1 L1 10 (l.length : Int) 0 V2 hW3 (Nat.le_trans H2.out.size hE3.size) (by omega))
 have HC3 : Hid (L1.length = L.length + ZC l /\ (∀ i, i < L.length -> L1[i]? = L[i]?) /\ Wy L1 T loc l L.length) := ⟨hl3, hp3, hc3⟩
 clear p0 p1 p2 p3 hW3 hE3 hp3 hc3 HX
 obtain ⟨p0, p1, p2, p3⟩ := ZP gP2
 go_wp2_with fail
 refine HM.out.mono ?_
 rintro e V3 ⟨rfl, hW⟩
 have HR := Z9 (Qq (n := n) (s := s) (v := .slice a l.length c) (op := 6) (by decide) (by decide) vw.out rfl HE3.out HC3.out.1 HC3.out.2.1 HC3.out.2.2 hW)
 clear hW
 go_wp2_with fail
 go_end0
 exact HR.out
theorem zJ (caps : Int) (Ze : Int -> Int -> Bool) (T : ByteArray -> Int) (wb mb B B0 : Nat) (l : List Z0) (H : ∀ y ∈ l, UR caps Ze T wb mb B B0 y) (n : Int) (s : ByteArray) (a : Option Addr) (c : Nat) (loc : Int) (cv : Value) (L : List Ins) (V : World) (h : Wg V wb mb B B0 cv L T) (hx : Y0 B0 V (.mk 7 n s (.slice a l.length c) l)) (hf : ZI caps Ze loc (.mk 7 n s (.slice a l.length c) l) = true) (h0 : 0 <= loc) (hh : loc + YI l <= 100000) (hL : L.length + ZC l <= 100000) :
 Calls Tryz.prog 55 #[.pointer (some ⟨wb, 0, none⟩), .agg #[.int .i64 7, .int .i64 n, .string s, .slice a l.length c], .int .i64 loc] V (Wr wb mb B L cv V (ZU (.mk 7 n s (.slice a l.length c) l)) (fun L' => YL L' T loc (.mk 7 n s (.slice a l.length c) l) L.length)) := by
 have hg := Z8 V (.cells #[.int .i64 7, .int .i64 n, .string s, .slice a l.length c] 36)
 have gP := ZV V (.cells #[.int .i64 7, .int .i64 n, .string s, .slice a l.length c] 36)
 obtain ⟨p0, p1, p2, p3⟩ := ZP gP
 have HE1 := Z9 (Em.free (wb := wb) (r := cv.ownBlock) hg)
 have hW2 := h.free hg
 have hx2 := hx.under (h.below HE1.out)
 obtain ⟨hR, hm, hy⟩ := hx2.parts
 have HX := Z9 (Qs caps Ze T wb mb B B0 l H a c loc cv L _ hW2 hR hm hy (fun i hi => by have := (Za hf).2 i hi; rwa [WJ (by decide) (by decide)] at this) h0 hh hL)
 have vw := Z9 (Va hf)
 have FN := Z6 h.st.blk
 have hcl0 := Zw h.st.own
 have H2 := Z9 hW2
 have WO := Z9 gP
 have hm' : l.length <= 9223372036854775807 := by unfold maxLen at hm; omega
 clear h hx hf gP hg hW2 hx2 hR hm hy H
 go_in
 go_wp2_with fail
 refine HX.out.mono ?_
 rintro e V2 ⟨rfl, cv1, L1, hW3, hE3, hl3, hp3, hc3⟩
 have gP2 := (hE3.kept _ (Z6 WO.out) (by omega) (fun e => by have := (hcl0 _ e).2; omega)).trans WO.out
 have HE3 := Z9 (HE1.out.trans hE3)
 have HM := Z9 (XW wb mb B cv1 L1 11 n 0 V2 hW3 (Nat.le_trans H2.out.size hE3.size) (by omega))
 have HC3 : Hid (L1.length = L.length + ZC l /\ (∀ i, i < L.length -> L1[i]? = L[i]?) /\ Wy L1 T loc l L.length) := ⟨hl3, hp3, hc3⟩
 clear p0 p1 p2 p3 hW3 hE3 hp3 hc3 HX
 obtain ⟨p0, p1, p2, p3⟩ := ZP gP2
 go_wp2_with fail
 refine HM.out.mono ?_
 rintro e V3 ⟨rfl, hW⟩
 have HR := Z9 (Qq (n := n) (s := s) (v := .slice a l.length c) (op := 7) (by decide) (by decide) vw.out rfl HE3.out HC3.out.1 HC3.out.2.1 HC3.out.2.2 hW)
 clear hW
 go_wp2_with fail
 go_end0
 exact HR.out
theorem zI (caps : Int) (Ze : Int -> Int -> Bool) (T : ByteArray -> Int) (wb mb B B0 : Nat) (l : List Z0) (H : ∀ y ∈ l, UR caps Ze T wb mb B B0 y) (n : Int) (s : ByteArray) (a : Option Addr) (c : Nat) (loc : Int) (cv : Value) (L : List Ins) (V : World) (h : Wg V wb mb B B0 cv L T) (hx : Y0 B0 V (.mk 8 n s (.slice a l.length c) l)) (hf : ZI caps Ze loc (.mk 8 n s (.slice a l.length c) l) = true) (h0 : 0 <= loc) (hh : loc + YI l <= 100000) (hL : L.length + ZC l <= 100000) :
 Calls Tryz.prog 55 #[.pointer (some ⟨wb, 0, none⟩), .agg #[.int .i64 8, .int .i64 n, .string s, .slice a l.length c], .int .i64 loc] V (Wr wb mb B L cv V (ZU (.mk 8 n s (.slice a l.length c) l)) (fun L' => YL L' T loc (.mk 8 n s (.slice a l.length c) l) L.length)) := by
 have hg := Z8 V (.cells #[.int .i64 8, .int .i64 n, .string s, .slice a l.length c] 36)
 have gP := ZV V (.cells #[.int .i64 8, .int .i64 n, .string s, .slice a l.length c] 36)
 obtain ⟨p0, p1, p2, p3⟩ := ZP gP
 have HE1 := Z9 (Em.free (wb := wb) (r := cv.ownBlock) hg)
 have hW2 := h.free hg
 have hx2 := hx.under (h.below HE1.out)
 obtain ⟨hR, hm, hy⟩ := hx2.parts
 have HX := Z9 (Qs caps Ze T wb mb B B0 l H a c loc cv L _ hW2 hR hm hy (fun i hi => by have := (Za hf).2 i hi; rwa [WJ (by decide) (by decide)] at this) h0 hh hL)
 have vw := Z9 (Va hf)
 have FN := Z6 h.st.blk
 have hcl0 := Zw h.st.own
 have H2 := Z9 hW2
 have WO := Z9 gP
 have hm' : l.length <= 9223372036854775807 := by unfold maxLen at hm; omega
 clear h hx hf gP hg hW2 hx2 hR hm hy H
 go_in
 go_wp2_with fail
 refine HX.out.mono ?_
 rintro e V2 ⟨rfl, cv1, L1, hW3, hE3, hl3, hp3, hc3⟩
 have gP2 := (hE3.kept _ (Z6 WO.out) (by omega) (fun e => by have := (hcl0 _ e).2; omega)).trans WO.out
 have HE3 := Z9 (HE1.out.trans hE3)
 have HM := Z9 (XW wb mb B cv1 L1 12 n 0 V2 hW3 (Nat.le_trans H2.out.size hE3.size) (by omega))
 have HC3 : Hid (L1.length = L.length + ZC l /\ (∀ i, i < L.length -> L1[i]? = L[i]?) /\ Wy L1 T loc l L.length) := ⟨hl3, hp3, hc3⟩
 clear p0 p1 p2 p3 hW3 hE3 hp3 hc3 HX
 obtain ⟨p0, p1, p2, p3⟩ := ZP gP2
 go_wp2_with fail
 refine HM.out.mono ?_
 rintro e V3 ⟨rfl, hW⟩
 have HR := Z9 (Qq (n := n) (s := s) (v := .slice a l.length c) (op := 8) (by decide) (by decide) vw.out rfl HE3.out HC3.out.1 HC3.out.2.1 HC3.out.2.2 hW)
 clear hW
 go_wp2_with fail
 go_end0
 exact HR.out
theorem Dc (caps : Int) (Ze : Int -> Int -> Bool) (T : ByteArray -> Int) (wb mb B B0 : Nat) (l : List Z0) (H : ∀ y ∈ l, UR caps Ze T wb mb B B0 y) (n : Int) (s : ByteArray) (a : Option Addr) (c : Nat) (loc : Int) (cv : Value) (L : List Ins) (V : World) (h : Wg V wb mb B B0 cv L T) (hx : Y0 B0 V (.mk 12 n s (.slice a l.length c) l)) (hf : ZI caps Ze loc (.mk 12 n s (.slice a l.length c) l) = true) (h0 : 0 <= loc) (hh : loc + YI l <= 100000) (hL : L.length + ZC l <= 100000) :
 Calls Tryz.prog 55 #[.pointer (some ⟨wb, 0, none⟩), .agg #[.int .i64 12, .int .i64 n, .string s, .slice a l.length c], .int .i64 loc] V (Wr wb mb B L cv V (ZU (.mk 12 n s (.slice a l.length c) l)) (fun L' => YL L' T loc (.mk 12 n s (.slice a l.length c) l) L.length)) := by
 have hg := Z8 V (.cells #[.int .i64 12, .int .i64 n, .string s, .slice a l.length c] 36)
 have gP := ZV V (.cells #[.int .i64 12, .int .i64 n, .string s, .slice a l.length c] 36)
 obtain ⟨p0, p1, p2, p3⟩ := ZP gP
 have HE1 := Z9 (Em.free (wb := wb) (r := cv.ownBlock) hg)
 have hW2 := h.free hg
 have hx2 := hx.under (h.below HE1.out)
 obtain ⟨hR, hm, hy⟩ := hx2.parts
 have HX := Z9 (Qs caps Ze T wb mb B B0 l H a c loc cv L _ hW2 hR hm hy (fun i hi => by have := (Za hf).2 i hi; rwa [WJ (by decide) (by decide)] at this) h0 hh hL)
 have vw := Z9 (Va hf)
 have FN := Z6 h.st.blk
 have hcl0 := Zw h.st.own
 have H2 := Z9 hW2
 have WO := Z9 gP
 have hm' : l.length <= 9223372036854775807 := by unfold maxLen at hm; omega
 clear h hx hf gP hg hW2 hx2 hR hm hy H
 go_in
 go_wp2_with fail
 refine HX.out.mono ?_
 rintro e V2 ⟨rfl, cv1, L1, hW3, hE3, hl3, hp3, hc3⟩
 have gP2 := (hE3.kept _ (Z6 WO.out) (by omega) (fun e => by have := (hcl0 _ e).2; omega)).trans WO.out
 have HE3 := Z9 (HE1.out.trans hE3)
 have HM := Z9 (XW wb mb B cv1 L1 15 n 0 V2 hW3 (Nat.le_trans H2.out.size hE3.size) (by omega))
 have HC3 : Hid (L1.length = L.length + ZC l /\ (∀ i, i < L.length -> L1[i]? = L[i]?) /\ Wy L1 T loc l L.length) := ⟨hl3, hp3, hc3⟩
 clear p0 p1 p2 p3 hW3 hE3 hp3 hc3 HX
 obtain ⟨p0, p1, p2, p3⟩ := ZP gP2
 go_wp2_with fail
 refine HM.out.mono ?_
 rintro e V3 ⟨rfl, hW⟩
 have HR := Z9 (Qq (n := n) (s := s) (v := .slice a l.length c) (op := 12) (by decide) (by decide) vw.out rfl HE3.out HC3.out.1 HC3.out.2.1 HC3.out.2.2 hW)
 clear hW
 go_wp2_with fail
 go_end0
 exact HR.out
theorem Db (caps : Int) (Ze : Int -> Int -> Bool) (T : ByteArray -> Int) (wb mb B B0 : Nat) (l : List Z0) (H : ∀ y ∈ l, UR caps Ze T wb mb B B0 y) (n : Int) (s : ByteArray) (a : Option Addr) (c : Nat) (loc : Int) (cv : Value) (L : List Ins) (V : World) (h : Wg V wb mb B B0 cv L T) (hx : Y0 B0 V (.mk 24 n s (.slice a l.length c) l)) (hf : ZI caps Ze loc (.mk 24 n s (.slice a l.length c) l) = true) (h0 : 0 <= loc) (hh : loc + YI l <= 100000) (hL : L.length + ZC l <= 100000) :
 Calls Tryz.prog 55 #[.pointer (some ⟨wb, 0, none⟩), .agg #[.int .i64 24, .int .i64 n, .string s, .slice a l.length c], .int .i64 loc] V (Wr wb mb B L cv V (ZU (.mk 24 n s (.slice a l.length c) l)) (fun L' => YL L' T loc (.mk 24 n s (.slice a l.length c) l) L.length)) := by
 have hg := Z8 V (.cells #[.int .i64 24, .int .i64 n, .string s, .slice a l.length c] 36)
 have gP := ZV V (.cells #[.int .i64 24, .int .i64 n, .string s, .slice a l.length c] 36)
 obtain ⟨p0, p1, p2, p3⟩ := ZP gP
 have HE1 := Z9 (Em.free (wb := wb) (r := cv.ownBlock) hg)
 have hW2 := h.free hg
 have hx2 := hx.under (h.below HE1.out)
 obtain ⟨hR, hm, hy⟩ := hx2.parts
 have HX := Z9 (Qs caps Ze T wb mb B B0 l H a c loc cv L _ hW2 hR hm hy (fun i hi => by have := (Za hf).2 i hi; rwa [WJ (by decide) (by decide)] at this) h0 hh hL)
 have vw := Z9 (Va hf)
 have FN := Z6 h.st.blk
 have hcl0 := Zw h.st.own
 have H2 := Z9 hW2
 have WO := Z9 gP
 have hm' : l.length <= 9223372036854775807 := by unfold maxLen at hm; omega
 clear h hx hf gP hg hW2 hx2 hR hm hy H
 go_in
 go_wp2_with fail
 refine HX.out.mono ?_
 rintro e V2 ⟨rfl, cv1, L1, hW3, hE3, hl3, hp3, hc3⟩
 have gP2 := (hE3.kept _ (Z6 WO.out) (by omega) (fun e => by have := (hcl0 _ e).2; omega)).trans WO.out
 have HE3 := Z9 (HE1.out.trans hE3)
 have HM := Z9 (XW wb mb B cv1 L1 7 n (l.length : Int) V2 hW3 (Nat.le_trans H2.out.size hE3.size) (by omega))
 have HC3 : Hid (L1.length = L.length + ZC l /\ (∀ i, i < L.length -> L1[i]? = L[i]?) /\ Wy L1 T loc l L.length) := ⟨hl3, hp3, hc3⟩
 clear p0 p1 p2 p3 hW3 hE3 hp3 hc3 HX
 obtain ⟨p0, p1, p2, p3⟩ := ZP gP2
 go_wp2_with fail
 refine HM.out.mono ?_
 rintro e V3 ⟨rfl, hW⟩
 have HR := Z9 (Qq (n := n) (s := s) (v := .slice a l.length c) (op := 24) (by decide) (by decide) vw.out rfl HE3.out HC3.out.1 HC3.out.2.1 HC3.out.2.2 hW)
 clear hW
 go_wp2_with fail
 go_end0
 exact HR.out
theorem Da (caps : Int) (Ze : Int -> Int -> Bool) (T : ByteArray -> Int) (wb mb B B0 : Nat) (l : List Z0) (H : ∀ y ∈ l, UR caps Ze T wb mb B B0 y) (n : Int) (s : ByteArray) (a : Option Addr) (c : Nat) (loc : Int) (cv : Value) (L : List Ins) (V : World) (h : Wg V wb mb B B0 cv L T) (hx : Y0 B0 V (.mk 25 n s (.slice a l.length c) l)) (hf : ZI caps Ze loc (.mk 25 n s (.slice a l.length c) l) = true) (h0 : 0 <= loc) (hh : loc + YI l <= 100000) (hL : L.length + ZC l <= 100000) :
 Calls Tryz.prog 55 #[.pointer (some ⟨wb, 0, none⟩), .agg #[.int .i64 25, .int .i64 n, .string s, .slice a l.length c], .int .i64 loc] V (Wr wb mb B L cv V (ZU (.mk 25 n s (.slice a l.length c) l)) (fun L' => YL L' T loc (.mk 25 n s (.slice a l.length c) l) L.length)) := by
 have hg := Z8 V (.cells #[.int .i64 25, .int .i64 n, .string s, .slice a l.length c] 36)
 have gP := ZV V (.cells #[.int .i64 25, .int .i64 n, .string s, .slice a l.length c] 36)
 obtain ⟨p0, p1, p2, p3⟩ := ZP gP
 have HE1 := Z9 (Em.free (wb := wb) (r := cv.ownBlock) hg)
 have hW2 := h.free hg
 have hx2 := hx.under (h.below HE1.out)
 obtain ⟨hR, hm, hy⟩ := hx2.parts
 have HX := Z9 (Qs caps Ze T wb mb B B0 l H a c loc cv L _ hW2 hR hm hy (fun i hi => by have := (Za hf).2 i hi; rwa [WJ (by decide) (by decide)] at this) h0 hh hL)
 have vw := Z9 (Va hf)
 have FN := Z6 h.st.blk
 have hcl0 := Zw h.st.own
 have H2 := Z9 hW2
 have WO := Z9 gP
 have hm' : l.length <= 9223372036854775807 := by unfold maxLen at hm; omega
 clear h hx hf gP hg hW2 hx2 hR hm hy H
 go_in
 go_wp2_with fail
 refine HX.out.mono ?_
 rintro e V2 ⟨rfl, cv1, L1, hW3, hE3, hl3, hp3, hc3⟩
 have gP2 := (hE3.kept _ (Z6 WO.out) (by omega) (fun e => by have := (hcl0 _ e).2; omega)).trans WO.out
 have HE3 := Z9 (HE1.out.trans hE3)
 have HM := Z9 (XW wb mb B cv1 L1 8 0 0 V2 hW3 (Nat.le_trans H2.out.size hE3.size) (by omega))
 have HC3 : Hid (L1.length = L.length + ZC l /\ (∀ i, i < L.length -> L1[i]? = L[i]?) /\ Wy L1 T loc l L.length) := ⟨hl3, hp3, hc3⟩
 clear p0 p1 p2 p3 hW3 hE3 hp3 hc3 HX
 obtain ⟨p0, p1, p2, p3⟩ := ZP gP2
 go_wp2_with fail
 refine HM.out.mono ?_
 rintro e V3 ⟨rfl, hW⟩
 have HR := Z9 (Qq (n := n) (s := s) (v := .slice a l.length c) (op := 25) (by decide) (by decide) vw.out rfl HE3.out HC3.out.1 HC3.out.2.1 HC3.out.2.2 hW)
 clear hW
 go_wp2_with fail
 go_end0
 exact HR.out
theorem OB (n : Int) (s : ByteArray) (v : Value) (x y : Z0) : ZU (.mk 11 n s v [x, y]) = ZU x + 1 + ZU y := by
 rw [Xx, Z7 (by decide), Zm, Zm, Yi]; omega
theorem mo {wb mb B : Nat} {L L1 : List Ins} {cv cv2 : Value} {V V2 V' : World} {T : ByteArray -> Int} {n loc : Int} {s : ByteArray} {v : Value} {x y : Z0} (hwx : Tw x) (hE1 : Em wb V V2 cv.ownBlock cv2.ownBlock) (hl : L1.length = L.length + ZU x) (hp : ∀ i, i < L.length -> L1[i]? = L[i]?) (hc : YL L1 T loc x L.length)
 (hW : Wr wb mb B (L1 ++ [⟨4, loc, 0⟩]) cv2 V2 (ZU y) (fun L' => YL L' T (loc + 1) y (L1 ++ [(⟨4, loc, 0⟩ : Ins)]).length) (.returned (.tuple #[])) V') : Wr wb mb B L cv V (ZU (.mk 11 n s v [x, y])) (fun L' => YL L' T loc (.mk 11 n s v [x, y]) L.length) (.returned (.tuple #[])) V' := by
 obtain ⟨_, cv', L', hW, hE, hl2, hp2, hc2⟩ := hW
 rw [List.length_append, List.length_singleton] at hl2 hp2 hc2
 have hp3 : ∀ i, i < L1.length -> L'[i]? = L1[i]? := fun i hi => (hp2 i (by omega)).trans (List.getElem?_append_left hi)
 refine ⟨rfl, cv', L', hW, hE1.trans hE, by rw [OB]; omega, JO hp (by omega) hp3, ?_⟩
 show YL _ T loc _ L.length
 unfold YL
 rw [ZY rfl]
 unfold Ru
 refine ⟨XB x hwx _ _ hc fun i _ hi => hp3 i (by omega), ?_, ?_⟩
 ·rw [<- hl, hp2 _ (by omega), List.getElem?_append_right (Nat.le_refl _), Nat.sub_self]; rfl
 ·rw [VZ, <- hl]
  exact ⟨hc2, RQ ..⟩
theorem C9 (caps : Int) (Ze : Int -> Int -> Bool) (T : ByteArray -> Int) (wb mb B B0 : Nat) (x y : Z0) (Hx : UR caps Ze T wb mb B B0 x) (Hy : UR caps Ze T wb mb B B0 y) (n : Int) (s : ByteArray) (a : Option Addr) (c : Nat) (loc : Int) (cv : Value) (L : List Ins) (V : World) (h : Wg V wb mb B B0 cv L T) (hx : Y0 B0 V (.mk 11 n s (.slice a 2 c) [x, y])) (hf : ZI caps Ze loc (.mk 11 n s (.slice a 2 c) [x, y]) = true) (h0 : 0 <= loc) (hh : loc + YI [x, y] + 1 <= 100000) (hL : L.length + ZU (.mk 11 n s (.slice a 2 c) [x, y]) <= 100000) :
 Calls Tryz.prog 55 #[.pointer (some ⟨wb, 0, none⟩), .agg #[.int .i64 11, .int .i64 n, .string s, .slice a 2 c], .int .i64 loc] V (Wr wb mb B L cv V (ZU (.mk 11 n s (.slice a 2 c) [x, y])) (fun L' => YL L' T loc (.mk 11 n s (.slice a 2 c) [x, y]) L.length)) := by
 have hg := Z8 V (.cells #[.int .i64 11, .int .i64 n, .string s, .slice a 2 c] 36)
 have gP := ZV V (.cells #[.int .i64 11, .int .i64 n, .string s, .slice a 2 c] 36)
 obtain ⟨p0, p1, p2, p3⟩ := ZP gP
 have HE1 := Z9 (Em.free (wb := wb) (r := cv.ownBlock) hg)
 have hW2 := h.free hg
 obtain ⟨hR0, _, hy0⟩ := hx.parts
 have HR := Z9 hR0
 have hbx := h.below HE1.out
 have hfx := (Za hf).2 0 (by simp)
 have aA := (Za hf).2 1 (by simp)
 have hwx : Tw x := (Tq x _ hfx)
 rw [show lo 11 loc 0 = loc from rfl, show [x, y].getD 0 default = x from rfl] at hfx
 rw [show lo 11 loc 1 = loc + 1 from rfl, show [x, y].getD 1 default = y from rfl] at aA
 rw [OB] at hL
 rw [WK, WK, U4] at hh
 have hyx := hy0 x (by simp)
 have ay := hy0 y (by simp)
 have FN := Z6 h.st.blk
 have hcl0 := Zw h.st.own
 obtain ⟨b, off, rfl, Rx, c0, c1, c2, c3⟩ := XY (l := [x, y]) HR.out hbx 0 (by simp)
 rw [show [x, y].getD 0 default = x from rfl] at c0 c1 c2 c3
 have H0 := Z9 h
 have H2 := Z9 hW2
 have WO := Z9 gP
 have HX := Z9 (Hx loc cv L _ hW2 (hyx.under hbx) hfx h0 (by omega) (by omega))
 have HY := Z9 (fun cv2 L2 V2 (hW : Wg V2 wb mb B B0 cv2 L2 T) (hb : Below B0 V V2) (hl : L2.length + ZU y <= 100000) => Hy (loc + 1) cv2 L2 V2 hW (ay.under hb) aA (by omega) (by omega) hl)
 obtain ⟨xo, xn, xs, xv, xl⟩ := x
 obtain ⟨yo, yn, ys, yv, yl⟩ := y
 obtain ⟨xa, xc, rfl, _⟩ := hyx.parts.1
 obtain ⟨ya, yq, rfl, _⟩ := ay.parts.1
 simp only [Z0.op, Z0.n, Z0.s, Z0.lv, Nat.zero_mul, Nat.add_zero] at c0 c1 c2 c3
 rw [ZE] at HX HY
 clear h hx hf gP hg hW2 hyx ay hfx aA Hx Hy hR0 hy0
 go_in
 go_wp2_with fail
 refine HX.out.mono ?_
 rintro e V2 ⟨rfl, cv1, L1, hW3, hE3, hl3, hp3, hc3⟩
 have HG3 := Z9 (H2.out.step hW3 hE3)
 have HE3 := Z9 (HE1.out.trans hE3)
 have gP2 := (hE3.kept _ (Z6 WO.out) (by omega) (fun e => by have := (hcl0 _ e).2; omega)).trans WO.out
 have HM := Z9 (XW wb mb B cv1 L1 4 loc 0 V2 hW3 (Nat.le_trans H2.out.size hE3.size) (by omega))
 have HC3 : Hid (L1.length = L.length + _ /\ (∀ i, i < L.length -> L1[i]? = L[i]?) /\ YL L1 T loc _ L.length) := ⟨hl3, hp3, hc3⟩
 have hs3 := hE3.size
 have hlt3 := Z6 WO.out
 have qK : cv1.ownBlock ≠ some V.heap.size := fun e => by
  rcases hE3.own with e2 | ⟨g, e2, hg⟩
  ·rw [e2] at e; have := (hcl0 _ e).2; omega
  ·rw [e2] at e; cases e; omega
 clear p0 p1 p2 p3 c0 c1 c2 c3 hW3 hE3 hp3 hc3 HX
 go_wp2_with fail
 refine HM.out.mono ?_
 rintro e V3 ⟨rfl, cv2, hW4, hE4⟩
 have HG4 := Z9 (HG3.out.step hW4 hE4)
 have HE4 := Z9 (HE3.out.trans hE4)
 have hb4 := H0.out.below HE4.out
 have gP3 := (hE4.kept _ (Z6 gP2) (by omega) qK).trans gP2
 have HYY := Z9 (HY.out cv2 _ V3 HG4.out hb4 (by rw [List.length_append, List.length_singleton]; omega))
 obtain ⟨b', off', ha, Rx, c0, c1, c2, c3⟩ := XY (l := [_, _]) HR.out hb4 1 (Nat.lt_succ_self 1)
 cases ha
 simp only [Z0.op, Z0.n, Z0.s, Z0.lv, List.getD_cons_succ, List.getD_cons_zero, Nat.one_mul] at c0 c1 c2 c3
 obtain ⟨p0, p1, p2, p3⟩ := ZP gP3
 clear gP2 gP3 hW4 hE4 HM
 go_wp2_with fail
 refine HYY.out.mono ?_
 rintro e V4 hW5
 have HR5 := Z9 (mo (n := n) (s := s) (v := .slice (some ⟨b, off, none⟩) 2 c) hwx HE4.out HC3.out.1 HC3.out.2.1 HC3.out.2.2 (by have := hW5.1; subst this; exact hW5))
 have := hW5.1
 subst this
 clear hW5
 go_wp2_with fail
 go_end0
 exact HR5.out
end Go.Proofs.YtbcfdebdikgijaaGreatDoor
namespace Go.Proofs.YtbcfdebdikgijaaGreatDoor
open Go Go.RowKit
section
variable (T : ByteArray -> Int) (L : List Ins) (loc : Int) (x0 : Z0) (r : List Z0)
def Vo : Nat := L.length + ZU x0 + 1
def UQ (j : Nat) : Nat := Vo L x0 + r.length + ZC (r.take j) + j
def endP : Nat := L.length + ZU x0 + ZC r + 2 * r.length
structure QO (kt kc ke m : Nat) (M : List Ins) : Prop where
 len : M.length = Vo L x0 + r.length + ZC (r.take kc) + ke
 pre : ∀ i, i < L.length -> M[i]? = L[i]?
 c0 : YL M T loc x0 L.length
 sw : M[L.length + ZU x0]? = some ⟨13, loc, r.length⟩
 tab : ∀ j, j < r.length -> M[Vo L x0 + j]? = some ⟨14, if j < kt then (UQ L x0 r j : Int) else 0, 0⟩
 jK : ∀ j, j < kc -> YL M T (loc + 1) (r.getD j default) (UQ L x0 r j)
 jmp : ∀ j, j < ke -> M[UQ L x0 r j + ZU (r.getD j default)]? = some ⟨14, if j < m then (endP L x0 r : Int) else 0, 0⟩
end
section
variable {T : ByteArray -> Int} {L : List Ins} {loc : Int} {x0 : Z0} {r : List Z0}
theorem OA (j : Nat) (h : j < r.length) : UQ L x0 r (j + 1) = UQ L x0 r j + ZU (r.getD j default) + 1 := by
 unfold UQ; rw [RO r j h]; omega
theorem FM : ∀ (d i : Nat), i + d <= r.length -> UQ L x0 r i <= UQ L x0 r (i + d)
 | 0, i, _ => Nat.le_refl _
 | d + 1, i, h => by have := FM d i (by omega); have := OA (L := L) (x0 := x0) (r := r) (i + d) (by omega); rw [<- Nat.add_assoc]; omega
theorem VY {i j : Nat} (h : i < j) (hj : j <= r.length) : UQ L x0 r i + ZU (r.getD i default) + 1 <= UQ L x0 r j := by
 have h1 := OA (L := L) (x0 := x0) i (show i < r.length by omega)
 have h2 := FM (L := L) (x0 := x0) (r := r) (j - (i + 1)) (i + 1) (by omega)
 rw [show i + 1 + (j - (i + 1)) = j by omega] at h2
 omega
theorem I5 (j : Nat) : Vo L x0 + r.length <= UQ L x0 r j := by unfold UQ; omega
theorem qJ (h : 0 < r.length) : UQ L x0 r (r.length - 1) + ZU (r.getD (r.length - 1) default) = endP L x0 r := by
 have := OA (L := L) (x0 := x0) (r.length - 1) (show r.length - 1 < r.length by omega)
 rw [show r.length - 1 + 1 = r.length by omega] at this
 have h2 : UQ L x0 r r.length = Vo L x0 + r.length + ZC r + r.length := by unfold UQ; rw [List.take_length]
 unfold endP; unfold Vo at h2; omega
theorem Xl {M : List Ins} {i j : Nat} {a : Ins} (h : i ≠ j) : (M.set i a)[j]? = M[j]? := List.getElem?_set_ne h
theorem Lv {M : List Ins} {i : Nat} {a : Ins} (h : i < M.length) : (M.set i a)[i]? = some a := by rw [List.getElem?_set_self h]
theorem vv {M M2 : List Ins} (hl : M.length = L.length + ZU x0) (hp : ∀ i, i < L.length -> M[i]? = L[i]?) (hc : YL M T loc x0 L.length) (hw : Tw x0)
 (hl2 : M2.length = M.length + 1 + r.length) (hp2 : ∀ i, i < M.length -> M2[i]? = M[i]?) (hsw : M2[M.length]? = some ⟨13, loc, r.length⟩) (ht : ∀ j, j < r.length -> M2[M.length + 1 + j]? = some ⟨14, 0, 0⟩) : QO T L loc x0 r 0 0 0 0 M2 where
 len := by rw [List.take_zero, Yi]; unfold Vo; omega
 pre i hi := (hp2 i (by omega)).trans (hp i hi)
 c0 := XB x0 hw _ _ hc fun i _ hi => hp2 i (by omega)
 sw := by rw [<- hl]; exact hsw
 tab j hj := by
  have := ht j hj; rw [hl] at this; unfold Vo; rw [Z7 (by omega)]; exact this
 jK j hj := by omega
 jmp j hj := by omega
theorem mh {k : Nat} {M : List Ins} (hw : Tw x0) (hwr : Vk r) (hk : k < r.length) (h : QO T L loc x0 r k k k 0 M) : QO T L loc x0 r (k + 1) k k 0 (M.set (Vo L x0 + k) ⟨14, M.length, 0⟩) := by
 have hlen := h.len
 have hb : ∀ j, Vo L x0 + r.length <= UQ L x0 r j := I5
 have hlb : M.length = UQ L x0 r k := by rw [hlen]; unfold UQ; omega
 refine ⟨by rw [List.length_set]; exact hlen, fun i hi => ?_, ?_, ?_, fun j hj => ?_, fun j hj => ?_, fun j hj => ?_⟩
 ·rw [Xl (by unfold Vo; omega)]; exact h.pre i hi
 ·exact XB x0 hw _ _ h.c0 fun i _ hi => Xl (by unfold Vo; omega)
 ·rw [Xl (by unfold Vo; omega)]; exact h.sw
 ·by_cases e : j = k
  ·subst e
   rw [Lv (by omega), ZY (by omega), hlb]
  ·rw [Xl (by omega), h.tab j hj]
   by_cases hjk : j < k
   ·rw [ZY hjk, ZY (by omega)]
   ·rw [Z7 hjk, Z7 (by omega)]
 ·exact XB _ (Ti hwr _ (Zr default r j (by omega))) _ _ (h.jK j hj) fun i hi _ => Xl (by have := hb j; omega)
 ·rw [Xl (by have := hb j; omega)]; exact h.jmp j hj
theorem qI {k : Nat} {M M2 : List Ins} (hw : Tw x0) (hwr : Vk r) (hk : k < r.length) (h : QO T L loc x0 r (k + 1) k k 0 M) (hl : M2.length = M.length + ZU (r.getD k default)) (hp : ∀ i, i < M.length -> M2[i]? = M[i]?) (hc : YL M2 T (loc + 1) (r.getD k default) M.length) : QO T L loc x0 r (k + 1) (k + 1) k 0 M2 := by
 have hlen := h.len
 have hlb : M.length = UQ L x0 r k := by rw [hlen]; unfold UQ; omega
 have hb := I5 (L := L) (x0 := x0) (r := r) k
 refine ⟨by rw [RO r k hk]; omega, fun i hi => ?_, ?_, ?_, fun j hj => ?_, fun j hj => ?_, fun j hj => ?_⟩
 ·rw [hp i (by unfold Vo at hlen; omega)]; exact h.pre i hi
 ·exact XB x0 hw _ _ h.c0 fun i _ hi => hp i (by unfold Vo at hlen; omega)
 ·rw [hp _ (by unfold Vo at hlen; omega)]; exact h.sw
 ·rw [hp _ (by omega)]; exact h.tab j hj
 ·by_cases e : j = k
  ·subst e; rw [<- hlb]; exact hc
  ·have hbe := VY (L := L) (x0 := x0) (show j < k by omega) (Nat.le_of_lt hk)
   exact XB _ (Ti hwr _ (Zr default r j (by omega))) _ _ (h.jK j (by omega)) fun i _ hi => hp i (by omega)
 ·have hbe := VY (L := L) (x0 := x0) (show j < k by omega) (Nat.le_of_lt hk)
  rw [hp _ (by omega)]; exact h.jmp j hj
theorem qH {k : Nat} {M : List Ins} (hw : Tw x0) (hwr : Vk r) (hk : k < r.length) (h : QO T L loc x0 r (k + 1) (k + 1) k 0 M) : QO T L loc x0 r (k + 1) (k + 1) (k + 1) 0 (M ++ [⟨14, 0, 0⟩]) /\ M.length = UQ L x0 r k + ZU (r.getD k default) := by
 have hlen := h.len
 have hlb : M.length = UQ L x0 r k + ZU (r.getD k default) := by rw [hlen, RO r k hk]; unfold UQ; omega
 have hb := I5 (L := L) (x0 := x0) (r := r) k
 have hp : ∀ i, i < M.length -> (M ++ [(⟨14, 0, 0⟩ : Ins)])[i]? = M[i]? := fun i hi => List.getElem?_append_left hi
 refine ⟨⟨by rw [List.length_append, List.length_singleton]; omega, fun i hi => ?_, ?_, ?_, fun j hj => ?_, fun j hj => ?_, fun j hj => ?_⟩, hlb⟩
 ·rw [hp i (by unfold Vo at hlen; omega)]; exact h.pre i hi
 ·exact XB x0 hw _ _ h.c0 fun i _ hi => hp i (by unfold Vo at hlen; omega)
 ·rw [hp _ (by unfold Vo at hlen; omega)]; exact h.sw
 ·rw [hp _ (by omega)]; exact h.tab j hj
 ·have hbe := VY (L := L) (x0 := x0) (show j < k + 1 by omega) (show k + 1 <= r.length by omega)
  have hbn := OA (L := L) (x0 := x0) k hk; exact XB _ (Ti hwr _ (Zr default r j (by omega))) _ _ (h.jK j hj) fun i _ hi => hp i (by omega)
 ·by_cases e : j = k
  ·subst e
   rw [<- hlb, List.getElem?_append_right (Nat.le_refl _), Nat.sub_self, Z7 (by omega)]; rfl
  ·have hbe := VY (L := L) (x0 := x0) (show j < k by omega) (Nat.le_of_lt hk)
   rw [hp _ (by omega)]; exact h.jmp j (by omega)
theorem vo {m : Nat} {M : List Ins} (hw : Tw x0) (hwr : Vk r) (hm : m < r.length - 1) (h : QO T L loc x0 r r.length r.length (r.length - 1) m M) : QO T L loc x0 r r.length r.length (r.length - 1) (m + 1) (M.set (UQ L x0 r m + ZU (r.getD m default)) ⟨14, M.length, 0⟩) /\ UQ L x0 r m + ZU (r.getD m default) < M.length := by
 have hlen := h.len
 have hle : M.length = endP L x0 r := by rw [hlen, List.take_length]; unfold endP Vo; omega
 have hb := I5 (L := L) (x0 := x0) (r := r) m
 have jk := VY (L := L) (x0 := x0) (r := r) (show m < r.length - 1 by omega) (by omega)
 have hbe := qJ (L := L) (x0 := x0) (r := r) (by omega)
 have hlt : UQ L x0 r m + ZU (r.getD m default) < M.length := by omega
 refine ⟨⟨by rw [List.length_set]; exact hlen, fun i hi => ?_, ?_, ?_, fun j hj => ?_, fun j hj => ?_, fun j hj => ?_⟩, hlt⟩
 ·rw [Xl (by unfold Vo at hb; omega)]; exact h.pre i hi
 ·exact XB x0 hw _ _ h.c0 fun i _ hi => Xl (by unfold Vo at hb; omega)
 ·rw [Xl (by unfold Vo at hb; omega)]; exact h.sw
 ·rw [Xl (by omega)]; exact h.tab j hj
 ·refine XB _ (Ti hwr _ (Zr default r j hj)) _ _ (h.jK j hj) fun i hi1 hi2 => Xl ?_
  rcases (by omega : j < m \/ j = m \/ m < j) with hj2 | hj2 | hj2
  ·have := VY (L := L) (x0 := x0) (r := r) hj2 (by omega); omega
  ·subst hj2; omega
  ·have := VY (L := L) (x0 := x0) (r := r) hj2 (by omega); omega
 ·by_cases e : j = m
  ·subst e
   rw [Lv hlt, ZY (by omega), hle]
  ·rw [Xl (by
    rcases (by omega : j < m \/ m < j) with hj2 | hj2
    ·have := VY (L := L) (x0 := x0) (r := r) hj2 (by omega); omega
    ·have := VY (L := L) (x0 := x0) (r := r) hj2 (by omega); omega), h.jmp j hj]
   by_cases hjk : j < m
   ·rw [ZY hjk, ZY (by omega)]
   ·rw [Z7 hjk, Z7 (by omega)]
theorem FL {M : List Ins} {lc : Int} {e : Nat} : ∀ (l : List Z0) (tab s : Nat), (∀ j, j < l.length -> M[tab + j]? = some ⟨14, ((s + ZC (l.take j) + j : Nat) : Int), 0⟩) -> (∀ j, j < l.length -> YL M T lc (l.getD j default) (s + ZC (l.take j) + j)) ->
 (∀ j, j < l.length - 1 -> M[s + ZC (l.take j) + j + ZU (l.getD j default)]? = some ⟨14, (e : Int), 0⟩) -> Tz M T lc l tab s e
 | [], tab, s, _, _, _ => by unfold Tz; trivial
 | x :: r, tab, s, h1, h2, h3 => by
   unfold Tz; have e0 := h1 0 (by simp); have e1 := h2 0 (by simp); simp only [List.take_zero, Yi, Nat.add_zero] at e0 e1; refine ⟨by simpa using e0, by simpa using e1, fun hne => ?_, FL r (tab + 1) (s + ZU x + 1) (fun j hj => ?_) (fun j hj => ?_) (fun j hj => ?_)⟩
   ·have := h3 0 (by have := List.length_pos_iff.2 hne; simp; omega)
    simp only [List.take_zero, Yi, Nat.add_zero] at this; simpa using this
   ·have := h1 (j + 1) (by simpa using hj)
    rw [List.take_succ_cons, Zm] at this; rw [show tab + 1 + j = tab + (j + 1) by omega, show s + ZU x + 1 + ZC (r.take j) + j = s + (ZU x + ZC (r.take j)) + (j + 1) by omega]; exact this
   ·have := h2 (j + 1) (by simpa using hj)
    rw [List.take_succ_cons, Zm] at this; rw [show s + ZU x + 1 + ZC (r.take j) + j = s + (ZU x + ZC (r.take j)) + (j + 1) by omega]; simpa using this
   ·have := h3 (j + 1) (by simp; omega)
    rw [List.take_succ_cons, Zm] at this; rw [show s + ZU x + 1 + ZC (r.take j) + j = s + (ZU x + ZC (r.take j)) + (j + 1) by omega]; simpa using this
theorem qG {n : Int} {s : ByteArray} {v : Value} {M : List Ins} (hr : 0 < r.length) (h : QO T L loc x0 r r.length r.length (r.length - 1) (r.length - 1) M) : YL M T loc (.mk 9 n s v (x0 :: r)) L.length /\ M.length = L.length + ZU (.mk 9 n s v (x0 :: r)) := by
 constructor
 ·unfold YL
  rw [Z7 (by decide), ZY rfl]; unfold PV; refine ⟨h.c0, h.sw, FL r _ _ (fun j hj => ?_) (fun j hj => ?_) (fun j hj => ?_)⟩
  ·have := h.tab j hj
   rw [ZY hj] at this; exact this
  ·exact h.jK j hj
  ·have := h.jmp j hj
   rw [ZY hj] at this; exact this
 ·rw [Xx, ZY rfl, Zm, List.length_cons, h.len, List.take_length]; unfold Vo; omega
end
end Go.Proofs.YtbcfdebdikgijaaGreatDoor
