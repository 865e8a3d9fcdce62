/- shifted$1, shifted. Expanded by mac.py. normal.occurs. Expanded by mac.py. -/
import Derived.Test.YtkiffgdinmpljaaGreatDoorF9
import Derived.Test.YtkiffgdinmpljaaGreatDoorF7
set_option linter.unusedVariables false
set_option linter.unusedSimpArgs false
namespace Go.Proofs.YtkiffgdinmpljaaGreatDoor
open Go Go.RowKit
set_option maxHeartbeats 8000000
set_option maxRecDepth 100000
theorem ConOut.open' {P : Nat->Prop} {x : Cn} {e : Ending} {w' : World} (h : ConOut P x e w') : ∃ (d : ConD) (op n : Int) (s : ByteArray) (ka : Option Addr) (kn kc : Nat) (na : Option Addr) (nm nc : Nat) (la : Option Addr) (lm lc : Nat), e = .returned (.agg #[.int .i64 op, .int .i64 n, .string s, .slice ka kn kc, .slice na nm nc, .slice la lm lc])/\IsCon P w' d/\pC d = x/\conV d = .agg #[.int .i64 op, .int .i64 n, .string s, .slice ka kn kc, .slice na nm nc, .slice la lm lc] := by
 obtain ⟨d, rfl, hd, hp⟩ := h
 obtain ⟨op, n, s, k, ns, l, ka, kn, kc, na, nc, la, lc, rfl, hks, _⟩ := cSQ hd
 exact ⟨_, op, n, s, ka, kn, kc, na, _, nc, la, _, lc, by rw [cVQ hks], hd, hp, cVQ hks⟩
theorem grown_refl' (w : World) : w.grownBy w none := ⟨rfl, rfl, rfl, Nat.le_refl _, fun _ _ _ => rfl⟩
theorem cell_int {w : World} {q : Nat} {x : Value} {t : TypeId} (h : w.heap[q]? = some (.cells #[x] t (0, 0))) : w.cell? ⟨q, 0, none⟩ = some x := by simp [World.cell?, h]
def leafS (b f : Int) (c : Cn) (d : Int) : Cn := if c.op = 1/\f<=c.n - d then varC (c.n + b) else .mk c.op c.n c.s c.k [] []
theorem shifted1_any (P : Nat->Prop) (x : ConD) (fb bb : Nat) (b f d : Int) (w : World) (h : IsCon P w x) (hsz : sizeK (pC x).k<=100000) (hF : w.heap[fb]? = some (.cells #[.int .i64 f] 3 (0, 0))) (hB : w.heap[bb]? = some (.cells #[.int .i64 b] 3 (0, 0))) (hn : -1000000<=x.n) (hn1 : x.n<=1000000) (hb : -1000000<=b) (hb1 : b<=1000000) (hd : -1000000<=d) (hd1 : d<=1000000) :
 Calls Tryz.prog 110 (#[conV x, .int .i64 d] ++ #[.pointer (some ⟨fb, 0, none⟩), .pointer (some ⟨bb, 0, none⟩)]) w fun e w' => ConOut (fun b => w.heap.size<=b) (leafS b f (pC x) d) e w'/\Below w.heap.size w w' := by
 obtain ⟨op, n, s, k, nv, ns, lv, l⟩ := x
 have hn : -1000000<=n := hn
 have hn1 : n<=1000000 := hn1
 obtain ⟨ka, kc, kn, hks⟩ := iKQ h.parts.kind
 obtain ⟨na, nc, rfl, _⟩ := rSQ h.parts.names
 obtain ⟨a, c, rfl, _⟩ := rSQ h.parts.row
 rw [cVQ hks]
 have hll : l.length<=9223372036854775807 := by have h1 := h.parts.llen; have : maxLen = 9223372036854775807 := (by decide); omega
 have hnn : ns.length<=9223372036854775807 := by have h1 := h.parts.nlen; have : maxLen = 9223372036854775807 := (by decide); omega
 have hb0 : Below w.heap.size w (w.alloc (.cells #[.int .i64 op, .int .i64 n, .string s, .slice ka kn kc, .slice na ns.length nc, .slice a l.length c] 28)) := (Below.refl _ _).alloc (Nat.le_refl _) _
 have gC := nHQ w (.cells #[.int .i64 op, .int .i64 n, .string s, .slice ka kn kc, .slice na ns.length nc, .slice a l.length c] 28)
 have hsz0 : (w.alloc (.cells #[.int .i64 op, .int .i64 n, .string s, .slice ka kn kc, .slice na ns.length nc, .slice a l.length c] 28)).heap.size = w.heap.size + 1 := by simp
 obtain ⟨c0, c1, c2, c3, c4, c5⟩ := cnQ gC
 have HP := hJQ (iBQ h hb0).parts
 have HC0 := hJQ (iBQ h hb0)
 have hg1 := gAQ (w.alloc (.cells #[.int .i64 op, .int .i64 n, .string s, .slice ka kn kc, .slice na ns.length nc, .slice a l.length c] 28)) (.cells #[.int .i64 0, .int .i64 0, .string ⟨#[]⟩, .slice none 0 0, .slice none 0 0, .slice none 0 0] 28)
 have kR : ((w.alloc (.cells #[.int .i64 op, .int .i64 n, .string s, .slice ka kn kc, .slice na ns.length nc, .slice a l.length c] 28)).alloc (.cells #[.int .i64 0, .int .i64 0, .string ⟨#[]⟩, .slice none 0 0, .slice none 0 0, .slice none 0 0] 28)).heap[w.heap.size + 1]? = _ := (congrArg _ hsz0.symm).trans (nHQ (w.alloc (.cells #[.int .i64 op, .int .i64 n, .string s, .slice ka kn kc, .slice na ns.length nc, .slice a l.length c] 28)) (.cells #[.int .i64 0, .int .i64 0, .string ⟨#[]⟩, .slice none 0 0, .slice none 0 0, .slice none 0 0] 28))
 have kB := (hg1.block w.heap.size (by omega) (by nofun)).trans gC
 have hg2 := gBQ (gAQ w (.cells #[.int .i64 op, .int .i64 n, .string s, .slice ka kn kc, .slice na ns.length nc, .slice a l.length c] 28)) hg1
 have kF := (hg2.block fb (hLQ hF) (by nofun)).trans hF
 have kb := (hg2.block bb (hLQ hB) (by nofun)).trans hB
 have hcc := h.grown hg2 (by nofun)
 have hbW := gUQ (B := w.heap.size) hg2 (Nat.le_refl _) (by nofun)
 have hszW : ((w.alloc (.cells #[.int .i64 op, .int .i64 n, .string s, .slice ka kn kc, .slice na ns.length nc, .slice a l.length c] 28)).alloc (.cells #[.int .i64 0, .int .i64 0, .string ⟨#[]⟩, .slice none 0 0, .slice none 0 0, .slice none 0 0] 28)).heap.size = w.heap.size + 2 := by simp
 have hPur : Hid (pC (.mk op n s k (.slice na ns.length nc) ns (.slice a l.length c) l) = .mk op n s (pK k) ns (l.map pC)) := pMQ ..
 have HLeaf := hJQ (fun W (hW : ((w.alloc (.cells #[.int .i64 op, .int .i64 n, .string s, .slice ka kn kc, .slice na ns.length nc, .slice a l.length c] 28)).alloc (.cells #[.int .i64 0, .int .i64 0, .string ⟨#[]⟩, .slice none 0 0, .slice none 0 0, .slice none 0 0] 28)).grownBy W none) => leafOf_any P _ W (hcc.grown hW (by nofun)) hsz)
 rw [cVQ hks] at HLeaf
 have HVar := hJQ (fun W : World => variable_any (fun b => W.heap.size<=b) (n + b) W)
 clear c0 c1 c2 c3 c4 c5 h hb0 gC HP HC0 hsz0 hg1 hsz hcc hg2 hF hB
 by_cases q1 : op = 1/\f<=n - d
 ·obtain ⟨q1, q2⟩ := q1
  have HE : Hid (leafS b f (.mk op n s (pK k) ns (l.map pC)) d = varC (n + b)) := by
   show _ = _; unfold leafS; rw [if_pos ⟨q1, q2⟩]; rfl
  have q1' : (op == 1) = true := beq_iff_eq.2 q1
  rw [hPur.out, HE.out]
  clear q1 hPur HLeaf hks
  go_enter Tryz.func110, Tryz.ntmps110
  go_upto_region 1 with fail
  generalize (w.alloc (.cells #[.int .i64 op, .int .i64 n, .string s, .slice ka kn kc, .slice na ns.length nc, .slice a l.length c] 28)).alloc (.cells #[.int .i64 0, .int .i64 0, .string ⟨#[]⟩, .slice none 0 0, .slice none 0 0, .slice none 0 0] 28) = W at *
  obtain ⟨c0, c1, c2, c3, c4, c5⟩ := cnQ kB
  have cF := cell_int kF
  have cB := cell_int kb
  go_wp2_with fail
  refine (HVar.out W).mono ?_
  rintro e w2 ⟨ho, hb2⟩
  obtain ⟨dd, xo, xn, xs, xka, xkn, xkc, xna, xnm, xnc, xla, xlm, xlc, rfl, hdd, hpd, hdv⟩ := ho.open'
  have gR2 := (hb2.block _ (hLQ kR)).trans kR
  have hltR := hLQ kR
  have hrow := gRQ w2 (w.heap.size + 1) #[.int .i64 xo, .int .i64 xn, .string xs, .slice xka xkn xkc, .slice xna xnm xnc, .slice xla xlm xlc]
  have HR3 := hJQ (setRow_heap w2 (w.heap.size + 1) _ #[.int .i64 xo, .int .i64 xn, .string xs, .slice xka xkn xkc, .slice xna xnm xnc, .slice xla xlm xlc] _ _ gR2)
  have HB := hJQ ((hbW.trans (hb2.mono hbW.size)).trans (gUQ (B := w.heap.size) hrow (by have := hbW.size; have := hb2.size; omega) (fun q hq => by have e2 : (w.heap.size + 1) = q := oJQ hq; omega)))
  have HD := hJQ ((hdd.grown hrow (fun q hq hp => by have e2 : (w.heap.size + 1) = q := oJQ hq; have hp : W.heap.size<=q := hp; omega)).mono (Q := (fun b => w.heap.size<=b)) (fun b hb _ => by have hb : W.heap.size<=b := hb; have := hbW.size; show w.heap.size<=b; omega))
  clear hrow hdd ho hb2
  go_wp2_with (refine wpList_store_row rfl 28 _ _ rfl (w.heap.size + 1) _ rfl rfl 28 _ gR2 cIQ rfl (all_one _ rfl) ?_)
  refine bodyPost_ret (results_cell_row rfl _ _ (w.heap.size + 1) 28 #[.int .i64 xo, .int .i64 xn, .string xs, .slice xka xkn xkc, .slice xna xnm xnc, .slice xla xlm xlc] (0, 0) _ rfl HR3.out Tryz.underlying28 rfl cIQ) rfl ?_
  exact ⟨⟨dd, by rw [hdv], HD.out, hpd⟩, HB.out⟩
 ·have HE : Hid (leafS b f (.mk op n s (pK k) ns (l.map pC)) d = .mk op n s (pK k) [] []) := if_neg q1
  rw [hPur.out, HE.out]
  clear hPur HVar hks
  have q2 : op ≠ 1 ∨ (op = 1/\¬ f<=n - d) := by
   by_cases h : op = 1
   ·exact .inr ⟨h, fun h2 => q1 ⟨h, h2⟩⟩
   ·exact .inl h
  clear q1
  rcases q2 with q2 | ⟨q1, q2⟩
  ·have q2' : (op == 1) = false := beq_eq_false_iff_ne.2 q2
   go_enter Tryz.func110, Tryz.ntmps110
   go_upto_region 1 with fail
   have HL := hJQ (HLeaf.out _ (grown_refl' _))
   clear HLeaf
   generalize (w.alloc (.cells #[.int .i64 op, .int .i64 n, .string s, .slice ka kn kc, .slice na ns.length nc, .slice a l.length c] 28)).alloc (.cells #[.int .i64 0, .int .i64 0, .string ⟨#[]⟩, .slice none 0 0, .slice none 0 0, .slice none 0 0] 28) = W at *
   obtain ⟨c0, c1, c2, c3, c4, c5⟩ := cnQ kB
   have cF := cell_int kF
   have cB := cell_int kb
   go_wp2_with fail
   refine (HL.out).mono ?_
   rintro e w2 ⟨ho, hb2⟩
   obtain ⟨dd, xo, xn, xs, xka, xkn, xkc, xna, xnm, xnc, xla, xlm, xlc, rfl, hdd, hpd, hdv⟩ := ho.open'
   have gR2 := (hb2.block _ (hLQ kR)).trans kR
   have hltR := hLQ kR
   have hrow := gRQ w2 (w.heap.size + 1) #[.int .i64 xo, .int .i64 xn, .string xs, .slice xka xkn xkc, .slice xna xnm xnc, .slice xla xlm xlc]
   have HR3 := hJQ (setRow_heap w2 (w.heap.size + 1) _ #[.int .i64 xo, .int .i64 xn, .string xs, .slice xka xkn xkc, .slice xna xnm xnc, .slice xla xlm xlc] _ _ gR2)
   have HB := hJQ ((hbW.trans (hb2.mono hbW.size)).trans (gUQ (B := w.heap.size) hrow (by have := hbW.size; have := hb2.size; omega) (fun q hq => by have e2 : (w.heap.size + 1) = q := oJQ hq; omega)))
   have HD := hJQ ((hdd.grown hrow (fun q hq hp => by have e2 : (w.heap.size + 1) = q := oJQ hq; have hp : W.heap.size<=q := hp; omega)).mono (Q := (fun b => w.heap.size<=b)) (fun b hb _ => by have hb : W.heap.size<=b := hb; have := hbW.size; show w.heap.size<=b; omega))
   clear hrow hdd ho hb2
   go_wp2_with (refine wpList_store_row rfl 28 _ _ rfl (w.heap.size + 1) _ rfl rfl 28 _ gR2 cIQ rfl (all_one _ rfl) ?_)
   refine bodyPost_ret (results_cell_row rfl _ _ (w.heap.size + 1) 28 #[.int .i64 xo, .int .i64 xn, .string xs, .slice xka xkn xkc, .slice xna xnm xnc, .slice xla xlm xlc] (0, 0) _ rfl HR3.out Tryz.underlying28 rfl cIQ) rfl ?_
   exact ⟨⟨dd, by rw [hdv], HD.out, hpd⟩, HB.out⟩
  ·have q1' : (op == 1) = true := beq_iff_eq.2 q1
   clear q1
   go_enter Tryz.func110, Tryz.ntmps110
   go_upto_region 1 with fail
   have HL := hJQ (HLeaf.out _ (grown_refl' _))
   clear HLeaf
   generalize (w.alloc (.cells #[.int .i64 op, .int .i64 n, .string s, .slice ka kn kc, .slice na ns.length nc, .slice a l.length c] 28)).alloc (.cells #[.int .i64 0, .int .i64 0, .string ⟨#[]⟩, .slice none 0 0, .slice none 0 0, .slice none 0 0] 28) = W at *
   obtain ⟨c0, c1, c2, c3, c4, c5⟩ := cnQ kB
   have cF := cell_int kF
   have cB := cell_int kb
   go_wp2_with fail
   refine (HL.out).mono ?_
   rintro e w2 ⟨ho, hb2⟩
   obtain ⟨dd, xo, xn, xs, xka, xkn, xkc, xna, xnm, xnc, xla, xlm, xlc, rfl, hdd, hpd, hdv⟩ := ho.open'
   have gR2 := (hb2.block _ (hLQ kR)).trans kR
   have hltR := hLQ kR
   have hrow := gRQ w2 (w.heap.size + 1) #[.int .i64 xo, .int .i64 xn, .string xs, .slice xka xkn xkc, .slice xna xnm xnc, .slice xla xlm xlc]
   have HR3 := hJQ (setRow_heap w2 (w.heap.size + 1) _ #[.int .i64 xo, .int .i64 xn, .string xs, .slice xka xkn xkc, .slice xna xnm xnc, .slice xla xlm xlc] _ _ gR2)
   have HB := hJQ ((hbW.trans (hb2.mono hbW.size)).trans (gUQ (B := w.heap.size) hrow (by have := hbW.size; have := hb2.size; omega) (fun q hq => by have e2 : (w.heap.size + 1) = q := oJQ hq; omega)))
   have HD := hJQ ((hdd.grown hrow (fun q hq hp => by have e2 : (w.heap.size + 1) = q := oJQ hq; have hp : W.heap.size<=q := hp; omega)).mono (Q := (fun b => w.heap.size<=b)) (fun b hb _ => by have hb : W.heap.size<=b := hb; have := hbW.size; show w.heap.size<=b; omega))
   clear hrow hdd ho hb2
   go_wp2_with (refine wpList_store_row rfl 28 _ _ rfl (w.heap.size + 1) _ rfl rfl 28 _ gR2 cIQ rfl (all_one _ rfl) ?_)
   refine bodyPost_ret (results_cell_row rfl _ _ (w.heap.size + 1) 28 #[.int .i64 xo, .int .i64 xn, .string xs, .slice xka xkn xkc, .slice xna xnm xnc, .slice xla xlm xlc] (0, 0) _ rfl HR3.out Tryz.underlying28 rfl cIQ) rfl ?_
   exact ⟨⟨dd, by rw [hdv], HD.out, hpd⟩, HB.out⟩
theorem depthCL_ge' (l : List Cn) (x : Cn) (h : x ∈ l) : dCQ x<=depthCL l := by
 induction l with
 | nil => cases h
 | cons y l ih =>
   rw [depthCL_cons]
   rcases List.mem_cons.1 h with rfl | h
   ·omega
   ·have := ih h; omega
def OccAll (x : ConD) : Prop := ∀ (P : Nat->Prop) (w : World) (i : Int), IsCon P w x->0<=i->i + dCQ (pC x)<=1000000->Calls Tryz.prog 98 #[conV x, .int .i64 i] w fun e w' => e = .returned (.bool (occC i (pC x)))/\Below w.heap.size w w'
theorem occurs1_any (P : Nat->Prop) (x : ConD) (H : OccAll x) (nb : Nat) (w : World) (i : Int) (h : IsCon P w x) (hN : w.heap[nb]? = some (.cells #[.int .i64 i] 3 (0, 0))) (h0 : 0<=i) (h1 : i + dCQ (pC x)<=1000000) :
 Calls Tryz.prog 125 (#[conV x] ++ #[.pointer (some ⟨nb, 0, none⟩)]) w fun e w' => e = .returned (.bool (occC i (pC x)))/\Below w.heap.size w w' := by
 obtain ⟨op, n, s, k, nv, ns, lv, l⟩ := x
 obtain ⟨ka, kc, kn, hks⟩ := iKQ h.parts.kind
 obtain ⟨na, nc, rfl, _⟩ := rSQ h.parts.names
 obtain ⟨a, c, rfl, _⟩ := rSQ h.parts.row
 rw [cVQ hks]
 have hll : l.length<=9223372036854775807 := by have h1 := h.parts.llen; have : maxLen = 9223372036854775807 := (by decide); omega
 have hnn : ns.length<=9223372036854775807 := by have h1 := h.parts.nlen; have : maxLen = 9223372036854775807 := (by decide); omega
 have hb0 : Below w.heap.size w (w.alloc (.cells #[.int .i64 op, .int .i64 n, .string s, .slice ka kn kc, .slice na ns.length nc, .slice a l.length c] 28)) := (Below.refl _ _).alloc (Nat.le_refl _) _
 have gC := nHQ w (.cells #[.int .i64 op, .int .i64 n, .string s, .slice ka kn kc, .slice na ns.length nc, .slice a l.length c] 28)
 have hsz0 : (w.alloc (.cells #[.int .i64 op, .int .i64 n, .string s, .slice ka kn kc, .slice na ns.length nc, .slice a l.length c] 28)).heap.size = w.heap.size + 1 := by simp
 obtain ⟨c0, c1, c2, c3, c4, c5⟩ := cnQ gC
 have HP := hJQ (iBQ h hb0).parts
 have HC0 := hJQ (iBQ h hb0)
 have hN2 := (hb0.block _ (hLQ hN)).trans hN
 have cN := cell_int hN2
 have HC := hJQ (H P _ i HC0.out h0 h1)
 rw [cVQ hks] at HC
 clear h hks HP HC0 hsz0 H gC hN hN2
 generalize pC (.mk op n s k (.slice na ns.length nc) ns (.slice a l.length c) l) = x at *
 go_enter Tryz.func125, Tryz.ntmps125
 go_wp2_with fail
 refine HC.out.mono ?_
 rintro e w2 ⟨rfl, hb2⟩
 have hbz := hb0.trans (hb2.mono hb0.size)
 clear HC
 go_wp2_with fail
 go_ret
 exact ⟨rfl, hbz⟩
theorem occL_any (P : Nat->Prop) (v : Value) (l : List ConD) (H : ∀ y ∈ l, OccAll y) (nb : Nat) (w : World) (i : Int) (h : RowP P w v l.length (cCQ l)) (hm : l.length<=9223372036854775807) (ha : ∀ y ∈ l, IsCon P w y) (hN : w.heap[nb]? = some (.cells #[.int .i64 i] 3 (0, 0))) (h0 : 0<=i) (h1 : i + depthCL (l.map pC)<=1000000) :
 Calls Tryz.prog 22 #[v, .func (.func 125) #[] #[.pointer (some ⟨nb, 0, none⟩)]] w fun e w' => e = .returned (.bool ((l.map pC).any (occC i)))/\Below w.heap.size w w' := by
 refine (containsC_any 125 #[.pointer (some ⟨nb, 0, none⟩)] (enters_of Tryz.func125 (by kernel_rfl) rfl) P v l (fun j V => ((l.map pC).take j).any (occC i) = false/\Below w.heap.size w V) (fun j V => (j < l.length->occC i (pC (l.getD j default)) = true)/\Below w.heap.size w V) w ⟨by rw [List.take_zero]; rfl, Below.refl _ _⟩ (fun j V hI => Kept.of_below hI.2) (fun j V hj hI => ?_) h hm ha).mono ?_
 ·have hmem := mem_getD l j hj
  have hm' : pC (l.getD j default) ∈ l.map pC := List.mem_map_of_mem hmem
  refine (occurs1_any P (l.getD j default) (H _ hmem) nb V i (iBQ (ha _ hmem) hI.2) ((hI.2.block _ (hLQ hN)).trans hN) h0 (by have := depthCL_ge' _ _ hm'; omega)).mono fun e V' ⟨he, hb⟩ => ⟨_, he, fun hb1 => ⟨fun _ => hb1, hI.2.trans (hb.mono hI.2.size)⟩, fun hb1 => ⟨?_, hI.2.trans (hb.mono hI.2.size)⟩⟩
  have hT : (l.map pC).take (j + 1) = (l.map pC).take j ++ [pC (l.getD j default)] := by
   rw [take_get default _ j (by rw [List.length_map]; exact hj), map_getD pC l j hj]
  rw [hT, List.any_append, hI.1, List.any_cons, List.any_nil, hb1]; rfl
 ·rintro e w' ⟨b, rfl, hy, hn⟩
  cases b
  ·obtain ⟨h1, h2⟩ := hn rfl
   rw [take_all] at h1
   exact ⟨by rw [h1], h2⟩
  ·obtain ⟨j, hj, h1, h2⟩ := hy rfl
   refine ⟨?_, h2⟩
   have : (l.map pC).any (occC i) = true := by
    rw [List.any_eq_true]; exact ⟨_, List.mem_map_of_mem (mem_getD l j hj), h1 hj⟩
   rw [this]
theorem occurs_any : ∀ x : ConD, OccAll x := by
 refine ConD.ind (fun op n s k nv ns lv l ih P w i h h0 h1 => ?_)
 obtain ⟨ka, kc, kn, hks⟩ := iKQ h.parts.kind
 obtain ⟨na, nc, rfl, _⟩ := rSQ h.parts.names
 obtain ⟨a, c, rfl, _⟩ := rSQ h.parts.row
 rw [cVQ hks]
 have hll : l.length<=9223372036854775807 := by have h1 := h.parts.llen; have : maxLen = 9223372036854775807 := (by decide); omega
 have hnn : ns.length<=9223372036854775807 := by have h1 := h.parts.nlen; have : maxLen = 9223372036854775807 := (by decide); omega
 have hb0 : Below w.heap.size w (w.alloc (.cells #[.int .i64 op, .int .i64 n, .string s, .slice ka kn kc, .slice na ns.length nc, .slice a l.length c] 28)) := (Below.refl _ _).alloc (Nat.le_refl _) _
 have gC := nHQ w (.cells #[.int .i64 op, .int .i64 n, .string s, .slice ka kn kc, .slice na ns.length nc, .slice a l.length c] 28)
 have hsz0 : (w.alloc (.cells #[.int .i64 op, .int .i64 n, .string s, .slice ka kn kc, .slice na ns.length nc, .slice a l.length c] 28)).heap.size = w.heap.size + 1 := by simp
 obtain ⟨c0, c1, c2, c3, c4, c5⟩ := cnQ gC
 have HP := hJQ (iBQ h hb0).parts
 have HC0 := hJQ (iBQ h hb0)
 rw [pMQ] at h1 ⊢
 rw [depthC_mk] at h1
 rw [occC_mk]
 have hgN := gAQ (w.alloc (.cells #[.int .i64 op, .int .i64 n, .string s, .slice ka kn kc, .slice na ns.length nc, .slice a l.length c] 28)) (.cells #[.int .i64 i] 3)
 have kN : ((w.alloc (.cells #[.int .i64 op, .int .i64 n, .string s, .slice ka kn kc, .slice na ns.length nc, .slice a l.length c] 28)).alloc (.cells #[.int .i64 i] 3)).heap[w.heap.size + 1]? = _ := (congrArg _ hsz0.symm).trans (nHQ (w.alloc (.cells #[.int .i64 op, .int .i64 n, .string s, .slice ka kn kc, .slice na ns.length nc, .slice a l.length c] 28)) (.cells #[.int .i64 i] 3))
 have kB := (hgN.block w.heap.size (by omega) (by nofun)).trans gC
 have hgW := gBQ (gAQ w (.cells #[.int .i64 op, .int .i64 n, .string s, .slice ka kn kc, .slice na ns.length nc, .slice a l.length c] 28)) hgN
 have hszW : ((w.alloc (.cells #[.int .i64 op, .int .i64 n, .string s, .slice ka kn kc, .slice na ns.length nc, .slice a l.length c] 28)).alloc (.cells #[.int .i64 i] 3)).heap.size = w.heap.size + 2 := by simp
 have HW := hJQ (h.lt.grown hgW (by nofun)).parts
 have HI := hJQ ih
 have HB : ∀ W, Hid (Calls Tryz.prog 124 #[.int .i64 op] W fun e w' => e = .returned (.bool (binderB op))/\w' = W) := fun W => hJQ (opBinder_any 124 (.inl rfl) op W)
 clear h hks HP HC0 hsz0 gC ih c0 c1 c2 c3 c4 c5 hb0 hgN
 have HGW := hJQ hgW
 have hbW := gUQ (B := w.heap.size) hgW (Nat.le_refl _) (by nofun)
 by_cases q1 : op = 1
 ·subst q1
  rw [if_pos rfl]
  go_enter Tryz.func98, Tryz.ntmps98
  go_upto_region 1 with fail
  generalize (w.alloc (.cells #[.int .i64 1, .int .i64 n, .string s, .slice ka kn kc, .slice na ns.length nc, .slice a l.length c] 28)).alloc (.cells #[.int .i64 i] 3) = W at *
  obtain ⟨c0, c1, c2, c3, c4, c5⟩ := cnQ kB
  have cN := cell_int kN
  go_wp2_with fail
  go_ret
  exact ⟨rfl, hbW⟩
 ·have q1' : (op == 1) = false := beq_eq_false_iff_ne.2 q1
  rw [if_neg q1]
  clear q1
  obtain ⟨bb, hbb⟩ : ∃ b, binderB op = b := ⟨_, rfl⟩
  have HB : ∀ W, Hid (Calls Tryz.prog 124 #[.int .i64 op] W fun e w' => e = .returned (.bool bb)/\w' = W) := fun W => by rw [← hbb]; exact HB W
  rw [hbb]
  clear hbb
  cases bb
  ·rw [show (if (false : Bool) = true then i + 1 else i) = i from rfl]
   go_enter Tryz.func98, Tryz.ntmps98
   go_upto_region 1 with fail
   generalize (w.alloc (.cells #[.int .i64 op, .int .i64 n, .string s, .slice ka kn kc, .slice na ns.length nc, .slice a l.length c] 28)).alloc (.cells #[.int .i64 i] 3) = W at *
   obtain ⟨c0, c1, c2, c3, c4, c5⟩ := cnQ kB
   have cN := cell_int kN
   have fN : W.frozen? ⟨w.heap.size + 1, 0, none⟩ = false := Lib.frozen_of_heap kN 0
   have HB2 := HB W
   have HL := hJQ (occL_any _ _ l (fun y hy => HI.out y hy) (w.heap.size + 1) W i HW.out.row hll HW.out.all kN h0 (by omega))
   obtain ⟨q, hq⟩ : ∃ q, (l.map pC).any (occC i) = q := ⟨_, rfl⟩
   rw [hq] at HL
   have HQ : Hid (Ending.returned (.bool q) = Ending.returned (.bool ((l.map pC).any (occC i)))) := by show _ = _; rw [hq]
   clear hq
   go_wp2_with fail
   refine HB2.out.mono ?_
   rintro e w2 ⟨rfl, rfl⟩
   clear HB
   go_wp2_with fail
   refine HL.out.mono ?_
   rintro e w3 ⟨rfl, hb3⟩
   have hbz := hbW.trans (hb3.mono hbW.size)
   clear HL HB2
   go_wp2_with fail
   go_ret
   exact ⟨HQ.out, hbz⟩
  ·rw [show (if (true : Bool) = true then i + 1 else i) = i + 1 from rfl]
   go_enter Tryz.func98, Tryz.ntmps98
   go_upto_region 1 with fail
   generalize (w.alloc (.cells #[.int .i64 op, .int .i64 n, .string s, .slice ka kn kc, .slice na ns.length nc, .slice a l.length c] 28)).alloc (.cells #[.int .i64 i] 3) = W at *
   obtain ⟨c0, c1, c2, c3, c4, c5⟩ := cnQ kB
   have cN := cell_int kN
   have fN : W.frozen? ⟨w.heap.size + 1, 0, none⟩ = false := Lib.frozen_of_heap kN 0
   have HB2 := HB W
   have hwr : IntKind.i64.wrap (i + 1) = i + 1 := by rw [IntKind.wrap_i64]; omega
   have hS := gSQ W (w.heap.size + 1) 0 (.int .i64 (i + 1))
   have kN2 := heap_set_same (i := 0) kN (.int .i64 (i + 1))
   have hBS : Below w.heap.size w (W.setCell ⟨w.heap.size + 1, 0, none⟩ (.int .i64 (i + 1))) := hbW.trans (gUQ (B := w.heap.size) hS (by omega) (fun q hq => by have e2 : w.heap.size + 1 = q := oJQ hq; omega))
   have kB2 := (hS.block w.heap.size (by omega) (fun e => by have e2 : w.heap.size = w.heap.size + 1 := oJQ e; omega)).trans kB
   obtain ⟨d0, d1, d2, d3, d4, d5⟩ := cnQ kB2
   have hnp : ∀ q, some (w.heap.size + 1) = some q->¬ (P q/\q < w.heap.size) := fun q hq hp => by have e2 : w.heap.size + 1 = q := oJQ hq; have := hp.2; omega
   have HL := hJQ (occL_any _ _ l (fun y hy => HI.out y hy) (w.heap.size + 1) _ (i + 1) (HW.out.row.grown hS hnp) hll (fun y hy => (HW.out.all y hy).grown hS hnp) kN2 (by omega) (by omega))
   obtain ⟨q, hq⟩ : ∃ q, (l.map pC).any (occC (i + 1)) = q := ⟨_, rfl⟩
   rw [hq] at HL
   have HQ : Hid (Ending.returned (.bool q) = Ending.returned (.bool ((l.map pC).any (occC (i + 1))))) := by show _ = _; rw [hq]
   clear hq
   clear hS hnp
   go_wp2_with fail
   refine HB2.out.mono ?_
   rintro e w2 ⟨rfl, rfl⟩
   clear HB
   go_wp2_with fail
   refine HL.out.mono ?_
   rintro e w3 ⟨rfl, hb3⟩
   have hbz := hBS.trans (hb3.mono hBS.size)
   clear HL HB2
   go_wp2_with fail
   go_ret
   exact ⟨HQ.out, hbz⟩
end Go.Proofs.YtkiffgdinmpljaaGreatDoor
