/- shifted$1, shifted. Expanded by mac.py. The small functions over a node: binder, labelled, parts; the reference's Binder, parts, deep. Expanded by mac.py. Names of constants, lists of labels: the program's and the reference's. Expanded by mac.py. A node is right: the reference's labels and node. Expanded by mac.py; printed in part by gen_node.py. -/
import Derived.Test.YtkiffgdinmpljaaGreatDoorF5
import Derived.Test.YtkiffgdinmpljaaGreatDoorF4
import Derived.Test.YtkiffgdinmpljaaGreatDoorF3
import Derived.Deep.RegionLawGrows
set_option linter.unusedVariables false
set_option linter.unusedSimpArgs false
namespace Go.Proofs.YtkiffgdinmpljaaGreatDoor
open Go Go.RowKit
set_option maxHeartbeats 8000000
set_option maxRecDepth 100000
theorem ConOut.open' {P : Nat->Prop} {x : Cn} {e : Ending} {w' : World} (h : ConOut P x e w') : ∃ (d : ConD) (op n : Int) (s : ByteArray) (ka : Option Addr) (kn kc : Nat) (na : Option Addr) (nm nc : Nat) (la : Option Addr) (lm lc : Nat), e = .returned (.agg #[.int .i64 op, .int .i64 n, .string s, .slice ka kn kc, .slice na nm nc, .slice la lm lc])/\IsCon P w' d/\pC d = x/\conV d = .agg #[.int .i64 op, .int .i64 n, .string s, .slice ka kn kc, .slice na nm nc, .slice la lm lc] := by
 obtain ⟨d, rfl, hd, hp⟩ := h
 obtain ⟨op, n, s, k, ns, l, ka, kn, kc, na, nc, la, lc, rfl, hks, _⟩ := cSQ hd
 exact ⟨_, op, n, s, ka, kn, kc, na, _, nc, la, _, lc, by rw [cVQ hks], hd, hp, cVQ hks⟩
theorem grown_refl' (w : World) : w.grownBy w none := ⟨rfl, rfl, rfl, Nat.le_refl _, fun _ _ _ => rfl⟩
theorem cell_int {w : World} {q : Nat} {x : Value} {t : TypeId} (h : w.heap[q]? = some (.cells #[x] t (0, 0))) : w.cell? ⟨q, 0, none⟩ = some x := by simp [World.cell?, h]
def leafS (b f : Int) (c : Cn) (d : Int) : Cn := if c.op = 1/\f<=c.n - d then varC (c.n + b) else .mk c.op c.n c.s c.k [] []
theorem shifted1_any (P : Nat->Prop) (x : ConD) (fb bb : Nat) (b f d : Int) (w : World) (h : IsCon P w x) (hsz : sizeK (pC x).k<=100000) (hF : w.heap[fb]? = some (.cells #[.int .i64 f] 3 (0, 0))) (hB : w.heap[bb]? = some (.cells #[.int .i64 b] 3 (0, 0))) (hn : -1000000<=x.n) (hn1 : x.n<=1000000) (hb : -1000000<=b) (hb1 : b<=1000000) (hd : -1000000<=d) (hd1 : d<=1000000) :
 Calls Tryz.prog 110 (#[conV x, .int .i64 d] ++ #[.pointer (some ⟨fb, 0, none⟩), .pointer (some ⟨bb, 0, none⟩)]) w fun e w' => ConOut (fun b => w.heap.size<=b) (leafS b f (pC x) d) e w'/\Below w.heap.size w w' := by
 obtain ⟨op, n, s, k, nv, ns, lv, l⟩ := x
 have hn : -1000000<=n := hn
 have hn1 : n<=1000000 := hn1
 obtain ⟨ka, kc, kn, na, nc, a, c, rfl, _, rfl, _, hks, hcv, hll, hnn, hb0, gC, hsz0, HP, HC0, c0, c1, c2, c3, c4, c5⟩ := open_box h
 rw [hcv]
 clear hcv
 obtain ⟨hg1, kR, kB, hszW⟩ := fo_box gC
 have hg2 := gBQ (gAQ w (.cells #[.int .i64 op, .int .i64 n, .string s, .slice ka kn kc, .slice na ns.length nc, .slice a l.length c] 28)) hg1
 have kF := (hg2.block fb (hLQ hF) (by nofun)).trans hF
 have kb := (hg2.block bb (hLQ hB) (by nofun)).trans hB
 have hcc := h.grown hg2 (by nofun)
 have hbW := gUQ (B := w.heap.size) hg2 (nLQ _) (by nofun)
 have hPur : Hid (pC (.mk op n s k (.slice na ns.length nc) ns (.slice a l.length c) l) = .mk op n s (pK k) ns (l.map pC)) := pMQ ..
 have HLeaf := hJQ (fun W (hW : ((w.alloc (.cells #[.int .i64 op, .int .i64 n, .string s, .slice ka kn kc, .slice na ns.length nc, .slice a l.length c] 28)).alloc (.cells #[.int .i64 0, .int .i64 0, .string ⟨#[]⟩, .slice none 0 0, .slice none 0 0, .slice none 0 0] 28)).grownBy W none) => leafOf_any P _ W (hcc.grown hW (by nofun)) hsz)
 rw [cVQ hks] at HLeaf
 have HVar := hJQ (fun W : World => variable_any (fun b => W.heap.size<=b) (n + b) W)
 clear c0 c1 c2 c3 c4 c5 h hb0 gC HP HC0 hsz0 hg1 hsz hcc hg2 hF hB
 by_cases q1 : op = 1/\f<=n - d
 ·obtain ⟨q1, q2⟩ := q1
  have HE : Hid (leafS b f (.mk op n s (pK k) ns (l.map pC)) d = varC (n + b)) := by
   show _ = _; unfold leafS; rw [if_pos ⟨q1, q2⟩]; rfl
  have q1' : (op == 1) = true := beq_iff_eq.2 q1
  rw [hPur.out, HE.out]
  clear q1 hPur HLeaf hks
  go_enter Tryz.func110, Tryz.ntmps110
  go_upto_region 1 with fail
  generalize (w.alloc (.cells #[.int .i64 op, .int .i64 n, .string s, .slice ka kn kc, .slice na ns.length nc, .slice a l.length c] 28)).alloc (.cells #[.int .i64 0, .int .i64 0, .string ⟨#[]⟩, .slice none 0 0, .slice none 0 0, .slice none 0 0] 28) = W at *
  obtain ⟨c0, c1, c2, c3, c4, c5⟩ := cnQ kB
  have cF := cell_int kF
  have cB := cell_int kb
  go_wp2_with fail
  refine (HVar.out W).mono ?_
  rintro e w2 ⟨ho, hb2⟩
  obtain ⟨dd, xo, xn, xs, xka, xkn, xkc, xna, xnm, xnc, xla, xlm, xlc, rfl, hdd, hpd, hdv⟩ := ho.open'
  have gR2 := (hb2.block _ (hLQ kR)).trans kR
  have hltR := hLQ kR
  have hrow := gRQ w2 (w.heap.size + 1) #[.int .i64 xo, .int .i64 xn, .string xs, .slice xka xkn xkc, .slice xna xnm xnc, .slice xla xlm xlc]
  have HR3 := hJQ (setRow_heap w2 (w.heap.size + 1) _ #[.int .i64 xo, .int .i64 xn, .string xs, .slice xka xkn xkc, .slice xna xnm xnc, .slice xla xlm xlc] _ _ gR2)
  have HB := hJQ ((hbW.trans (hb2.mono hbW.size)).trans (gUQ (B := w.heap.size) hrow (by have := hbW.size; have := hb2.size; omega) (fun q hq => by have e2 : (w.heap.size + 1) = q := oJQ hq; omega)))
  have HD := hJQ ((hdd.grown hrow (fun q hq hp => by have e2 : (w.heap.size + 1) = q := oJQ hq; have hp : W.heap.size<=q := hp; omega)).mono (Q := (fun b => w.heap.size<=b)) (fun b hb _ => by have hb : W.heap.size<=b := hb; have := hbW.size; show w.heap.size<=b; omega))
  clear hrow hdd ho hb2
  go_wp2_with (refine wpList_store_row rfl 28 _ _ rfl (w.heap.size + 1) _ rfl rfl 28 _ gR2 cIQ rfl (all_one _ rfl) ?_)
  refine bodyPost_ret (results_cell_row rfl _ _ (w.heap.size + 1) 28 #[.int .i64 xo, .int .i64 xn, .string xs, .slice xka xkn xkc, .slice xna xnm xnc, .slice xla xlm xlc] (0, 0) _ rfl HR3.out Tryz.underlying28 rfl cIQ) rfl ?_
  exact ⟨⟨dd, by rw [hdv], HD.out, hpd⟩, HB.out⟩
 ·have HE : Hid (leafS b f (.mk op n s (pK k) ns (l.map pC)) d = .mk op n s (pK k) [] []) := if_neg q1
  rw [hPur.out, HE.out]
  clear hPur HVar hks
  have q2 : op ≠ 1 ∨ (op = 1/\¬ f<=n - d) := by
   by_cases h : op = 1
   ·exact .inr ⟨h, fun h2 => q1 ⟨h, h2⟩⟩
   ·exact .inl h
  clear q1
  rcases q2 with q2 | ⟨q1, q2⟩
  ·have q2' : (op == 1) = false := nEQ q2
   go_enter Tryz.func110, Tryz.ntmps110
   go_upto_region 1 with fail
   have HL := hJQ (HLeaf.out _ (grown_refl' _))
   clear HLeaf
   generalize (w.alloc (.cells #[.int .i64 op, .int .i64 n, .string s, .slice ka kn kc, .slice na ns.length nc, .slice a l.length c] 28)).alloc (.cells #[.int .i64 0, .int .i64 0, .string ⟨#[]⟩, .slice none 0 0, .slice none 0 0, .slice none 0 0] 28) = W at *
   obtain ⟨c0, c1, c2, c3, c4, c5⟩ := cnQ kB
   have cF := cell_int kF
   have cB := cell_int kb
   go_wp2_with fail
   refine (HL.out).mono ?_
   rintro e w2 ⟨ho, hb2⟩
   obtain ⟨dd, xo, xn, xs, xka, xkn, xkc, xna, xnm, xnc, xla, xlm, xlc, rfl, hdd, hpd, hdv⟩ := ho.open'
   have gR2 := (hb2.block _ (hLQ kR)).trans kR
   have hltR := hLQ kR
   have hrow := gRQ w2 (w.heap.size + 1) #[.int .i64 xo, .int .i64 xn, .string xs, .slice xka xkn xkc, .slice xna xnm xnc, .slice xla xlm xlc]
   have HR3 := hJQ (setRow_heap w2 (w.heap.size + 1) _ #[.int .i64 xo, .int .i64 xn, .string xs, .slice xka xkn xkc, .slice xna xnm xnc, .slice xla xlm xlc] _ _ gR2)
   have HB := hJQ ((hbW.trans (hb2.mono hbW.size)).trans (gUQ (B := w.heap.size) hrow (by have := hbW.size; have := hb2.size; omega) (fun q hq => by have e2 : (w.heap.size + 1) = q := oJQ hq; omega)))
   have HD := hJQ ((hdd.grown hrow (fun q hq hp => by have e2 : (w.heap.size + 1) = q := oJQ hq; have hp : W.heap.size<=q := hp; omega)).mono (Q := (fun b => w.heap.size<=b)) (fun b hb _ => by have hb : W.heap.size<=b := hb; have := hbW.size; show w.heap.size<=b; omega))
   clear hrow hdd ho hb2
   go_wp2_with (refine wpList_store_row rfl 28 _ _ rfl (w.heap.size + 1) _ rfl rfl 28 _ gR2 cIQ rfl (all_one _ rfl) ?_)
   refine bodyPost_ret (results_cell_row rfl _ _ (w.heap.size + 1) 28 #[.int .i64 xo, .int .i64 xn, .string xs, .slice xka xkn xkc, .slice xna xnm xnc, .slice xla xlm xlc] (0, 0) _ rfl HR3.out Tryz.underlying28 rfl cIQ) rfl ?_
   exact ⟨⟨dd, by rw [hdv], HD.out, hpd⟩, HB.out⟩
  ·have q1' : (op == 1) = true := beq_iff_eq.2 q1
   clear q1
   go_enter Tryz.func110, Tryz.ntmps110
   go_upto_region 1 with fail
   have HL := hJQ (HLeaf.out _ (grown_refl' _))
   clear HLeaf
   generalize (w.alloc (.cells #[.int .i64 op, .int .i64 n, .string s, .slice ka kn kc, .slice na ns.length nc, .slice a l.length c] 28)).alloc (.cells #[.int .i64 0, .int .i64 0, .string ⟨#[]⟩, .slice none 0 0, .slice none 0 0, .slice none 0 0] 28) = W at *
   obtain ⟨c0, c1, c2, c3, c4, c5⟩ := cnQ kB
   have cF := cell_int kF
   have cB := cell_int kb
   go_wp2_with fail
   refine (HL.out).mono ?_
   rintro e w2 ⟨ho, hb2⟩
   obtain ⟨dd, xo, xn, xs, xka, xkn, xkc, xna, xnm, xnc, xla, xlm, xlc, rfl, hdd, hpd, hdv⟩ := ho.open'
   have gR2 := (hb2.block _ (hLQ kR)).trans kR
   have hltR := hLQ kR
   have hrow := gRQ w2 (w.heap.size + 1) #[.int .i64 xo, .int .i64 xn, .string xs, .slice xka xkn xkc, .slice xna xnm xnc, .slice xla xlm xlc]
   have HR3 := hJQ (setRow_heap w2 (w.heap.size + 1) _ #[.int .i64 xo, .int .i64 xn, .string xs, .slice xka xkn xkc, .slice xna xnm xnc, .slice xla xlm xlc] _ _ gR2)
   have HB := hJQ ((hbW.trans (hb2.mono hbW.size)).trans (gUQ (B := w.heap.size) hrow (by have := hbW.size; have := hb2.size; omega) (fun q hq => by have e2 : (w.heap.size + 1) = q := oJQ hq; omega)))
   have HD := hJQ ((hdd.grown hrow (fun q hq hp => by have e2 : (w.heap.size + 1) = q := oJQ hq; have hp : W.heap.size<=q := hp; omega)).mono (Q := (fun b => w.heap.size<=b)) (fun b hb _ => by have hb : W.heap.size<=b := hb; have := hbW.size; show w.heap.size<=b; omega))
   clear hrow hdd ho hb2
   go_wp2_with (refine wpList_store_row rfl 28 _ _ rfl (w.heap.size + 1) _ rfl rfl 28 _ gR2 cIQ rfl (all_one _ rfl) ?_)
   refine bodyPost_ret (results_cell_row rfl _ _ (w.heap.size + 1) 28 #[.int .i64 xo, .int .i64 xn, .string xs, .slice xka xkn xkc, .slice xna xnm xnc, .slice xla xlm xlc] (0, 0) _ rfl HR3.out Tryz.underlying28 rfl cIQ) rfl ?_
   exact ⟨⟨dd, by rw [hdv], HD.out, hpd⟩, HB.out⟩
theorem binder_any (P : Nat->Prop) (x : ConD) (w : World) (h : IsCon P w x) :
 Calls Tryz.prog 88 #[conV x] w fun e w' => e = .returned (.bool (binderB x.op))/\Below w.heap.size w w' := by
 obtain ⟨op, n, s, k, nv, ns, lv, l⟩ := x
 obtain ⟨ka, kc, kn, na, nc, a, c, rfl, _, rfl, _, hks, hcv, hll, hnn, hb0, gC, hsz0, HP, HC0, c0, c1, c2, c3, c4, c5⟩ := open_box h
 rw [hcv]
 clear hcv
 have hf : ∀ b, binderB op = b->Ending.returned (.bool b) = Ending.returned (.bool (binderB op)) := fun b hb => by rw [hb]
 have HF := hJQ hf
 clear hf
 show Calls _ _ _ _ fun e w' => e = .returned (.bool (binderB op))/\_
 clear h gC HP HC0 hks
 by_cases q9 : op = 9 <;> by_cases q10 : op = 10 <;> by_cases q11 : op = 11 <;> by_cases q13 : op = 13
 all_goals first | omega | skip
 all_goals
  go_enter Tryz.func88, Tryz.ntmps88
  go_wp2_with fail
  go_ret
  exact ⟨HF.out _ (by simp [binderB, *]), ((Below.refl _ _).alloc (nLQ _) _)⟩
theorem labelled_any (P : Nat->Prop) (x : ConD) (w : World) (h : IsCon P w x) :
 Calls Tryz.prog 90 #[conV x] w fun e w' => e = .returned (.bool (labelledB x.op))/\Below w.heap.size w w' := by
 obtain ⟨op, n, s, k, nv, ns, lv, l⟩ := x
 obtain ⟨ka, kc, kn, na, nc, a, c, rfl, _, rfl, _, hks, hcv, hll, hnn, hb0, gC, hsz0, HP, HC0, c0, c1, c2, c3, c4, c5⟩ := open_box h
 rw [hcv]
 clear hcv
 have hf : ∀ b, labelledB op = b->Ending.returned (.bool b) = Ending.returned (.bool (labelledB op)) := fun b hb => by rw [hb]
 have HF := hJQ hf
 clear hf
 show Calls _ _ _ _ fun e w' => e = .returned (.bool (labelledB op))/\_
 clear h gC HP HC0 hks
 by_cases q9 : op = 7 <;> by_cases q10 : op = 8
 all_goals first | omega | skip
 all_goals
  go_enter Tryz.func90, Tryz.ntmps90
  go_wp2_with fail
  go_ret
  exact ⟨HF.out _ (by simp [labelledB, *]), ((Below.refl _ _).alloc (nLQ _) _)⟩
theorem opBinder_any (f : Nat) (hf : f = 124 ∨ f = 105) (op : Int) (w : World) :
 Calls Tryz.prog f #[.int .i64 op] w fun e w' => e = .returned (.bool (binderB op))/\w' = w := by
 have hf' : ∀ b, binderB op = b->Ending.returned (.bool b) = Ending.returned (.bool (binderB op)) := fun b hb => by rw [hb]
 have HF := hJQ hf'
 clear hf'
 rcases hf with rfl | rfl
 ·by_cases q9 : op = 9 <;> by_cases q10 : op = 10 <;> by_cases q11 : op = 11 <;> by_cases q13 : op = 13
  all_goals first | omega | skip
  all_goals
   go_enter Tryz.func124, Tryz.ntmps124
   go_wp2_with fail
   go_ret
   exact ⟨HF.out _ (by simp [binderB, *]), rfl⟩
 ·by_cases q9 : op = 9 <;> by_cases q10 : op = 10 <;> by_cases q11 : op = 11 <;> by_cases q13 : op = 13
  all_goals first | omega | skip
  all_goals
   go_enter Tryz.func105, Tryz.ntmps105
   go_wp2_with fail
   go_ret
   exact ⟨HF.out _ (by simp [binderB, *]), rfl⟩
theorem parts_any (P : Nat->Prop) (x : ConD) (w : World) (h : IsCon P w x) :
 Calls Tryz.prog 86 #[conV x] w fun e w' => e = .returned (.int .i64 (partsC x.op x.ns.length))/\Below w.heap.size w w' := by
 obtain ⟨op, n, s, k, nv, ns, lv, l⟩ := x
 have HX := hJQ h
 obtain ⟨ka, kc, kn, na, nc, a, c, rfl, _, rfl, _, hks, hcv, hll, hnn, hb0, gC, hsz0, HP, HC0, c0, c1, c2, c3, c4, c5⟩ := open_box h
 rw [hcv]
 clear hcv
 have hv := cVQ (op := op) (n := n) (s := s) (nv := .slice na ns.length nc) (lv := .slice a l.length c) (ns := ns) (l := l) hks
 have hf : ∀ b, partsC op ns.length = b->Ending.returned (.int .i64 b) = Ending.returned (.int .i64 (partsC op ns.length)) := fun b hb => by rw [hb]
 have HF := hJQ hf
 clear hf
 have HL := hJQ (labelled_any P _ _ HC0.out)
 have HB : Hid (∀ W, Below w.heap.size w W->Calls Tryz.prog 88 #[(.agg #[.int .i64 op, .int .i64 n, .string s, .slice ka kn kc, .slice na ns.length nc, .slice a l.length c])] W fun e w' => e = .returned (.bool (binderB op))/\Below W.heap.size W w') := fun W hW => by
  rw [← hv]; exact binder_any P _ _ (iBQ HX.out hW)
 rw [hv] at HL
 show Calls _ _ _ _ fun e w' => e = .returned (.int .i64 (partsC op ns.length))/\_
 have HL : Hid (Calls Tryz.prog 90 #[(.agg #[.int .i64 op, .int .i64 n, .string s, .slice ka kn kc, .slice na ns.length nc, .slice a l.length c])] (w.alloc (.cells #[.int .i64 op, .int .i64 n, .string s, .slice ka kn kc, .slice na ns.length nc, .slice a l.length c] 28)) fun e w' => e = .returned (.bool (labelledB op))/\Below (w.alloc (.cells #[.int .i64 op, .int .i64 n, .string s, .slice ka kn kc, .slice na ns.length nc, .slice a l.length c] 28)).heap.size (w.alloc (.cells #[.int .i64 op, .int .i64 n, .string s, .slice ka kn kc, .slice na ns.length nc, .slice a l.length c] 28)) w') := HL
 clear h HP HC0 hks hv
 have hlt : w.heap.size < (w.alloc (.cells #[.int .i64 op, .int .i64 n, .string s, .slice ka kn kc, .slice na ns.length nc, .slice a l.length c] 28)).heap.size := by omega
 by_cases q1 : op < 1
 ·go_enter Tryz.func86, Tryz.ntmps86
  go_wp2_with fail
  go_ret
  exact ⟨HF.out _ (by simp [partsC, q1]), hb0⟩
 by_cases q13 : 13 < op
 ·go_enter Tryz.func86, Tryz.ntmps86
  go_wp2_with fail
  go_ret
  exact ⟨HF.out _ (by simp [partsC, q13]), hb0⟩
 obtain ⟨bl, hbl⟩ : ∃ b, labelledB op = b := ⟨_, rfl⟩
 rw [hbl] at HL
 have Hbl := hJQ hbl
 clear hbl
 have HBB := hJQ hb0
 go_enter Tryz.func86, Tryz.ntmps86
 go_wp2_with fail
 refine HL.out.mono ?_
 rintro e w2 ⟨rfl, hb2⟩
 have hbw := HBB.out.trans (hb2.mono HBB.out.size)
 have g2 := (hb2.block _ hlt).trans gC
 have hlt2 := hLQ g2
 obtain ⟨d0, d1, d2, d3, d4, d5⟩ := cnQ g2
 clear HL hb0 gC c0 c1 c2 c3 c4 c5
 generalize w.alloc (.cells #[.int .i64 op, .int .i64 n, .string s, .slice ka kn kc, .slice na ns.length nc, .slice a l.length c] 28) = W0 at *
 clear hb2
 cases bl
 ·obtain ⟨bb, hbb⟩ : ∃ b, binderB op = b := ⟨_, rfl⟩
  have HC := hJQ (HB.out _ hbw)
  rw [hbb] at HC
  have Hbb := hJQ hbb
  clear hbb HB
  go_wp2_with fail
  refine HC.out.mono ?_
  rintro e w3 ⟨rfl, hb3⟩
  have hbw3 := hbw.trans (hb3.mono hbw.size)
  have g3 := (hb3.block _ hlt2).trans g2
  obtain ⟨k0, k1, k2, k3, k4, k5⟩ := cnQ g3
  clear HC g2 d0 d1 d2 d3 d4 d5 hb3
  cases bb
  ·have HE : Hid (∀ b, (if op = 6 ∨ op = 12 then (2 : Int) else 0) = b->Ending.returned (.int .i64 b) = Ending.returned (.int .i64 (partsC op ns.length))) := fun b hb => HF.out b (by rw [← hb]; unfold partsC; rw [if_neg (by omega), Hbl.out, Hbb.out]; simp)
   clear HF Hbl Hbb
   go_wp2_with fail
   all_goals
    go_ret
    refine ⟨HE.out _ ?_, hbw3⟩
    first | exact if_pos (by simp_all) | exact if_neg (by simp_all)
  ·have HE := HF.out 1 (by unfold partsC; rw [if_neg (by omega), Hbl.out, Hbb.out]; simp)
   clear HF Hbl Hbb
   go_wp2_with fail
   go_ret
   exact ⟨HE, hbw3⟩
 ·have HE := HF.out ns.length (by unfold partsC; rw [if_neg (by omega), Hbl.out]; simp)
  clear HF Hbl HB
  go_wp2_with fail
  go_ret
  exact ⟨HE, hbw⟩
def cstB (s : ByteArray) : Bool := (Lib.cut (bs s) [46]).2.2 && decide (s.size<=48) && upB (Lib.cut (bs s) [46]).1 && ((numT (Lib.cut (bs s) [46]).2.1).2 == 0)
def labsB (l : List ByteArray) : Bool := decide (l.length<=1000) && ascB l && l.all fun s => labB (bs s)
theorem cut_le (l : List UInt8) : (Lib.cut l [46]).1.length<=l.length/\(Lib.cut l [46]).2.1.length<=l.length := by
 unfold Lib.cut
 split
 ·simp only [List.length_take, List.length_drop]; omega
 ·exact ⟨Nat.le_refl _, Nat.zero_le _⟩
theorem str_size (l : List UInt8) : (⟨l.toArray⟩ : ByteArray).size = l.length := by simp [ByteArray.size]
theorem constant_any (s : ByteArray) (w : World) (hE : EnvN w) (hs : s.size<=1000) :
 Calls Tryz.prog 87 #[.string s] w fun e w' => e = .returned (.bool (cstB s))/\Below w.heap.size w w' := by
 obtain ⟨m, hm⟩ := hE.ml
 have HC := hJQ (Tryz.strings_Cut s ⟨#[46]⟩ m w (by omega) hm)
 have hl := cut_le (bs s)
 rw [bs_length] at hl
 have hf : ∀ b, cstB s = b->Ending.returned (.bool b) = Ending.returned (.bool (cstB s)) := fun b hb => by rw [hb]
 have HF := hJQ hf
 have hd : ∀ w', (∃ n, w' = w.drewN n)->Below w.heap.size w w' := by
  rintro w' ⟨n, rfl⟩; exact bdrewN (Below.refl _ _) _
 have HD := hJQ hd
 have HCB : Hid (cstB s = ((Lib.cut s.data.toList [46]).2.2 && decide (s.size<=48) && upB (bs ⟨(Lib.cut s.data.toList [46]).1.toArray⟩) && ((numT (bs ⟨(Lib.cut s.data.toList [46]).2.1.toArray⟩)).2 == 0))) := rfl
 have hl1 : (⟨(Lib.cut s.data.toList [46]).1.toArray⟩ : ByteArray).size<=1000 := by rw [str_size]; exact Nat.le_trans hl.1 hs
 have hl2 : (⟨(Lib.cut s.data.toList [46]).2.1.toArray⟩ : ByteArray).size<=1000 := by rw [str_size]; exact Nat.le_trans hl.2 hs
 have HEn := hJQ hE
 clear hf hd hm hE hl
 have HC : Hid (Calls Tryz.prog 116 #[.string s, .string ⟨#[46]⟩] w fun e w' => e = .returned (.tuple #[.string ⟨(Lib.cut s.data.toList [46]).1.toArray⟩, .string ⟨(Lib.cut s.data.toList [46]).2.1.toArray⟩, .bool (Lib.cut s.data.toList [46]).2.2])/\∃ n, w' = w.drewN n) := HC
 generalize (⟨(Lib.cut s.data.toList [46]).1.toArray⟩ : ByteArray) = a at *
 generalize (⟨(Lib.cut s.data.toList [46]).2.1.toArray⟩ : ByteArray) = b at *
 generalize (Lib.cut s.data.toList [46]).2.2 = ok at *
 go_enter Tryz.func87, Tryz.ntmps87
 go_wp2_with fail
 refine HC.out.mono ?_
 rintro e w1 ⟨rfl, hw⟩
 have hb1 := HD.out _ hw
 have HN := hJQ (number_any b w1 (HEn.out.below hb1) hl2)
 have hnv : numV (bs b) = .tuple #[.int .i64 (numT (bs b)).1, .int .i64 (numT (bs b)).2] := rfl
 rw [hnv] at HN
 clear hw HC HD hnv
 go_wp2_with fail
 refine HN.out.mono ?_
 rintro e w2 ⟨rfl, hb2⟩
 have hb3 := hb1.trans (hb2.mono hb1.size)
 have HU := hJQ (isUpper_any a w2 hl1)
 clear HN
 cases ok
 ·have HE := HF.out false (by rw [HCB.out]; rfl)
  clear HF HCB
  go_wp2_with fail
  go_ret
  exact ⟨HE, hb3⟩
 ·by_cases hz : (s.size : Int)<=48
  ·have hz' : decide (s.size<=48) = true := decide_eq_true (by omega)
   obtain ⟨bu, hbu⟩ : ∃ b, upB (bs a) = b := ⟨_, rfl⟩
   rw [hbu] at HU
   have HB := hJQ hbu
   have HZ := hJQ hz'
   clear hbu hz'
   go_wp2_with fail
   refine HU.out.mono ?_
   rintro e w3 ⟨rfl, hb4⟩
   have hb5 := hb3.trans (hb4.mono hb3.size)
   clear HU
   cases bu
   ·have HE := HF.out false (by rw [HCB.out, HB.out, HZ.out]; rfl)
    clear HF HCB
    go_wp2_with fail
    go_ret
    exact ⟨HE, hb5⟩
   ·have HE := hJQ (HF.out ((numT (bs b)).2 == 0) (by rw [HCB.out, HB.out, HZ.out]; rfl))
    clear HF HCB
    generalize (numT (bs b)).2 = q at *
    go_wp2_with fail
    go_ret
    exact ⟨HE.out, hb5⟩
  ·have HE := HF.out false (by rw [HCB.out, decide_eq_false (show ¬ s.size<=48 by omega)]; rfl)
   clear HF HCB
   go_wp2_with fail
   go_ret
   exact ⟨HE, hb3⟩
theorem occ_one (l : List UInt8) (c : UInt8) (i : Nat) : Lib.occAt l [c] i = (l[i]? == some c) := by
 unfold Lib.occAt
 rcases Nat.lt_or_ge i l.length with h | h
 ·rw [List.drop_eq_getElem_cons h, List.getElem?_eq_getElem h]
  rw [Bool.eq_iff_iff]
  simp [List.isPrefixOf]
  exact eq_comm
 ·rw [List.drop_eq_nil_of_le h, List.getElem?_eq_none h]; rfl
theorem cut_hit (l : List UInt8) (k : Nat) (h : l[k]? = some 46) (hn : ∀ j, j < k->l[j]? ≠ some 46) : Lib.cut l [46] = (l.take k, l.drop (k + 1), true) := by
 have hk : k < l.length := by
  rcases Nat.lt_or_ge k l.length with h' | h'
  ·exact h'
  ·rw [List.getElem?_eq_none h'] at h; cases h
 have hi : Lib.index l [46] = k := Lib.index_first (Nat.le_of_lt hk) (by rw [occ_one, h]; rfl) (fun j hj => by rw [occ_one]; simpa using hn j hj)
 unfold Lib.cut
 rw [hi, if_pos (by omega)]
 rfl
theorem cut_miss (l : List UInt8) (hn : ∀ j, j < l.length->l[j]? ≠ some 46) : Lib.cut l [46] = (l, [], false) := by
 have hi : Lib.index l [46] = -1 := Lib.index_none (fun j hj => by
  rw [occ_one]
  rcases Nat.lt_or_ge j l.length with h | h
  ·simpa using hn j h
  ·rw [List.getElem?_eq_none h]; rfl)
 unfold Lib.cut
 rw [hi, if_neg (by omega)]
theorem bs_at (s : ByteArray) (k : Nat) (h : k < s.size) : (bs s)[k]? = some s[k] := by
 simp [bs, ByteArray.getElem_eq_getElem_data, h]
theorem ext_take (s : ByteArray) (n : Nat) : bs (s.extract 0 n) = (bs s).take n := by simp [bs]
theorem drop_ext (s : ByteArray) (n : Nat) : s.extract n s.size = ⟨((bs s).drop n).toArray⟩ := by
 have h : (s.extract n s.size).data.toList = (bs s).drop n := by
  rw [Lib.extract_data]; unfold bs
  rw [List.take_of_length_le (by rw [List.length_drop]; have := bs_length s; unfold bs at this; omega)]
 generalize s.extract n s.size = t at h
 rw [← h]
theorem ext_drop (s : ByteArray) (n : Nat) : bs (s.extract n s.size) = (bs s).drop n := by rw [drop_ext]; simp [bs]
theorem constName_any (s : ByteArray) (w : World) (hs : s.size<=1000) :
 Calls Tryz.prog 104 #[.string s] w fun e w' => e = .returned (.bool (cstB s))/\Below w.heap.size w w' := by
 have hf : ∀ b, cstB s = b->Ending.returned (.bool b) = Ending.returned (.bool (cstB s)) := fun b hb => by rw [hb]
 have HF := hJQ hf
 clear hf
 have hb0 := Below.refl w.heap.size w
 by_cases hz : (s.size : Int)<=48
 ·have HMiss : Hid ((∀ j, j < s.size->(bs s)[j]? ≠ some 46)->cstB s = false) := fun hn => by
   unfold cstB; rw [cut_miss _ (by rw [bs_length]; exact hn)]; rfl
  have HHit : Hid (∀ k, (hk : k < s.size)->(∀ j, j < k->(bs s)[j]? ≠ some 46)->(bs s)[k]? = some 46->cstB s = (upB (bs (s.extract 0 k)) && ((numT (bs (s.extract (k + 1) s.size))).2 == 0))) := fun k hk hn h46 => by
   unfold cstB; rw [cut_hit _ k h46 hn, ext_take, ext_drop, decide_eq_true (show s.size<=48 by omega)]; simp
  go_enter Tryz.func104, Tryz.ntmps104
  go_wp2_with fail
  go_loop [3] (fun i => ∃ k : Nat, i = .int .i64 k/\k<=s.size/\Hid (∀ j, j < k->(bs s)[j]? ≠ some 46)) (fun i => s.size - (intOf i).toNat)
  case atStart => exact ⟨0, rfl, Nat.zero_le _, fun j hj => absurd hj (Nat.not_lt_zero _)⟩
  case round =>
   obtain ⟨k, rfl, hk, HN⟩ := hrel
   by_cases hkl : k < s.size
   ·have HAt := hJQ (bs_at s k hkl)
    by_cases h46 : s[k].toNat = 46
    ·have h46' : ((s[k].toNat : Int) == 46) = true := by rw [h46]; rfl
     have hc : (bs s)[k]? = some 46 := by
      rw [HAt.out]; congr 1; exact UInt8.toNat_inj.1 h46
     have HE := hJQ (HHit.out k hkl HN.out hc)
     have hsz1 : (s.extract 0 k).size<=1000 := by simp; omega
     have hsz2 : (s.extract (k + 1) s.size).size<=1000 := by simp; omega
     have HNum := hJQ (rNumber_any (s.extract (k + 1) s.size) w hsz2)
     clear hc HHit HMiss HAt HN h46
     have g1 : (0 : Int)<=k + 1 := by omega
     have g2 : ((k : Int) + 1)<=s.size := by omega
     have g3 : (k : Int)<=s.size := by omega
     go_wp2_with fail
     refine HNum.out.mono ?_
     rintro e w1 ⟨rfl, rfl⟩
     have HU := hJQ (rIsUpper_any (s.extract 0 k) w hsz1)
     rw [show numV (bs (s.extract (k + 1) s.size)) = .tuple #[.int .i64 (numT (bs (s.extract (k + 1) s.size))).1, .int .i64 (numT (bs (s.extract (k + 1) s.size))).2] from rfl]
     obtain ⟨bu, hbu⟩ : ∃ b, upB (bs (s.extract 0 k)) = b := ⟨_, rfl⟩
     have HB := hJQ hbu
     rw [hbu] at HU
     clear hbu HNum
     have HE2 := hJQ (HF.out _ HE.out)
     rw [HB.out] at HE2
     clear HE HB
     generalize (numT (bs (s.extract (k + 1) s.size))).2 = q at *
     go_wp2_with fail
     refine HU.out.mono ?_
     rintro e w2 ⟨rfl, hb2⟩
     clear HU
     cases bu
     ·go_wp2_with fail
      go_ret
      exact ⟨HE2.out, by subst hb2; exact hb0⟩
     ·go_wp2_with fail
      go_ret
      exact ⟨HE2.out, by subst hb2; exact hb0⟩
    ·have h46' : ((s[k].toNat : Int) == 46) = false := nEQ (by omega)
     have HN2 : Hid (∀ j, j < k + 1->(bs s)[j]? ≠ some 46) := fun j hj => by
      by_cases hjk : j = k
      ·subst hjk
       rw [HAt.out]
       intro he
       have := oJQ he
       rw [this] at h46
       exact h46 rfl
      ·exact HN.out j (by omega)
     clear HHit HMiss HAt HN
     go_wp2_with fail
     go_round
     case rel => exact ⟨k + 1, by go_num, by omega, HN2⟩
     case measure => simp [intOf]; omega
   ·obtain rfl : k = s.size := by omega
    have HE := HF.out false (HMiss.out HN.out)
    clear HHit HMiss HF
    go_wp2_with fail
    go_ret
    exact ⟨HE, hb0⟩
 ·have HE := HF.out false (by unfold cstB; rw [decide_eq_false (show ¬ s.size<=48 by omega)]; simp)
  clear HF
  go_enter Tryz.func104, Tryz.ntmps104
  go_wp2_with fail
  go_ret
  exact ⟨HE, hb0⟩
theorem strs_of {P : Nat->Prop} {w : World} {v : Value} {l : List ByteArray} (h : RowP P w v l.length (strCells l)) : IsStrs w v l := by
 obtain ⟨a, c, hv, hlc, hl⟩ := h
 refine ⟨a, c, hv, hlc, fun hne => ?_⟩
 obtain ⟨b, off, ha, _, hlt, hc⟩ := hl (List.length_pos_iff.2 hne)
 refine ⟨b, off, ha, hlt, fun j hj => ?_⟩
 rw [hc j (by simpa [strCells] using hj)]
 simp [strCells, List.getD, hj]
theorem labels_any (P : Nat->Prop) (v : Value) (l : List ByteArray) (w : World) (h : RowP P w v l.length (strCells l)) (hl : l.length<=1000000) (hs : ∀ x ∈ l, x.size<=1000) :
 Calls Tryz.prog 103 #[v] w fun e w' => e = .returned (.bool (labsB l))/\Below w.heap.size w w' := by
 have HA := hJQ (rAsc_any v l w (strs_of h) hl)
 have HR := hJQ h
 obtain ⟨a, c, rfl, hlc⟩ := rSQ h
 have hf : ∀ b, labsB l = b->Ending.returned (.bool b) = Ending.returned (.bool (labsB l)) := fun b hb => by rw [hb]
 have HF := hJQ hf
 have HS := hJQ hs
 have hb0 := Below.refl w.heap.size w
 clear hf hs h
 go_enter Tryz.func103, Tryz.ntmps103
 go_wp2_with fail
 go_loop [3] (fun i => ∃ k : Nat, i = .int .i64 k/\k<=l.length/\Hid ((l.take k).all (fun s => labB (bs s)) = true)) (fun i => l.length - (intOf i).toNat)
 case atStart => exact ⟨0, rfl, Nat.zero_le _, by show _ = _; rw [List.take_zero]; rfl⟩
 case round =>
  obtain ⟨k, rfl, hk, HN⟩ := hrel
  by_cases hkl : k < l.length
  ·obtain ⟨b, off, fd, hbl, hm', e0⟩ := str_at HR.out k hkl
   subst fd
   have HT := hJQ (take_get default l k hkl)
   have HL := hJQ (rIsLabel_any (l.getD k default) w (HS.out _ hm'))
   obtain ⟨bb, hbb⟩ : ∃ b, labB (bs (l.getD k default)) = b := ⟨_, rfl⟩
   rw [hbb] at HL
   have HB := hJQ hbb
   have HM := hJQ hm'
   clear hbb hm'
   generalize l.getD k default = y at *
   go_wp2_with fail
   refine HL.out.mono ?_
   rintro e w1 ⟨rfl, rfl⟩
   clear HL
   cases bb
   ·have HE := HF.out false (by
     unfold labsB
     have : l.all (fun s => labB (bs s)) = false := by
      rw [List.all_eq_false]; exact ⟨y, HM.out, by rw [HB.out]; decide⟩
     rw [this]; simp)
    clear HF HN HT
    go_wp2_with fail
    go_ret
    exact ⟨HE, hb0⟩
   ·have HN2 : Hid ((l.take (k + 1)).all (fun s => labB (bs s)) = true) := by
     show _ = _
     rw [HT.out, List.all_append, HN.out]; simp [HB.out]
    clear HN HT
    go_wp2_with fail
    go_round
    case rel => exact ⟨k + 1, by go_num, by omega, HN2⟩
    case measure => simp [intOf]; omega
  ·obtain rfl : k = l.length := by omega
   have HN2 := HN.out
   rw [List.take_length] at HN2
   by_cases h1 : (l.length : Int)<=1000
   ·have HE := hJQ (HF.out (ascB l) (by unfold labsB; rw [HN2, decide_eq_true (show l.length<=1000 by omega)]; simp))
    clear HF HN HN2
    generalize ascB l = q at *
    go_wp2_with fail
    refine HA.out.mono ?_
    rintro e w1 ⟨rfl, hb1⟩
    clear HA
    go_wp2_with fail
    go_ret
    exact ⟨HE.out, hb1⟩
   ·have HE := HF.out false (by unfold labsB; rw [decide_eq_false (show ¬ l.length<=1000 by omega)]; simp)
    clear HF HN HN2
    go_wp2_with fail
    go_ret
    exact ⟨HE, hb0⟩
end Go.Proofs.YtkiffgdinmpljaaGreatDoor
