/- shifted, Subst$1. Printed by gen_subst.py, expanded by mac.py. tycon.copied. Expanded by mac.py. -/
import Derived.Test.YtkiffgdinmpljaaGreatDoorF19
set_option linter.unusedVariables false
set_option linter.unusedSimpArgs false
namespace Go.Proofs.YtkiffgdinmpljaaGreatDoor
open Go Go.RowKit
set_option maxHeartbeats 8000000
set_option maxRecDepth 100000
theorem RowP.lt {P : Nat->Prop} {w : World} {v : Value} {n : Nat} {xs : List Value} (h : RowP P w v n xs) : RowP (fun b => P b/\b < w.heap.size) w v n xs := h.mono fun _ hp hlt => ⟨hp, hlt⟩
theorem shifted_any (b f : Int) (w : World) :
 Calls Tryz.prog 70 #[.int .i64 b, .int .i64 f] w fun e w' => e = .returned (.func (.func 110) #[] #[.pointer (some ⟨w.heap.size + 1, 0, none⟩), .pointer (some ⟨w.heap.size, 0, none⟩)])/\w' = (w.alloc (.cells #[.int .i64 b] 3)).alloc (.cells #[.int .i64 f] 3) := by
 go_enter Tryz.func70, Tryz.ntmps70
 go_wp2_with fail
 go_ret
 exact ⟨by simp, rfl⟩
theorem leafAt_shift (P : Nat->Prop) (w0 : World) (mb fb bb : Nat) (b f : Int) (hF : w0.heap[fb]? = some (.cells #[.int .i64 f] 3 (0, 0))) (hB : w0.heap[bb]? = some (.cells #[.int .i64 b] 3 (0, 0))) (h1 : fb ≠ mb) (h2 : bb ≠ mb) (hb : -1000000<=b) (hb1 : b<=1000000) :
 LeafAt P w0 mb 110 #[.pointer (some ⟨fb, 0, none⟩), .pointer (some ⟨bb, 0, none⟩)] (leafS b f) := by
 intro W x d hg h hf hop hd0 hd1
 refine ⟨by rw [leafS_size]; decide, ?_⟩
 have hs : pC x = .mk x.op x.n x.s (pK x.k) x.ns (x.l.map pC) := by cases x; exact pMQ ..
 have hfs := hf
 rw [hs] at hfs
 have hz := fSQ hfs
 have hn : -1000000<=x.n/\x.n<=1000000 := by
  rcases hop with ho | ho
  ·have := hz.2.2.1 (.inl ho); omega
  ·obtain ⟨h1, _⟩ := (formC_iff cstB labsB ..).1 hfs
   have a2 := (node_parts h1).2.1
   rw [if_neg (by omega)] at a2
   have : x.n = 0 := beq_iff_eq.1 a2
   omega
 exact shifted1_any P x fb bb b f d W h (by rw [hs]; exact hz.1) ((hg.block _ (hLQ hF) (fun e => h1 (oJQ e))).trans hF) ((hg.block _ (hLQ hB) (fun e => h2 (oJQ e))).trans hB) hn.1 hn.2 hb hb1 (by omega) (by omega)
theorem subst1_any (P : Nat->Prop) (x : ConD) (lb0 : Nat) (ga : Option Addr) (gc : Nat) (gl : List ConD) (w : World) (d : Nat) (h : IsCon P w x) (hf : frmC (pC x) = true) (hop : x.op = 1 ∨ x.op = 2) (hBx : w.heap[lb0]? = some (.cells #[.slice ga gl.length gc] 26 (0, 0))) (hR : RowP P w (.slice ga gl.length gc) gl.length (cCQ gl)) (hA : ∀ y ∈ gl, IsCon P w y) (hV : ∀ y ∈ gl.map pC, valC y = true) (hlen : gl.length<=1000) (hd1 : d<=1000) :
 Calls Tryz.prog 67 (#[conV x, .int .i64 d] ++ #[.pointer (some ⟨lb0, 0, none⟩)]) w fun e w' => ConOut (fun b => w.heap.size<=b) (leafT (gl.map pC) (pC x) d) e w'/\Below w.heap.size w w' := by
 obtain ⟨op, n, s, k, nv, ns, lv, l⟩ := x
 have hop : op = 1 ∨ op = 2 := hop
 rw [pMQ] at hf ⊢
 have hz := fSQ hf
 have hn : -1000000<=n/\n<=1000000 := by
  rcases hop with ho | ho
  ·have := hz.2.2.1 (.inl ho); omega
  ·obtain ⟨h1, _⟩ := (formC_iff cstB labsB ..).1 hf
   have a2 := (node_parts h1).2.1
   rw [if_neg (by omega)] at a2
   have : n = 0 := beq_iff_eq.1 a2
   omega
 obtain ⟨hn0, hn1⟩ := hn
 have hkz := hz.1
 obtain ⟨ka, kc, kn, hks⟩ := iKQ h.parts.kind
 obtain ⟨na, nc, rfl, _⟩ := rSQ h.parts.names
 obtain ⟨a, c, rfl, _⟩ := rSQ h.parts.row
 rw [cVQ hks]
 have hll : l.length<=9223372036854775807 := by have h1 := h.parts.llen; have : maxLen = 9223372036854775807 := (by decide); omega
 have hnn : ns.length<=9223372036854775807 := by have h1 := h.parts.nlen; have : maxLen = 9223372036854775807 := (by decide); omega
 have hb0 : Below w.heap.size w (w.alloc (.cells #[.int .i64 op, .int .i64 n, .string s, .slice ka kn kc, .slice na ns.length nc, .slice a l.length c] 28)) := (Below.refl _ _).alloc (Nat.le_refl _) _
 have gC := nHQ w (.cells #[.int .i64 op, .int .i64 n, .string s, .slice ka kn kc, .slice na ns.length nc, .slice a l.length c] 28)
 have hsz0 : (w.alloc (.cells #[.int .i64 op, .int .i64 n, .string s, .slice ka kn kc, .slice na ns.length nc, .slice a l.length c] 28)).heap.size = w.heap.size + 1 := by simp
 obtain ⟨c0, c1, c2, c3, c4, c5⟩ := cnQ gC
 have HP := hJQ (iBQ h hb0).parts
 have HC0 := hJQ (iBQ h hb0)
 have hPW := cVQ (op := op) (n := n) (s := s) (nv := .slice na ns.length nc) (lv := .slice a l.length c) (ns := ns) (l := l) hks
 have hg1 := gAQ (w.alloc (.cells #[.int .i64 op, .int .i64 n, .string s, .slice ka kn kc, .slice na ns.length nc, .slice a l.length c] 28)) (.cells #[.int .i64 0, .int .i64 0, .string ⟨#[]⟩, .slice none 0 0, .slice none 0 0, .slice none 0 0] 28)
 have kR : ((w.alloc (.cells #[.int .i64 op, .int .i64 n, .string s, .slice ka kn kc, .slice na ns.length nc, .slice a l.length c] 28)).alloc (.cells #[.int .i64 0, .int .i64 0, .string ⟨#[]⟩, .slice none 0 0, .slice none 0 0, .slice none 0 0] 28)).heap[w.heap.size + 1]? = _ := (congrArg _ hsz0.symm).trans (nHQ (w.alloc (.cells #[.int .i64 op, .int .i64 n, .string s, .slice ka kn kc, .slice na ns.length nc, .slice a l.length c] 28)) (.cells #[.int .i64 0, .int .i64 0, .string ⟨#[]⟩, .slice none 0 0, .slice none 0 0, .slice none 0 0] 28))
 have kB := (hg1.block w.heap.size (by omega) (by nofun)).trans gC
 have hg2 := gBQ (gAQ w (.cells #[.int .i64 op, .int .i64 n, .string s, .slice ka kn kc, .slice na ns.length nc, .slice a l.length c] 28)) hg1
 have kL := (hg2.block lb0 (hLQ hBx) (by nofun)).trans hBx
 have hcc := h.grown hg2 (by nofun)
 have hbW := gUQ (B := w.heap.size) hg2 (Nat.le_refl _) (by nofun)
 have hszW : ((w.alloc (.cells #[.int .i64 op, .int .i64 n, .string s, .slice ka kn kc, .slice na ns.length nc, .slice a l.length c] 28)).alloc (.cells #[.int .i64 0, .int .i64 0, .string ⟨#[]⟩, .slice none 0 0, .slice none 0 0, .slice none 0 0] 28)).heap.size = w.heap.size + 2 := by simp
 have HLeaf := leafOf_any P _ _ hcc (by rw [pMQ]; exact hkz)
 rw [hPW] at HLeaf
 have HLeaf := hJQ HLeaf
 have HVar : Hid (∀ W : World, Calls Tryz.prog 69 #[.int .i64 (n - gl.length)] W fun e w' => ConOut (fun b => W.heap.size<=b) (varC (n - gl.length)) e w'/\Below W.heap.size W w') := fun W => variable_any _ _ W
 have HSh := hJQ (fun W : World => shifted_any d 0 W)
 have HRr := hJQ (hR.lt.grown hg2 (by nofun))
 have HAa : Hid (∀ y ∈ gl, IsCon (fun b => P b/\b < w.heap.size) ((w.alloc (.cells #[.int .i64 op, .int .i64 n, .string s, .slice ka kn kc, .slice na ns.length nc, .slice a l.length c] 28)).alloc (.cells #[.int .i64 0, .int .i64 0, .string ⟨#[]⟩, .slice none 0 0, .slice none 0 0, .slice none 0 0] 28)) y) := fun y hy => (hA y hy).lt.grown hg2 (by nofun)
 have HVv := hJQ hV
 clear c0 c1 c2 c3 c4 c5 h hb0 gC HP HC0 hsz0 hg1 hcc hg2 hBx hR hA hV hks hPW hz hf
 have hwr : IntKind.i64.wrap (n - d) = n - d := wrap_ok _ (by omega) (by omega)
 have hwr2 : IntKind.i64.wrap (n - gl.length) = n - gl.length := wrap_ok _ (by omega) (by omega)
 have hgl9 : gl.length<=9223372036854775807 := by omega
 by_cases q1 : op ≠ 1 ∨ n - d < 0
 ·have HE : Hid (leafT (gl.map pC) (.mk op n s (pK k) ns (l.map pC)) d = .mk op n s (pK k) [] []) := if_pos q1
  rw [HE.out]
  have q2 : op ≠ 1 ∨ (op = 1/\n - d < 0) := by
   by_cases h : op = 1
   ·exact .inr ⟨h, by rcases q1 with q | q; exact absurd h q; exact q⟩
   ·exact .inl h
  clear q1
  rcases q2 with q2 | ⟨q1, q2⟩
  ·have q2' : (op != 1) = true := bne_iff_ne.2 q2
   clear q2 hop
   go_enter Tryz.func67, Tryz.ntmps67
   go_upto_region 1 with fail
   generalize (w.alloc (.cells #[.int .i64 op, .int .i64 n, .string s, .slice ka kn kc, .slice na ns.length nc, .slice a l.length c] 28)).alloc (.cells #[.int .i64 0, .int .i64 0, .string ⟨#[]⟩, .slice none 0 0, .slice none 0 0, .slice none 0 0] 28) = W at *
   obtain ⟨c0, c1, c2, c3, c4, c5⟩ := cnQ kB
   go_wp2_with fail
   refine (HLeaf.out).mono ?_
   rintro e w2 ⟨ho, hb2⟩
   obtain ⟨dd, xo, xn, xs, xka, xkn, xkc, xna, xnm, xnc, xla, xlm, xlc, rfl, hdd, hpd, hdv⟩ := ho.open'
   have gR2 := (hb2.block _ (hLQ kR)).trans kR
   have hltR := hLQ kR
   have hrow := gRQ w2 (w.heap.size + 1) #[.int .i64 xo, .int .i64 xn, .string xs, .slice xka xkn xkc, .slice xna xnm xnc, .slice xla xlm xlc]
   have HR3 := hJQ (setRow_heap w2 (w.heap.size + 1) _ #[.int .i64 xo, .int .i64 xn, .string xs, .slice xka xkn xkc, .slice xna xnm xnc, .slice xla xlm xlc] _ _ gR2)
   have HB := hJQ ((hbW.trans (hb2.mono hbW.size)).trans (gUQ (B := w.heap.size) hrow (by have := hbW.size; have := hb2.size; omega) (fun q hq => by have e2 : (w.heap.size + 1) = q := oJQ hq; omega)))
   have HD := hJQ ((hdd.grown hrow (fun q hq hp => by have e2 : (w.heap.size + 1) = q := oJQ hq; have hp : W.heap.size<=q := hp; omega)).mono (Q := (fun b => w.heap.size<=b)) (fun b hb _ => by have hb : W.heap.size<=b := hb; have := hbW.size; show w.heap.size<=b; omega))
   clear hrow hdd ho hb2
   go_wp2_with (refine wpList_store_row rfl 28 _ _ rfl (w.heap.size + 1) _ rfl rfl 28 _ gR2 cIQ rfl (all_one _ rfl) ?_)
   refine bodyPost_ret (results_cell_row rfl _ _ (w.heap.size + 1) 28 #[.int .i64 xo, .int .i64 xn, .string xs, .slice xka xkn xkc, .slice xna xnm xnc, .slice xla xlm xlc] (0, 0) _ rfl HR3.out Tryz.underlying28 rfl cIQ) rfl ?_
   exact ⟨⟨dd, by rw [hdv], HD.out, hpd⟩, HB.out⟩
  ·have q1' : (op != 1) = false := by rw [q1]; rfl
   clear q1 hop
   go_enter Tryz.func67, Tryz.ntmps67
   go_upto_region 1 with fail
   generalize (w.alloc (.cells #[.int .i64 op, .int .i64 n, .string s, .slice ka kn kc, .slice na ns.length nc, .slice a l.length c] 28)).alloc (.cells #[.int .i64 0, .int .i64 0, .string ⟨#[]⟩, .slice none 0 0, .slice none 0 0, .slice none 0 0] 28) = W at *
   obtain ⟨c0, c1, c2, c3, c4, c5⟩ := cnQ kB
   go_wp2_with fail
   refine (HLeaf.out).mono ?_
   rintro e w2 ⟨ho, hb2⟩
   obtain ⟨dd, xo, xn, xs, xka, xkn, xkc, xna, xnm, xnc, xla, xlm, xlc, rfl, hdd, hpd, hdv⟩ := ho.open'
   have gR2 := (hb2.block _ (hLQ kR)).trans kR
   have hltR := hLQ kR
   have hrow := gRQ w2 (w.heap.size + 1) #[.int .i64 xo, .int .i64 xn, .string xs, .slice xka xkn xkc, .slice xna xnm xnc, .slice xla xlm xlc]
   have HR3 := hJQ (setRow_heap w2 (w.heap.size + 1) _ #[.int .i64 xo, .int .i64 xn, .string xs, .slice xka xkn xkc, .slice xna xnm xnc, .slice xla xlm xlc] _ _ gR2)
   have HB := hJQ ((hbW.trans (hb2.mono hbW.size)).trans (gUQ (B := w.heap.size) hrow (by have := hbW.size; have := hb2.size; omega) (fun q hq => by have e2 : (w.heap.size + 1) = q := oJQ hq; omega)))
   have HD := hJQ ((hdd.grown hrow (fun q hq hp => by have e2 : (w.heap.size + 1) = q := oJQ hq; have hp : W.heap.size<=q := hp; omega)).mono (Q := (fun b => w.heap.size<=b)) (fun b hb _ => by have hb : W.heap.size<=b := hb; have := hbW.size; show w.heap.size<=b; omega))
   clear hrow hdd ho hb2
   go_wp2_with (refine wpList_store_row rfl 28 _ _ rfl (w.heap.size + 1) _ rfl rfl 28 _ gR2 cIQ rfl (all_one _ rfl) ?_)
   refine bodyPost_ret (results_cell_row rfl _ _ (w.heap.size + 1) 28 #[.int .i64 xo, .int .i64 xn, .string xs, .slice xka xkn xkc, .slice xna xnm xnc, .slice xla xlm xlc] (0, 0) _ rfl HR3.out Tryz.underlying28 rfl cIQ) rfl ?_
   exact ⟨⟨dd, by rw [hdv], HD.out, hpd⟩, HB.out⟩
 ·have q1 : op = 1/\0<=n - d := by
   refine ⟨?_, ?_⟩
   ·by_cases h : op = 1
    ·exact h
    ·exact absurd (.inl h) q1
   ·by_cases h : 0<=n - d
    ·exact h
    ·exact absurd (.inr (by omega)) q1
  obtain ⟨q1, q2⟩ := q1
  have q1' : (op != 1) = false := by rw [q1]; rfl
  by_cases q3 : (gl.length : Int)<=n - d
  ·have HE : Hid (leafT (gl.map pC) (.mk op n s (pK k) ns (l.map pC)) d = varC (n - gl.length)) := by
    show _ = _
    unfold leafT
    rw [if_neg (fun hh => by rcases hh with hh | hh; exact hh q1; have hh : n - (d : Int) < 0 := hh; omega), if_pos (by rw [List.length_map]; exact q3), List.length_map]; rfl
   rw [HE.out]
   clear q1 hop
   go_enter Tryz.func67, Tryz.ntmps67
   go_upto_region 1 with fail
   generalize (w.alloc (.cells #[.int .i64 op, .int .i64 n, .string s, .slice ka kn kc, .slice na ns.length nc, .slice a l.length c] 28)).alloc (.cells #[.int .i64 0, .int .i64 0, .string ⟨#[]⟩, .slice none 0 0, .slice none 0 0, .slice none 0 0] 28) = W at *
   obtain ⟨c0, c1, c2, c3, c4, c5⟩ := cnQ kB
   have cL := cell_int kL
   go_wp2_with fail
   refine (HVar.out W).mono ?_
   rintro e w2 ⟨ho, hb2⟩
   obtain ⟨dd, xo, xn, xs, xka, xkn, xkc, xna, xnm, xnc, xla, xlm, xlc, rfl, hdd, hpd, hdv⟩ := ho.open'
   have gR2 := (hb2.block _ (hLQ kR)).trans kR
   have hltR := hLQ kR
   have hrow := gRQ w2 (w.heap.size + 1) #[.int .i64 xo, .int .i64 xn, .string xs, .slice xka xkn xkc, .slice xna xnm xnc, .slice xla xlm xlc]
   have HR3 := hJQ (setRow_heap w2 (w.heap.size + 1) _ #[.int .i64 xo, .int .i64 xn, .string xs, .slice xka xkn xkc, .slice xna xnm xnc, .slice xla xlm xlc] _ _ gR2)
   have HB := hJQ ((hbW.trans (hb2.mono hbW.size)).trans (gUQ (B := w.heap.size) hrow (by have := hbW.size; have := hb2.size; omega) (fun q hq => by have e2 : (w.heap.size + 1) = q := oJQ hq; omega)))
   have HD := hJQ ((hdd.grown hrow (fun q hq hp => by have e2 : (w.heap.size + 1) = q := oJQ hq; have hp : W.heap.size<=q := hp; omega)).mono (Q := (fun b => w.heap.size<=b)) (fun b hb _ => by have hb : W.heap.size<=b := hb; have := hbW.size; show w.heap.size<=b; omega))
   clear hrow hdd ho hb2
   go_wp2_with (refine wpList_store_row rfl 28 _ _ rfl (w.heap.size + 1) _ rfl rfl 28 _ gR2 cIQ rfl (all_one _ rfl) ?_)
   refine bodyPost_ret (results_cell_row rfl _ _ (w.heap.size + 1) 28 #[.int .i64 xo, .int .i64 xn, .string xs, .slice xka xkn xkc, .slice xna xnm xnc, .slice xla xlm xlc] (0, 0) _ rfl HR3.out Tryz.underlying28 rfl cIQ) rfl ?_
   exact ⟨⟨dd, by rw [hdv], HD.out, hpd⟩, HB.out⟩
  ·obtain ⟨i, hi⟩ : ∃ i : Nat, n - (d : Int) = i := ⟨(n - d).toNat, by omega⟩
   have hlt : i < gl.length := by omega
   have HE : Hid (leafT (gl.map pC) (.mk op n s (pK k) ns (l.map pC)) d = rebC (leafS d 0) 0 (pC (gl.getD i default))) := by
    show _ = _
    unfold leafT
    rw [if_neg (fun hh => by rcases hh with hh | hh; exact hh q1; have hh : n - (d : Int) < 0 := hh; omega), if_neg (by rw [List.length_map]; exact q3)]
    show rebC (leafS d 0) 0 ((gl.map pC).getD (n - (d : Int)).toNat default) = _
    rw [hi, Int.toNat_natCast, map_getD pC gl _ hlt]
   rw [HE.out]
   have q3' : ¬ (gl.length : Int)<=(i : Int) := by omega
   have q3n : ¬ gl.length<=i := by omega
   have q3d : decide ((gl.length : Int)<=(i : Int)) = false := decide_eq_false q3'
   have q3e : decide (gl.length<=i) = false := decide_eq_false q3n
   have q2' : ¬ (i : Int) < 0 := by omega
   have hni : n = (i : Int) + d := by omega
   clear q1 hop HE q2 q3 hi hwr2
   subst hni
   have hwr : IntKind.i64.wrap ((i : Int) + d - d) = i := by rw [Int.add_sub_cancel]; exact wrap_ok _ (by omega) (by omega)
   go_enter Tryz.func67, Tryz.ntmps67
   go_upto_region 1 with fail
   generalize (w.alloc (.cells #[.int .i64 op, .int .i64 ((i : Int) + d), .string s, .slice ka kn kc, .slice na ns.length nc, .slice a l.length c] 28)).alloc (.cells #[.int .i64 0, .int .i64 0, .string ⟨#[]⟩, .slice none 0 0, .slice none 0 0, .slice none 0 0] 28) = W at *
   obtain ⟨c0, c1, c2, c3, c4, c5⟩ := cnQ kB
   have cL := cell_int kL
   go_wp2_with fail
   refine (HSh.out W).mono ?_
   rintro e w1 ⟨rfl, rfl⟩
   have kb0 := nHQ W (.cells #[.int .i64 d] 3)
   have hga := gAQ W (.cells #[.int .i64 d] 3)
   have hgb := gAQ (W.alloc (.cells #[.int .i64 d] 3)) (.cells #[.int .i64 0] 3)
   have hsa : (W.alloc (.cells #[.int .i64 d] 3)).heap.size = W.heap.size + 1 := by simp
   have kf : ((W.alloc (.cells #[.int .i64 d] 3)).alloc (.cells #[.int .i64 0] 3)).heap[W.heap.size + 1]? = some (.cells #[.int .i64 0] 3 (0, 0)) := (congrArg _ hsa.symm).trans (nHQ (W.alloc (.cells #[.int .i64 d] 3)) (.cells #[.int .i64 0] 3))
   have kb := (hgb.block W.heap.size (by omega) (by nofun)).trans kb0
   have hgab := gBQ hga hgb
   have hsb : ((W.alloc (.cells #[.int .i64 d] 3)).alloc (.cells #[.int .i64 0] 3)).heap.size = W.heap.size + 2 := by simp
   generalize (W.alloc (.cells #[.int .i64 d] 3)).alloc (.cells #[.int .i64 0] 3) = W2 at *
   clear kb0 hga hgb hsa
   rw [hszW] at kf kb hsb
   have hsb : W2.heap.size = w.heap.size + 4 := hsb
   rw [show (some (⟨W.heap.size + 1, 0, none⟩ : Addr)) = some ⟨w.heap.size + 3, 0, none⟩ by rw [hszW], show (some (⟨W.heap.size, 0, none⟩ : Addr)) = some ⟨w.heap.size + 2, 0, none⟩ by rw [hszW]]
   have hgm := gAQ W2 (.cells #[.func (.func 110) #[] #[.pointer (some ⟨w.heap.size + 3, 0, none⟩), .pointer (some ⟨w.heap.size + 2, 0, none⟩)], .int .i64 20000] 88)
   have kM : MkAt (W2.alloc (.cells #[.func (.func 110) #[] #[.pointer (some ⟨w.heap.size + 3, 0, none⟩), .pointer (some ⟨w.heap.size + 2, 0, none⟩)], .int .i64 20000] 88)) (w.heap.size + 4) 110 #[.pointer (some ⟨w.heap.size + 3, 0, none⟩), .pointer (some ⟨w.heap.size + 2, 0, none⟩)] 20000 := by
    have := nHQ W2 (.cells #[.func (.func 110) #[] #[.pointer (some ⟨w.heap.size + 3, 0, none⟩), .pointer (some ⟨w.heap.size + 2, 0, none⟩)], .int .i64 20000] 88)
    rw [hsb] at this
    exact this
   have hgW3 := gBQ hgab hgm
   have kR3 := (hgW3.block (w.heap.size + 1) (by omega) (by nofun)).trans kR
   have kL3 := (hgW3.block lb0 (hLQ kL) (by nofun)).trans kL
   have cL3 := cell_int kL3
   have hsm : (W2.alloc (.cells #[.func (.func 110) #[] #[.pointer (some ⟨w.heap.size + 3, 0, none⟩), .pointer (some ⟨w.heap.size + 2, 0, none⟩)], .int .i64 20000] 88)).heap.size = w.heap.size + 5 := by simp [hsb]
   have hbW3 := hbW.trans (gUQ (B := w.heap.size) hgW3 (by omega) (by nofun))
   have HRr3 := hJQ (HRr.out.grown hgW3 (by nofun))
   have HAa3 : Hid (∀ y ∈ gl, IsCon (fun b => P b/\b < w.heap.size) (W2.alloc (.cells #[.func (.func 110) #[] #[.pointer (some ⟨w.heap.size + 3, 0, none⟩), .pointer (some ⟨w.heap.size + 2, 0, none⟩)], .int .i64 20000] 88)) y) := fun y hy => (HAa.out y hy).grown hgW3 (by nofun)
   have kf3 := (hgm.block _ (hLQ kf) (by nofun)).trans kf
   have kb3 := (hgm.block _ (hLQ kb) (by nofun)).trans kb
   have hLA := leafAt_shift (fun b => P b/\b < w.heap.size) (W2.alloc (.cells #[.func (.func 110) #[] #[.pointer (some ⟨w.heap.size + 3, 0, none⟩), .pointer (some ⟨w.heap.size + 2, 0, none⟩)], .int .i64 20000] 88)) (w.heap.size + 4) (w.heap.size + 3) (w.heap.size + 2) d 0 kf3 kb3 (by omega) (by omega) (by omega) (by omega)
   obtain ⟨b, off, yop, yn, ys, yk, yns, yl, yka, ykn, ykc, yna, ync, ya, yc, fd, hbl, hq, hy, hmem, hv, HT, e0, e1, e2, e3, e4, e5⟩ := part_at HRr3.out HAa3.out i hlt
   subst fd
   have hVy := HVv.out _ (List.mem_map_of_mem (f := pC) hmem)
   obtain ⟨v1, v2, v3⟩ := val_iff.1 hVy
   have HC := rebuild_any (fun b => P b/\b < w.heap.size) (w.heap.size + 4) 110 #[.pointer (some ⟨w.heap.size + 3, 0, none⟩), .pointer (some ⟨w.heap.size + 2, 0, none⟩)] (enters_of Tryz.func110 (by kernel_rfl) rfl) (leafS d 0) (W2.alloc (.cells #[.func (.func 110) #[] #[.pointer (some ⟨w.heap.size + 3, 0, none⟩), .pointer (some ⟨w.heap.size + 2, 0, none⟩)], .int .i64 20000] 88)) (fun hp => by have := hp.2; omega) hLA _ _ 20000 0 ⟨⟨rfl, rfl, rfl, Nat.le_refl _, fun _ _ _ => rfl⟩, hy, v3, v1, kM, by omega, by omega, by omega, by omega⟩
   have hsT : sizeC (rebC (leafS d 0) 0 (pC (.mk yop yn ys yk (.slice yna yns.length ync) yns (.slice ya yl.length yc) yl)))<=20000 := by
    rw [show rebC (leafS (d : Int) 0) 0 _ = _ from reb_shift d _ 0 0 v3, shift_size _ _ _ v3]; exact v1
   have HTq : Hid (rebC (leafS d 0) 0 (pC (gl.getD i default)) = rebC (leafS d 0) 0 (pC (.mk yop yn ys yk (.slice yna yns.length ync) yns (.slice ya yl.length yc) yl))) := by show _ = _; rw [hq]
   have HCC : Hid (Calls Tryz.prog 71 #[.pointer (some ⟨w.heap.size + 4, 0, none⟩), .agg #[.int .i64 yop, .int .i64 yn, .string ys, .slice yka ykn ykc, .slice yna yns.length ync, .slice ya yl.length yc], .int .i64 0] (W2.alloc (.cells #[.func (.func 110) #[] #[.pointer (some ⟨w.heap.size + 3, 0, none⟩), .pointer (some ⟨w.heap.size + 2, 0, none⟩)], .int .i64 20000] 88)) fun e w' => ConOut (fun b => (W2.alloc (.cells #[.func (.func 110) #[] #[.pointer (some ⟨w.heap.size + 3, 0, none⟩), .pointer (some ⟨w.heap.size + 2, 0, none⟩)], .int .i64 20000] 88)).heap.size<=b) (rebC (leafS d 0) 0 (pC (.mk yop yn ys yk (.slice yna yns.length ync) yns (.slice ya yl.length yc) yl))) e w'/\(W2.alloc (.cells #[.func (.func 110) #[] #[.pointer (some ⟨w.heap.size + 3, 0, none⟩), .pointer (some ⟨w.heap.size + 2, 0, none⟩)], .int .i64 20000] 88)).grownBy w' (some (w.heap.size + 4))) := by
    rw [hv] at HC
    refine HC.mono ?_
    rintro e w' ⟨dd, lj, rfl, hdd, hm, hgj, _, _, hyes, _⟩
    exact ⟨⟨dd, rfl, hdd, (hyes (by omega)).1⟩, hgj⟩
   clear HC hLA hy hv hmem HT hVy v1 v2 v3 hq hsT
   generalize rebC (leafS d 0) 0 (pC (.mk yop yn ys yk (.slice yna yns.length ync) yns (.slice ya yl.length yc) yl)) = T at *
   go_wp2_with fail
   refine HCC.out.mono ?_
   rintro e w4 ⟨ho, hgj⟩
   obtain ⟨dd, xo, xn, xs, xka, xkn, xkc, xna, xnm, xnc, xla, xlm, xlc, rfl, hdd, hpd, hdv⟩ := ho.open'
   have hs4 := hgj.size
   have gR4 := (hgj.block (w.heap.size + 1) (by omega) (fun e => by have e2 : w.heap.size + 1 = w.heap.size + 4 := oJQ e; omega)).trans kR3
   have hrow := gRQ w4 (w.heap.size + 1) #[.int .i64 xo, .int .i64 xn, .string xs, .slice xka xkn xkc, .slice xna xnm xnc, .slice xla xlm xlc]
   have HR5 := hJQ (setRow_heap w4 (w.heap.size + 1) _ #[.int .i64 xo, .int .i64 xn, .string xs, .slice xka xkn xkc, .slice xna xnm xnc, .slice xla xlm xlc] _ _ gR4)
   have HB := hJQ ((hbW3.trans (gUQ (B := w.heap.size) hgj (by omega) (fun q hq => by have e2 : w.heap.size + 4 = q := oJQ hq; omega))).trans (gUQ (B := w.heap.size) hrow (by omega) (fun q hq => by have e2 : w.heap.size + 1 = q := oJQ hq; omega)))
   have HD := hJQ ((hdd.grown hrow (fun q hq hp => by have e2 : w.heap.size + 1 = q := oJQ hq; have hp : (W2.alloc (.cells #[.func (.func 110) #[] #[.pointer (some ⟨w.heap.size + 3, 0, none⟩), .pointer (some ⟨w.heap.size + 2, 0, none⟩)], .int .i64 20000] 88)).heap.size<=q := hp; omega)).mono (Q := fun b => w.heap.size<=b) (fun b hb _ => by have hb : (W2.alloc (.cells #[.func (.func 110) #[] #[.pointer (some ⟨w.heap.size + 3, 0, none⟩), .pointer (some ⟨w.heap.size + 2, 0, none⟩)], .int .i64 20000] 88)).heap.size<=b := hb; show w.heap.size<=b; omega))
   clear hrow hdd ho hgj HCC
   go_wp2_with (refine wpList_store_row rfl 28 _ _ rfl (w.heap.size + 1) _ rfl rfl 28 _ gR4 cIQ rfl (all_one _ rfl) ?_)
   refine bodyPost_ret (results_cell_row rfl _ _ (w.heap.size + 1) 28 #[.int .i64 xo, .int .i64 xn, .string xs, .slice xka xkn xkc, .slice xna xnm xnc, .slice xla xlm xlc] (0, 0) _ rfl HR5.out Tryz.underlying28 rfl cIQ) rfl ?_
   exact ⟨⟨dd, by rw [hdv], HD.out, by rw [HTq.out]; exact hpd⟩, HB.out⟩
def leafI (c : Cn) (_ : Int) : Cn := .mk c.op c.n c.s c.k [] []
theorem reb_id : ∀ (c : Cn) (d : Int), frmC c = true->rebC leafI d c = c := by
 refine Cn.ind (fun op n s k ns l ih d hf => ?_)
 have hfs := fSQ hf
 by_cases hop : op = 1 ∨ op = 2
 ·rw [rebC_leaf _ _ _ _ _ _ _ _ hop]
  obtain rfl : l = [] := hfs.2.2.2.2 hop
  obtain ⟨h1, _⟩ := (formC_iff cstB labsB ..).1 hf
  have h5 := (node_parts h1).2.2.2.2
  have hlb : labelledB op = false := by rcases hop with rfl | rfl <;> rfl
  rw [hlb, if_neg (by decide)] at h5
  obtain rfl : ns = [] := List.isEmpty_iff.1 h5
  rfl
 ·rw [rebC_node _ _ _ _ _ _ _ _ hop]
  congr 1
  have : ∀ x ∈ l, rebC leafI (if binderB op = true then d + 1 else d) x = x := fun x hx => ih x hx _ (hfs.2.2.2.1 x hx)
  clear ih hfs hf
  induction l with
  | nil => rfl
  | cons x r ihr => rw [List.map_cons, this x (by simp), ihr (fun y hy => this y (by simp [hy]))]
end Go.Proofs.YtkiffgdinmpljaaGreatDoor
