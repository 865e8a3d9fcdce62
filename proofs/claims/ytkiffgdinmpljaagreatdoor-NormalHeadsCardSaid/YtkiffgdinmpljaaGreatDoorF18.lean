/- Shift$1, each, Shift at -1, where the variable is not free. Expanded by mac.py. Shift. Printed by gen_shift.py, expanded by mac.py. -/
import Derived.Test.YtkiffgdinmpljaaGreatDoorF17
import Derived.Test.YtkiffgdinmpljaaGreatDoorF16
set_option linter.unusedVariables false
set_option linter.unusedSimpArgs false
namespace Go.Proofs.YtkiffgdinmpljaaGreatDoor
open Go Go.RowKit
set_option maxHeartbeats 8000000
set_option maxRecDepth 100000
def ShAt (V : World) (fb bb lb : Nat) : Prop := V.heap[fb]? = some (.cells #[.int .i64 0] 3 (0, 0))/\V.heap[bb]? = some (.cells #[.int .i64 (-1)] 3 (0, 0))/\V.heap[lb]? = some (.cells #[.bool false] 4 (0, 0))
theorem ShAt.below {V V' : World} {fb bb lb : Nat} (h : ShAt V fb bb lb) (hb : Below V.heap.size V V') : ShAt V' fb bb lb :=
 ⟨(hb.block _ (hLQ h.1)).trans h.1, (hb.block _ (hLQ h.2.1)).trans h.2.1, (hb.block _ (hLQ h.2.2)).trans h.2.2⟩
theorem cell_any {w : World} {q : Nat} {x : Value} {t : TypeId} (h : w.heap[q]? = some (.cells #[x] t (0, 0))) : w.cell? ⟨q, 0, none⟩ = some x := by simp [World.cell?, h]
theorem shiftF_any (P : Nat->Prop) (x : ConD) (fb bb lb : Nat) (d : Int) (w : World) (h : IsCon P w x) (hS : ShAt w fb bb lb) (hok : x.op ≠ 1 ∨ x.n ≠ d) (hn : -1000000<=x.n) (hn1 : x.n<=1000000) (hd0 : 0<=d) (hd1 : d<=1000) :
 Calls Tryz.prog 123 (#[conV x, .int .i64 d] ++ #[.pointer (some ⟨fb, 0, none⟩), .pointer (some ⟨bb, 0, none⟩), .pointer (some ⟨lb, 0, none⟩)]) w fun e w' => e = .returned (.tuple #[])/\Below w.heap.size w w' := by
 obtain ⟨op, n, s, k, nv, ns, lv, l⟩ := x
 have hn : -1000000<=n := hn
 have hn1 : n<=1000000 := hn1
 have hok : op ≠ 1 ∨ n ≠ d := hok
 obtain ⟨ka, kc, kn, na, nc, a, c, rfl, _, rfl, _, hks, hcv, hll, hnn, hb0, gC, hsz0, HP, HC0, c0, c1, c2, c3, c4, c5⟩ := open_box h
 rw [hcv]
 clear hcv
 obtain ⟨s0, s1, s2⟩ := hS.below hb0
 have t0 := cell_any s0
 have t1 := cell_any s1
 have t2 := cell_any s2
 have hwr : IntKind.i64.wrap (n - d) = n - d := wrap_ok _ (by omega) (by omega)
 have hwr2 : IntKind.i64.wrap (n - d + -1) = n - d + -1 := wrap_ok _ (by omega) (by omega)
 clear h hks HP HC0 hS gC hn hn1 s0 s1 s2
 by_cases q1 : op = 1
 ·have q1' : (op == 1) = true := beq_iff_eq.2 q1
  have q2 : n ≠ d := by rcases hok with h | h; exact absurd q1 h; exact h
  by_cases q3 : 0<=n - d
  ·have q4 : ¬ n - d + -1 < 0 := by omega
   clear hok q1
   go_enter Tryz.func123, Tryz.ntmps123
   go_wp2_with fail
   go_end0
   exact ⟨rfl, hb0⟩
  ·clear hok q1
   go_enter Tryz.func123, Tryz.ntmps123
   go_wp2_with fail
   go_end0
   exact ⟨rfl, hb0⟩
 ·have q1' : (op == 1) = false := nEQ q1
  clear hok q1
  go_enter Tryz.func123, Tryz.ntmps123
  go_wp2_with fail
  go_end0
  exact ⟨rfl, hb0⟩
def EachAll (x : ConD) : Prop := ∀ (P : Nat->Prop) (fb bb lb : Nat) (d : Int) (w : World), IsCon P w x->ShAt w fb bb lb->frmC (pC x) = true->occC d (pC x) = false->0<=d->d + dCQ (pC x)<=1000 →
 Calls Tryz.prog 122 #[conV x, .int .i64 d, .func (.func 123) #[] #[.pointer (some ⟨fb, 0, none⟩), .pointer (some ⟨bb, 0, none⟩), .pointer (some ⟨lb, 0, none⟩)]] w fun e w' => e = .returned (.tuple #[])/\Below w.heap.size w w'
theorem each_any : ∀ x : ConD, EachAll x := by
 refine ConD.ind (fun op n s k nv ns lv l ih P fb bb lb d w h hS hf ho hd0 hd1 => ?_)
 rw [pMQ] at hf ho hd1
 rw [depthC_mk] at hd1
 rw [occC_mk] at ho
 have hz := fSQ hf
 obtain ⟨ka, kc, kn, na, nc, a, c, rfl, _, rfl, _, hks, hcv, hll, hnn, hb0, gC, hsz0, HP, HC0, c0, c1, c2, c3, c4, c5⟩ := open_box h
 rw [hcv]
 clear hcv
 have hPW := cVQ (op := op) (n := n) (s := s) (nv := .slice na ns.length nc) (lv := .slice a l.length c) (ns := ns) (l := l) hks
 have hlt : w.heap.size < (w.alloc (.cells #[.int .i64 op, .int .i64 n, .string s, .slice ka kn kc, .slice na ns.length nc, .slice a l.length c] 28)).heap.size := by omega
 have HS := hJQ (hS.below hb0)
 have HI := hJQ ih
 have HZ := hJQ hz.2.2.2.1
 by_cases hop : op = 1 ∨ op = 2
 ·have hl0 := (frm_leaf hf hop).2
  have hl0' : l = [] := List.map_eq_nil_iff.1 hl0
  have hn : -1000000<=n/\n<=1000000 := by
   rcases hop with ho | ho
   ·have := hz.2.2.1 (.inl ho); omega
   ·obtain ⟨h1, _⟩ := (formC_iff cstB labsB ..).1 hf
    have a2 := (node_parts h1).2.1
    rw [if_neg (by omega)] at a2
    have : n = 0 := beq_iff_eq.1 a2
    omega
  have hok : op ≠ 1 ∨ n ≠ d := by
   by_cases h1 : op = 1
   ·rw [if_pos h1] at ho
    exact .inr (by simpa using ho)
   ·exact .inl h1
  have HF := shiftF_any P _ fb bb lb d _ HC0.out (hS.below hb0) hok hn.1 hn.2 hd0 (by omega)
  rw [hPW] at HF
  have HF : Hid (Calls Tryz.prog 123 #[(.agg #[.int .i64 op, .int .i64 n, .string s, .slice ka kn kc, .slice na ns.length nc, .slice a l.length c]), .int .i64 d, .pointer (some ⟨fb, 0, none⟩), .pointer (some ⟨bb, 0, none⟩), .pointer (some ⟨lb, 0, none⟩)] (w.alloc (.cells #[.int .i64 op, .int .i64 n, .string s, .slice ka kn kc, .slice na ns.length nc, .slice a l.length c] 28)) fun e w' => e = .returned (.tuple #[])/\Below (w.alloc (.cells #[.int .i64 op, .int .i64 n, .string s, .slice ka kn kc, .slice na ns.length nc, .slice a l.length c] 28)).heap.size (w.alloc (.cells #[.int .i64 op, .int .i64 n, .string s, .slice ka kn kc, .slice na ns.length nc, .slice a l.length c] 28)) w') := by
   have e9 : (#[(.agg #[.int .i64 op, .int .i64 n, .string s, .slice ka kn kc, .slice na ns.length nc, .slice a l.length c]), .int .i64 d] ++ #[.pointer (some ⟨fb, 0, none⟩), .pointer (some ⟨bb, 0, none⟩), .pointer (some ⟨lb, 0, none⟩)] : Array Value) = #[(.agg #[.int .i64 op, .int .i64 n, .string s, .slice ka kn kc, .slice na ns.length nc, .slice a l.length c]), .int .i64 d, .pointer (some ⟨fb, 0, none⟩), .pointer (some ⟨bb, 0, none⟩), .pointer (some ⟨lb, 0, none⟩)] := by simp
   rw [e9] at HF
   exact HF
  have HBi : Hid (∀ W, Below w.heap.size w W->Calls Tryz.prog 88 #[(.agg #[.int .i64 op, .int .i64 n, .string s, .slice ka kn kc, .slice na ns.length nc, .slice a l.length c])] W fun e w' => e = .returned (.bool false)/\Below W.heap.size W w') := fun W hW => by
   have := binder_any P _ W (iBQ h hW)
   rw [hPW, show (ConD.mk op n s k (.slice na ns.length nc) ns (.slice a l.length c) l).op = op from rfl, show binderB op = false by rcases hop with rfl | rfl <;> rfl] at this
   exact this
  have hopb : (op == 1) = true ∨ ((op == 1) = false/\(op == 2) = true) := by
   rcases hop with rfl | rfl
   ·exact .inl rfl
   ·exact .inr ⟨rfl, rfl⟩
  have HL0 : Hid (l.length = 0) := by show _ = _; rw [hl0']; rfl
  clear h hks HP HC0 hS hf ho hz hn hok hop hl0 hl0' hPW ih
  rcases hopb with q1 | ⟨q1, q2⟩
  all_goals
   go_enter Tryz.func122, Tryz.ntmps122
   go_wp2_with fail
   refine HF.out.mono ?_
   rintro e w2 ⟨rfl, hb2⟩
   have g2 := (hb2.block _ hlt).trans gC
   obtain ⟨d0, d1, d2, d3, d4, d5⟩ := cnQ g2
   have hbw2 := hb0.trans (hb2.mono hb0.size)
   go_wp2_with fail
   refine (HBi.out _ hbw2).mono ?_
   rintro e w3 ⟨rfl, hb3⟩
   have g3 := (hb3.block _ (hLQ g2)).trans g2
   obtain ⟨e0, e1, e2, e3, e4, e5⟩ := cnQ g3
   have hbw3 := hbw2.trans (hb3.mono hbw2.size)
   clear HF HBi hb3 hb2 g2 d0 d1 d2 d3 d4 d5 c0 c1 c2 c3 c4 c5 gC
   go_wp2_with fail
   go_loopw [27] (fun i wr => ∃ j : Nat, j<=l.length/\i = .int .i64 j/\Below w.heap.size w wr) (fun i _ => l.length - (intOf i).toNat)
   case atStart => exact ⟨0, Nat.zero_le _, rfl, hbw3⟩
   case round =>
    obtain ⟨j, hj, rfl, hbr⟩ := hrel
    obtain rfl : j = l.length := by have := HL0.out; omega
    go_wp2_with fail
    go_end0
    exact ⟨rfl, hbr⟩
 ·have n1 : (op == 1) = false := nEQ (fun e => hop (.inl e))
  have n2 : (op == 2) = false := nEQ (fun e => hop (.inr e))
  rw [if_neg (fun e => hop (.inl e))] at ho
  obtain ⟨bb2, hbb⟩ : ∃ b, binderB op = b := ⟨_, rfl⟩
  have HBi : Hid (∀ W, Below w.heap.size w W->Calls Tryz.prog 88 #[(.agg #[.int .i64 op, .int .i64 n, .string s, .slice ka kn kc, .slice na ns.length nc, .slice a l.length c])] W fun e w' => e = .returned (.bool bb2)/\Below W.heap.size W w') := fun W hW => by
   have := binder_any P _ W (iBQ h hW)
   rw [hPW, show (ConD.mk op n s k (.slice na ns.length nc) ns (.slice a l.length c) l).op = op from rfl, hbb] at this
   exact this
  rw [hbb] at ho
  have hwd : IntKind.i64.wrap (d + 1) = d + 1 := wrap_ok _ (by omega) (by omega)
  have HO := hJQ ho
  clear h hks HC0 hS hf ho hz hop hPW ih hbb
  go_enter Tryz.func122, Tryz.ntmps122
  go_wp2_with fail
  refine (HBi.out _ hb0).mono ?_
  rintro e w3 ⟨rfl, hb3⟩
  have g3 := (hb3.block _ hlt).trans gC
  obtain ⟨k0, k1, k2, k3, k4, k5⟩ := cnQ g3
  have hbw3 := hb0.trans (hb3.mono hb0.size)
  generalize w.alloc (.cells #[.int .i64 op, .int .i64 n, .string s, .slice ka kn kc, .slice na ns.length nc, .slice a l.length c] 28) = W0 at *
  have HS3 := hJQ (HS.out.below hb3)
  have HP3 : Hid (∀ V, Below w3.heap.size w3 V->RowP P V (.slice a l.length c) l.length (cCQ l)/\∀ y ∈ l, IsCon P V y) := fun V hV => by
   have hk := (Kept.of_below (P := P) hb3).trans (Kept.of_below hV)
   exact ⟨hk.row HP.out.row, fun y hy => hk.con (HP.out.all y hy)⟩
  clear HBi hb3 HP HS c0 c1 c2 c3 c4 c5 gC hb0 hlt
  cases bb2
  ·have HO2 : Hid ((l.map pC).any (occC d) = false) := HO.out
   go_wp2_with fail
   go_loopw [27] (fun i wr => ∃ j : Nat, j<=l.length/\i = .int .i64 j/\Below w3.heap.size w3 wr) (fun i _ => l.length - (intOf i).toNat)
   case atStart => exact ⟨0, Nat.zero_le _, rfl, Below.refl _ _⟩
   case round =>
    rename World => V
    obtain ⟨j, hj, rfl, hbr⟩ := hrel
    by_cases hjl : j < l.length
    ·obtain ⟨b, off, yop, yn, ys, yk, yns, yl, yka, ykn, ykc, yna, ync, ya, yc, fd, hbl, hq, hy, hmem, hv, HT, e0, e1, e2, e3, e4, e5⟩ := part_at (HP3.out V hbr).1 (HP3.out V hbr).2 j hjl
     subst fd
     have hbY : Below V.heap.size V (V.alloc (.cells #[.int .i64 yop, .int .i64 yn, .string ys, .slice yka ykn ykc, .slice yna yns.length ync, .slice ya yl.length yc] 28)) := (Below.refl _ _).alloc (nLQ _) _
     obtain ⟨f0, f1, f2, f3, f4, f5⟩ := cnQ (nHQ V (.cells #[.int .i64 yop, .int .i64 yn, .string ys, .slice yka ykn ykc, .slice yna yns.length ync, .slice ya yl.length yc] 28))
     have hm' : pC (.mk yop yn ys yk (.slice yna yns.length ync) yns (.slice ya yl.length yc) yl) ∈ l.map pC := List.mem_map_of_mem hmem
     have HC := HI.out _ hmem P fb bb lb d _ (iBQ hy hbY) ((HS3.out.below hbr).below hbY) (HZ.out _ hm') (bFQ (fun hh => by have h2 := HO2.out; rw [List.any_eq_false] at h2; exact h2 _ hm' hh)) (by omega) (by have := dGQ _ _ hm'; omega)
     rw [hv] at HC
     have HC := hJQ HC
     have hbb := hbr.trans (hbY.mono hbr.size)
     clear hy hv hmem hq HT hm'
     go_wp2_with fail
     refine HC.out.mono ?_
     rintro e w5 ⟨rfl, hb5⟩
     have hbr2 := hbb.trans (hb5.mono hbb.size)
     clear HC
     go_wp2_with fail
     go_roundw
     case rel => exact ⟨j + 1, by omega, by go_num, hbr2⟩
     case measure => simp [intOf]; omega
    ·obtain rfl : j = l.length := by omega
     have hbz := hbw3.trans (hbr.mono hbw3.size)
     go_wp2_with fail
     go_end0
     exact ⟨rfl, hbz⟩
  ·have HO2 : Hid ((l.map pC).any (occC (d + 1)) = false) := HO.out
   go_wp2_with fail
   go_loopw [27] (fun i wr => ∃ j : Nat, j<=l.length/\i = .int .i64 j/\Below w3.heap.size w3 wr) (fun i _ => l.length - (intOf i).toNat)
   case atStart => exact ⟨0, Nat.zero_le _, rfl, Below.refl _ _⟩
   case round =>
    rename World => V
    obtain ⟨j, hj, rfl, hbr⟩ := hrel
    by_cases hjl : j < l.length
    ·obtain ⟨b, off, yop, yn, ys, yk, yns, yl, yka, ykn, ykc, yna, ync, ya, yc, fd, hbl, hq, hy, hmem, hv, HT, e0, e1, e2, e3, e4, e5⟩ := part_at (HP3.out V hbr).1 (HP3.out V hbr).2 j hjl
     subst fd
     have hbY : Below V.heap.size V (V.alloc (.cells #[.int .i64 yop, .int .i64 yn, .string ys, .slice yka ykn ykc, .slice yna yns.length ync, .slice ya yl.length yc] 28)) := (Below.refl _ _).alloc (nLQ _) _
     obtain ⟨f0, f1, f2, f3, f4, f5⟩ := cnQ (nHQ V (.cells #[.int .i64 yop, .int .i64 yn, .string ys, .slice yka ykn ykc, .slice yna yns.length ync, .slice ya yl.length yc] 28))
     have hm' : pC (.mk yop yn ys yk (.slice yna yns.length ync) yns (.slice ya yl.length yc) yl) ∈ l.map pC := List.mem_map_of_mem hmem
     have HC := HI.out _ hmem P fb bb lb (d + 1) _ (iBQ hy hbY) ((HS3.out.below hbr).below hbY) (HZ.out _ hm') (bFQ (fun hh => by have h2 := HO2.out; rw [List.any_eq_false] at h2; exact h2 _ hm' hh)) (by omega) (by have := dGQ _ _ hm'; omega)
     rw [hv] at HC
     have HC := hJQ HC
     have hbb := hbr.trans (hbY.mono hbr.size)
     clear hy hv hmem hq HT hm'
     go_wp2_with fail
     refine HC.out.mono ?_
     rintro e w5 ⟨rfl, hb5⟩
     have hbr2 := hbb.trans (hb5.mono hbb.size)
     clear HC
     go_wp2_with fail
     go_roundw
     case rel => exact ⟨j + 1, by omega, by go_num, hbr2⟩
     case measure => simp [intOf]; omega
    ·obtain rfl : j = l.length := by omega
     have hbz := hbw3.trans (hbr.mono hbw3.size)
     go_wp2_with fail
     go_end0
     exact ⟨rfl, hbz⟩
def ShS (V : World) (w : World) (x0 x1 x2 x3 x4 x5 : Value) : Prop := V.heap[w.heap.size]? = some (.cells #[x0, x1, x2, x3, x4, x5] 28 (0, 0))/\V.heap[w.heap.size + 1]? = some (.cells #[.int .i64 (-1)] 3 (0, 0))/\V.heap[w.heap.size + 2]? = some (.cells #[.int .i64 0] 3 (0, 0))/\V.heap[w.heap.size + 3]? = some (.cells #[.int .i64 0, .int .i64 0, .string ⟨#[]⟩, .slice none 0 0, .slice none 0 0, .slice none 0 0] 28)
theorem ShS.below {V V' w : World} {x0 x1 x2 x3 x4 x5 : Value} (h : ShS V w x0 x1 x2 x3 x4 x5) (hb : Below V.heap.size V V') : ShS V' w x0 x1 x2 x3 x4 x5 :=
 ⟨(hb.block _ (hLQ h.1)).trans h.1, (hb.block _ (hLQ h.2.1)).trans h.2.1, (hb.block _ (hLQ h.2.2.1)).trans h.2.2.1, (hb.block _ (hLQ h.2.2.2)).trans h.2.2.2⟩
theorem shift_any (P : Nat->Prop) (x : ConD) (w : World) (hE : EnvN w) (h : IsCon P w x) (hv : valC (pC x) = true) (hb : bndC (pC x)) (ho : occC 0 (pC x) = false) :
 Calls Tryz.prog 97 #[conV x, .int .i64 (-1), .int .i64 0] w (ReplOk (shiftC (-1) 0 (pC x)) w) := by
 obtain ⟨hv1, hv2, hv3⟩ := val_iff.1 hv
 have hTe : rebC (leafS (-1) 0) 0 (pC x) = shiftC (-1) 0 (pC x) := reb_shift (-1) _ 0 0 hv3
 have hbT := bnd_shift (-1) _ 0 hb
 rw [← hTe] at hbT
 obtain ⟨op, n, s, k, nv, ns, lv, l⟩ := x
 obtain ⟨ka, kc, kn, na, nc, a, c, rfl, _, rfl, _, hks, hcv, hll, hnn, hb0, gC, hsz0, HP, HC0, c0, c1, c2, c3, c4, c5⟩ := open_box h
 rw [hcv]
 clear hcv
 have hPW := cVQ (op := op) (n := n) (s := s) (nv := .slice na ns.length nc) (lv := .slice a l.length c) (ns := ns) (l := l) hks
 have g1 := gAQ (w.alloc (.cells #[.int .i64 op, .int .i64 n, .string s, .slice ka kn kc, .slice na ns.length nc, .slice a l.length c] 28)) (.cells #[.int .i64 (-1)] 3)
 have g2 := gAQ ((w.alloc (.cells #[.int .i64 op, .int .i64 n, .string s, .slice ka kn kc, .slice na ns.length nc, .slice a l.length c] 28)).alloc (.cells #[.int .i64 (-1)] 3)) (.cells #[.int .i64 0] 3)
 have g3 := gAQ (((w.alloc (.cells #[.int .i64 op, .int .i64 n, .string s, .slice ka kn kc, .slice na ns.length nc, .slice a l.length c] 28)).alloc (.cells #[.int .i64 (-1)] 3)).alloc (.cells #[.int .i64 0] 3)) (.cells #[.int .i64 0, .int .i64 0, .string ⟨#[]⟩, .slice none 0 0, .slice none 0 0, .slice none 0 0] 28)
 have s1 : ((w.alloc (.cells #[.int .i64 op, .int .i64 n, .string s, .slice ka kn kc, .slice na ns.length nc, .slice a l.length c] 28)).alloc (.cells #[.int .i64 (-1)] 3)).heap.size = w.heap.size + 2 := by simp
 have s2 : (((w.alloc (.cells #[.int .i64 op, .int .i64 n, .string s, .slice ka kn kc, .slice na ns.length nc, .slice a l.length c] 28)).alloc (.cells #[.int .i64 (-1)] 3)).alloc (.cells #[.int .i64 0] 3)).heap.size = w.heap.size + 3 := by simp
 have s3 : ((((w.alloc (.cells #[.int .i64 op, .int .i64 n, .string s, .slice ka kn kc, .slice na ns.length nc, .slice a l.length c] 28)).alloc (.cells #[.int .i64 (-1)] 3)).alloc (.cells #[.int .i64 0] 3)).alloc (.cells #[.int .i64 0, .int .i64 0, .string ⟨#[]⟩, .slice none 0 0, .slice none 0 0, .slice none 0 0] 28)).heap.size = w.heap.size + 4 := by simp
 have k1 : ((w.alloc (.cells #[.int .i64 op, .int .i64 n, .string s, .slice ka kn kc, .slice na ns.length nc, .slice a l.length c] 28)).alloc (.cells #[.int .i64 (-1)] 3)).heap[w.heap.size + 1]? = _ := (congrArg _ hsz0.symm).trans (nHQ (w.alloc (.cells #[.int .i64 op, .int .i64 n, .string s, .slice ka kn kc, .slice na ns.length nc, .slice a l.length c] 28)) (.cells #[.int .i64 (-1)] 3))
 have k2 : (((w.alloc (.cells #[.int .i64 op, .int .i64 n, .string s, .slice ka kn kc, .slice na ns.length nc, .slice a l.length c] 28)).alloc (.cells #[.int .i64 (-1)] 3)).alloc (.cells #[.int .i64 0] 3)).heap[w.heap.size + 2]? = _ := (congrArg _ s1.symm).trans (nHQ ((w.alloc (.cells #[.int .i64 op, .int .i64 n, .string s, .slice ka kn kc, .slice na ns.length nc, .slice a l.length c] 28)).alloc (.cells #[.int .i64 (-1)] 3)) (.cells #[.int .i64 0] 3))
 have k3 : ((((w.alloc (.cells #[.int .i64 op, .int .i64 n, .string s, .slice ka kn kc, .slice na ns.length nc, .slice a l.length c] 28)).alloc (.cells #[.int .i64 (-1)] 3)).alloc (.cells #[.int .i64 0] 3)).alloc (.cells #[.int .i64 0, .int .i64 0, .string ⟨#[]⟩, .slice none 0 0, .slice none 0 0, .slice none 0 0] 28)).heap[w.heap.size + 3]? = _ := (congrArg _ s2.symm).trans (nHQ (((w.alloc (.cells #[.int .i64 op, .int .i64 n, .string s, .slice ka kn kc, .slice na ns.length nc, .slice a l.length c] 28)).alloc (.cells #[.int .i64 (-1)] 3)).alloc (.cells #[.int .i64 0] 3)) (.cells #[.int .i64 0, .int .i64 0, .string ⟨#[]⟩, .slice none 0 0, .slice none 0 0, .slice none 0 0] 28))
 have HSh : ShS ((((w.alloc (.cells #[.int .i64 op, .int .i64 n, .string s, .slice ka kn kc, .slice na ns.length nc, .slice a l.length c] 28)).alloc (.cells #[.int .i64 (-1)] 3)).alloc (.cells #[.int .i64 0] 3)).alloc (.cells #[.int .i64 0, .int .i64 0, .string ⟨#[]⟩, .slice none 0 0, .slice none 0 0, .slice none 0 0] 28)) w (.int .i64 op) (.int .i64 n) (.string s) (.slice ka kn kc) (.slice na ns.length nc) (.slice a l.length c) := ⟨(g3.block _ (by omega) (by nofun)).trans ((g2.block _ (by omega) (by nofun)).trans ((g1.block _ (by omega) (by nofun)).trans gC)), (g3.block _ (by omega) (by nofun)).trans ((g2.block _ (by omega) (by nofun)).trans k1), (g3.block _ (by omega) (by nofun)).trans k2, k3⟩
 have hgW := gBQ (gBQ (gBQ (gAQ w (.cells #[.int .i64 op, .int .i64 n, .string s, .slice ka kn kc, .slice na ns.length nc, .slice a l.length c] 28)) g1) g2) g3
 have hbW := gUQ (B := w.heap.size) hgW (nLQ _) (by nofun)
 have hcW := h.grown hgW (by nofun)
 have HVd := valid_any P _ _ (hE.below hbW) hcW hb (by omega)
 rw [hPW, hv] at HVd
 have HVd := hJQ HVd
 have HCW := hJQ hcW
 have HE := hJQ (hE.below hbW)
 have HPW := hJQ hPW
 have HTE := hJQ hTe
 have HBT := hJQ hbT
 have HVV := hJQ hv
 have HOO := hJQ ho
 clear h hks hPW g1 g2 g3 s1 s2 k1 k2 k3 gC HP HC0 hb0 hsz0 c0 c1 c2 c3 c4 c5 hcW hE hTe hv hbT hb ho
 go_enter Tryz.func97, Tryz.ntmps97
 go_upto_region 1 with fail
 generalize ((((w.alloc (.cells #[.int .i64 op, .int .i64 n, .string s, .slice ka kn kc, .slice na ns.length nc, .slice a l.length c] 28)).alloc (.cells #[.int .i64 (-1)] 3)).alloc (.cells #[.int .i64 0] 3)).alloc (.cells #[.int .i64 0, .int .i64 0, .string ⟨#[]⟩, .slice none 0 0, .slice none 0 0, .slice none 0 0] 28)) = W at *
 obtain ⟨c0, c1, c2, c3, c4, c5⟩ := cnQ HSh.1
 go_wp2_with fail
 refine HVd.out.mono ?_
 rintro e w2 ⟨rfl, hb2⟩
 have hbw2 := hbW.trans (hb2.mono hbW.size)
 have hS2 := HSh.below hb2
 have b1 := cell_any hS2.2.1
 have b2 := cell_any hS2.2.2.1
 obtain ⟨d0, d1, d2, d3, d4, d5⟩ := cnQ hS2.1
 have hs2 : w.heap.size + 4<=w2.heap.size := by have := hb2.size; omega
 clear c0 c1 c2 c3 c4 c5 HVd
 have hgl := gAQ w2 (.cells #[.bool false] 4)
 have hbl : Below w2.heap.size w2 (w2.alloc (.cells #[.bool false] 4)) := (Below.refl _ _).alloc (nLQ _) _
 have hSl := hS2.below hbl
 have kl := nHQ w2 (.cells #[.bool false] 4)
 have hsl : (w2.alloc (.cells #[.bool false] 4)).heap.size = w2.heap.size + 1 := by simp
 have HEa := each_any _ P (w.heap.size + 2) (w.heap.size + 1) w2.heap.size 0 (w2.alloc (.cells #[.bool false] 4)) (iBQ (iBQ HCW.out hb2) hbl) ⟨hSl.2.2.1, hSl.2.1, kl⟩ hv3 HOO.out (by omega) (by omega)
 rw [HPW.out] at HEa
 have HEa := hJQ HEa
 obtain ⟨e0, e1, e2, e3, e4, e5⟩ := cnQ hSl.1
 clear hgl
 go_wp2_with fail
 refine HEa.out.mono ?_
 rintro e w3 ⟨rfl, hb3⟩
 have hbl3 := hbl.trans (hb3.mono hbl.size)
 have hbw3 := hbw2.trans (hbl3.mono hbw2.size)
 have hS3 := hSl.below hb3
 have kl3 := cell_any ((hb3.block _ (hLQ kl)).trans kl)
 have hs3 : w2.heap.size + 1<=w3.heap.size := by have := hb3.size; omega
 clear HEa e0 e1 e2 e3 e4 e5 d0 d1 d2 d3 d4 d5 b1 b2
 go_upto_region 9 with fail
 clear kl3
 obtain ⟨c0, c1, c2, c3, c4, c5⟩ := cnQ hS3.1
 have S0 : (fun w9 => w9.cell? ⟨w.heap.size, 0, none⟩ = some (.int .i64 op)/\w9.cell? ⟨w.heap.size, 1, none⟩ = some (.int .i64 n)/\w9.cell? ⟨w.heap.size, 2, none⟩ = some (.string s)/\w9.cell? ⟨w.heap.size, 3, none⟩ = some (.slice ka kn kc)/\w9.cell? ⟨w.heap.size, 4, none⟩ = some (.slice na ns.length nc)/\w9.cell? ⟨w.heap.size, 5, none⟩ = some (.slice a l.length c)/\w9.cell? ⟨w.heap.size + 1, 0, none⟩ = some (.int .i64 (-1))/\w9.cell? ⟨w.heap.size + 2, 0, none⟩ = some (.int .i64 0)) w3.drew := ⟨c0, c1, c2, c3, c4, c5, cell_any hS3.2.1, cell_any hS3.2.2.1⟩
 have HSf := hJQ (shifted_any (-1) 0 w3.drew)
 refine wp_region_held_drew (S := (fun w9 => w9.cell? ⟨w.heap.size, 0, none⟩ = some (.int .i64 op)/\w9.cell? ⟨w.heap.size, 1, none⟩ = some (.int .i64 n)/\w9.cell? ⟨w.heap.size, 2, none⟩ = some (.string s)/\w9.cell? ⟨w.heap.size, 3, none⟩ = some (.slice ka kn kc)/\w9.cell? ⟨w.heap.size, 4, none⟩ = some (.slice na ns.length nc)/\w9.cell? ⟨w.heap.size, 5, none⟩ = some (.slice a l.length c)/\w9.cell? ⟨w.heap.size + 1, 0, none⟩ = some (.int .i64 (-1))/\w9.cell? ⟨w.heap.size + 2, 0, none⟩ = some (.int .i64 0))) (by kernel_rfl) S0 (fun hHeld => ?_)
 refine tks (b := ?_) (by kernel_rfl) (fun _ _ _ _ _ h => h) S0 3 [0, 1, 2] (by kernel_rfl) ?_ ?_
 rotate_left
 ·iterate 3 (refine yc (v := ?_) rfl rfl (by rfl) (fun w9 hSw => ?_) ?_; rotate_left; (focus go_simp; try rfl); simp only [Act.put, l1Q, l2Q, l3Q])
  exact rfl
 refine rd1 3 (by kernel_rfl) (by rfl) (fun K hK => ?_)
 go_simp
 go_at_call 70
 refine HSf.out.mono ?_
 rintro e w4 ⟨rfl, hw4⟩
 have hga := gAQ w3.drew (.cells #[.int .i64 (-1)] 3)
 have hgb := gAQ (w3.drew.alloc (.cells #[.int .i64 (-1)] 3)) (.cells #[.int .i64 0] 3)
 have kf0 : ((w3.drew.alloc (.cells #[.int .i64 (-1)] 3)).alloc (.cells #[.int .i64 0] 3)).heap[w3.heap.size + 1]? = some (.cells #[.int .i64 0] 3 (0, 0)) := by
  have := nHQ (w3.drew.alloc (.cells #[.int .i64 (-1)] 3)) (.cells #[.int .i64 0] 3)
  have e9 : (w3.drew.alloc (.cells #[.int .i64 (-1)] 3)).heap.size = w3.heap.size + 1 := by simp
  rw [e9] at this
  exact this
 have kb0 : ((w3.drew.alloc (.cells #[.int .i64 (-1)] 3)).alloc (.cells #[.int .i64 0] 3)).heap[w3.heap.size]? = some (.cells #[.int .i64 (-1)] 3 (0, 0)) := (hgb.block _ (by simp) (by nofun)).trans (nHQ w3.drew (.cells #[.int .i64 (-1)] 3))
 have hb4 : Below w3.heap.size w3 w4 := by rw [hw4]; exact ((Below.refl _ _).drew.alloc (nLQ _) _).alloc (by simp) _
 have hs4 : w4.heap.size = w3.heap.size + 2 := by rw [hw4]; simp
 rw [← hw4] at kf0 kb0
 have hS4 := hS3.below hb4
 obtain ⟨k0, k1, k2, k3, k4, k5⟩ := cnQ hS4.1
 have S4 : (fun w9 => w9.cell? ⟨w.heap.size, 0, none⟩ = some (.int .i64 op)/\w9.cell? ⟨w.heap.size, 1, none⟩ = some (.int .i64 n)/\w9.cell? ⟨w.heap.size, 2, none⟩ = some (.string s)/\w9.cell? ⟨w.heap.size, 3, none⟩ = some (.slice ka kn kc)/\w9.cell? ⟨w.heap.size, 4, none⟩ = some (.slice na ns.length nc)/\w9.cell? ⟨w.heap.size, 5, none⟩ = some (.slice a l.length c)/\w9.cell? ⟨w.heap.size + 1, 0, none⟩ = some (.int .i64 (-1))/\w9.cell? ⟨w.heap.size + 2, 0, none⟩ = some (.int .i64 0)) w4 := ⟨k0, k1, k2, k3, k4, k5, cell_any hS4.2.1, cell_any hS4.2.2.1⟩
 have hbw4 := hbw3.trans (hb4.mono hbw3.size)
 have hx4 := iBQ (iBQ HCW.out hb2) (hbl3.trans (hb4.mono hbl3.size))
 have HC := replaced_any P _ 110 #[.pointer (some ⟨w3.heap.size + 1, 0, none⟩), .pointer (some ⟨w3.heap.size, 0, none⟩)] (enters_of Tryz.func110 (by kernel_rfl) rfl) (leafS (-1) 0) w4 (HE.out.below (hb2.trans ((hbl3.trans (hb4.mono hbl3.size)).mono hb2.size))) hx4 HVV.out HBT.out (fun mb V hmb hgV => leafAt_shift _ V mb (w3.heap.size + 1) w3.heap.size (-1) 0 ((hgV.block _ (hLQ kf0) (by nofun)).trans kf0) ((hgV.block _ (hLQ kb0) (by nofun)).trans kb0) (by omega) (by omega) (by omega) (by omega))
 rw [HPW.out, HTE.out] at HC
 have HC := hJQ HC
 clear hw4 hga hgb hx4 kf0 kb0
 refine hK.out _ _ S4 (fun _ => ?_)
 clear hK K
 refine rd1 4 (by kernel_rfl) (by rfl) (fun K hK => ?_)
 go_simp
 go_at_call 66
 refine HC.out.mono ?_
 rintro e w5 ⟨dd, er, rfl, hdd, hb5, hyes, hno⟩
 obtain ⟨xop, xn, xs, xk, xns, xl, xka, xkn, xkc, xna, xnc, xla, xlc, rfl, hxk, _⟩ := cSQ hdd
 have hxv := cVQ (op := xop) (n := xn) (s := xs) (nv := .slice xna xns.length xnc) (lv := .slice xla xl.length xlc) (ns := xns) (l := xl) hxk
 rw [hxv]
 have hS5 := hS4.below hb5
 obtain ⟨j0, j1, j2, j3, j4, j5⟩ := cnQ hS5.1
 have S5 : (fun w9 => w9.cell? ⟨w.heap.size, 0, none⟩ = some (.int .i64 op)/\w9.cell? ⟨w.heap.size, 1, none⟩ = some (.int .i64 n)/\w9.cell? ⟨w.heap.size, 2, none⟩ = some (.string s)/\w9.cell? ⟨w.heap.size, 3, none⟩ = some (.slice ka kn kc)/\w9.cell? ⟨w.heap.size, 4, none⟩ = some (.slice na ns.length nc)/\w9.cell? ⟨w.heap.size, 5, none⟩ = some (.slice a l.length c)/\w9.cell? ⟨w.heap.size + 1, 0, none⟩ = some (.int .i64 (-1))/\w9.cell? ⟨w.heap.size + 2, 0, none⟩ = some (.int .i64 0)) w5 := ⟨j0, j1, j2, j3, j4, j5, cell_any hS5.2.1, cell_any hS5.2.2.1⟩
 have hs5 := hb5.size
 have kR5 := hS5.2.2.2
 have hrow := gRQ w5 (w.heap.size + 3) #[.int .i64 xop, .int .i64 xn, .string xs, .slice xka xkn xkc, .slice xna xns.length xnc, .slice xla xl.length xlc]
 have HRF := hJQ (setRow_heap w5 (w.heap.size + 3) _ #[.int .i64 xop, .int .i64 xn, .string xs, .slice xka xkn xkc, .slice xna xns.length xnc, .slice xla xl.length xlc] _ _ kR5)
 have gb6 := (hrow.block _ (hLQ hS5.1) (fun e => by have e2 : w.heap.size = w.heap.size + 3 := oJQ e; omega)).trans hS5.1
 have gb7 := (hrow.block _ (hLQ hS5.2.1) (fun e => by have e2 : w.heap.size + 1 = w.heap.size + 3 := oJQ e; omega)).trans hS5.2.1
 have gb8 := (hrow.block _ (hLQ hS5.2.2.1) (fun e => by have e2 : w.heap.size + 2 = w.heap.size + 3 := oJQ e; omega)).trans hS5.2.2.1
 obtain ⟨z0, z1, z2, z3, z4, z5⟩ := cnQ gb6
 have S6 : (fun w9 => w9.cell? ⟨w.heap.size, 0, none⟩ = some (.int .i64 op)/\w9.cell? ⟨w.heap.size, 1, none⟩ = some (.int .i64 n)/\w9.cell? ⟨w.heap.size, 2, none⟩ = some (.string s)/\w9.cell? ⟨w.heap.size, 3, none⟩ = some (.slice ka kn kc)/\w9.cell? ⟨w.heap.size, 4, none⟩ = some (.slice na ns.length nc)/\w9.cell? ⟨w.heap.size, 5, none⟩ = some (.slice a l.length c)/\w9.cell? ⟨w.heap.size + 1, 0, none⟩ = some (.int .i64 (-1))/\w9.cell? ⟨w.heap.size + 2, 0, none⟩ = some (.int .i64 0)) (w5.setRow (w.heap.size + 3) #[.int .i64 xop, .int .i64 xn, .string xs, .slice xka xkn xkc, .slice xna xns.length xnc, .slice xla xl.length xlc]) := ⟨z0, z1, z2, z3, z4, z5, cell_any gb7, cell_any gb8⟩
 have HBF := hJQ ((hbw4.trans (hb5.mono hbw4.size)).trans (gUQ (B := w.heap.size) hrow (by omega) (fun q hq => by have e2 : w.heap.size + 3 = q := oJQ hq; omega)))
 have HDF := hJQ ((hdd.grown hrow (fun q hq hp => by have e2 : w.heap.size + 3 = q := oJQ hq; have hp : w4.heap.size<=q := hp; omega)).mono (Q := fun b => w.heap.size<=b) (fun b hb _ => by have hb : w4.heap.size<=b := hb; show w.heap.size<=b; omega))
 have HXV := hJQ hxv
 have HY := hJQ hyes
 have HN := hJQ hno
 clear hdd hxv hyes hno HC hb5
 refine hK.out _ _ S5 (fun _ => ?_)
 clear hK K
 refine tks (b := ?_) (by kernel_rfl) (fun _ _ _ _ _ h => h) S5 2 [5, 6] (by kernel_rfl) ?_ ?_
 rotate_left
 ·iterate 2 (refine yc (v := ?_) rfl rfl (by rfl) (fun w9 hSw => ?_) ?_; rotate_left; (focus go_simp; try rfl); simp only [Act.put, l1Q, l2Q, l3Q])
  exact rfl
 refine held_store 7 (by kernel_rfl) (by rfl) (by rfl) (by rfl) 28 _ _ (by rfl) (w.heap.size + 3) #[.int .i64 xop, .int .i64 xn, .string xs, .slice xka xkn xkc, .slice xna xns.length xnc, .slice xla xl.length xlc] (by rfl) (by rfl) 28 _ kR5 cIQ rfl (all_one _ rfl) S6 ?_
 refine tks (b := ?_) (by kernel_rfl) (fun _ _ _ _ _ h => h) S6 1 [8] (by kernel_rfl) ?_ ?_
 rotate_left
 ·refine yc (v := ?_) rfl rfl (by rfl) (fun w9 hSw => ?_) ?_; rotate_left; (focus go_simp; try rfl); simp only [Act.put, l1Q, l2Q, l3Q]
  exact rfl
 refine wpAnyH_done (by kernel_rfl) ?_ _
 clear hrow gb6 gb7 gb8
 go_wp2_with fail
 refine bodyPost_ret (v := .tuple #[.agg #[.int .i64 xop, .int .i64 xn, .string xs, .slice xka xkn xkc, .slice xna xns.length xnc, .slice xla xl.length xlc], .int .i64 er]) ?_ rfl ⟨_, er, by rw [HXV.out], HDF.out, HBF.out, HY.out, HN.out⟩
 rw [results_cell_tmp (p := 6) (u := 7) (ty := 28) rfl]
 simp [asAddr, run_loadVar_row _ _ _ _ _ _ _ HRF.out Tryz.underlying28 rfl cIQ, Result.andThen]
end Go.Proofs.YtkiffgdinmpljaaGreatDoor
