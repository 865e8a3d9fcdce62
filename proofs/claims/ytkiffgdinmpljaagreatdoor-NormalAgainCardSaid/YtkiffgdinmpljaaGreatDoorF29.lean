/- Shift$1, each, Shift at -1, where the variable is not free. Expanded by mac.py. -/
import Derived.Test.YtkiffgdinmpljaaGreatDoorF28
set_option linter.unusedVariables false
set_option linter.unusedSimpArgs false
namespace Go.Proofs.YtkiffgdinmpljaaGreatDoor
open Go Go.RowKit
set_option maxHeartbeats 8000000
set_option maxRecDepth 100000
def ShAt (V : World) (fb bb lb : Nat) : Prop := V.heap[fb]? = some (.cells #[.int .i64 0] 3 (0, 0))/\V.heap[bb]? = some (.cells #[.int .i64 (-1)] 3 (0, 0))/\V.heap[lb]? = some (.cells #[.bool false] 4 (0, 0))
theorem ShAt.below {V V' : World} {fb bb lb : Nat} (h : ShAt V fb bb lb) (hb : Below V.heap.size V V') : ShAt V' fb bb lb :=
 ⟨(hb.block _ (hLQ h.1)).trans h.1, (hb.block _ (hLQ h.2.1)).trans h.2.1, (hb.block _ (hLQ h.2.2)).trans h.2.2⟩
theorem cell_any {w : World} {q : Nat} {x : Value} {t : TypeId} (h : w.heap[q]? = some (.cells #[x] t (0, 0))) : w.cell? ⟨q, 0, none⟩ = some x := by simp [World.cell?, h]
theorem shiftF_any (P : Nat->Prop) (x : ConD) (fb bb lb : Nat) (d : Int) (w : World) (h : IsCon P w x) (hS : ShAt w fb bb lb) (hok : x.op ≠ 1 ∨ x.n ≠ d) (hn : -1000000<=x.n) (hn1 : x.n<=1000000) (hd0 : 0<=d) (hd1 : d<=1000) :
 Calls Tryz.prog 123 (#[conV x, .int .i64 d] ++ #[.pointer (some ⟨fb, 0, none⟩), .pointer (some ⟨bb, 0, none⟩), .pointer (some ⟨lb, 0, none⟩)]) w fun e w' => e = .returned (.tuple #[])/\Below w.heap.size w w' := by
 obtain ⟨op, n, s, k, nv, ns, lv, l⟩ := x
 have hn : -1000000<=n := hn
 have hn1 : n<=1000000 := hn1
 have hok : op ≠ 1 ∨ n ≠ d := hok
 obtain ⟨ka, kc, kn, hks⟩ := iKQ h.parts.kind
 obtain ⟨na, nc, rfl, _⟩ := rSQ h.parts.names
 obtain ⟨a, c, rfl, _⟩ := rSQ h.parts.row
 rw [cVQ hks]
 have hll : l.length<=9223372036854775807 := by have h1 := h.parts.llen; have : maxLen = 9223372036854775807 := (by decide); omega
 have hnn : ns.length<=9223372036854775807 := by have h1 := h.parts.nlen; have : maxLen = 9223372036854775807 := (by decide); omega
 have hb0 : Below w.heap.size w (w.alloc (.cells #[.int .i64 op, .int .i64 n, .string s, .slice ka kn kc, .slice na ns.length nc, .slice a l.length c] 28)) := (Below.refl _ _).alloc (Nat.le_refl _) _
 have gC := nHQ w (.cells #[.int .i64 op, .int .i64 n, .string s, .slice ka kn kc, .slice na ns.length nc, .slice a l.length c] 28)
 have hsz0 : (w.alloc (.cells #[.int .i64 op, .int .i64 n, .string s, .slice ka kn kc, .slice na ns.length nc, .slice a l.length c] 28)).heap.size = w.heap.size + 1 := by simp
 obtain ⟨c0, c1, c2, c3, c4, c5⟩ := cnQ gC
 have HP := hJQ (iBQ h hb0).parts
 have HC0 := hJQ (iBQ h hb0)
 obtain ⟨s0, s1, s2⟩ := hS.below hb0
 have t0 := cell_any s0
 have t1 := cell_any s1
 have t2 := cell_any s2
 have hwr : IntKind.i64.wrap (n - d) = n - d := wrap_ok _ (by omega) (by omega)
 have hwr2 : IntKind.i64.wrap (n - d + -1) = n - d + -1 := wrap_ok _ (by omega) (by omega)
 clear h hks HP HC0 hS gC hn hn1 s0 s1 s2
 by_cases q1 : op = 1
 ·have q1' : (op == 1) = true := beq_iff_eq.2 q1
  have q2 : n ≠ d := by rcases hok with h | h; exact absurd q1 h; exact h
  by_cases q3 : 0<=n - d
  ·have q4 : ¬ n - d + -1 < 0 := by omega
   clear hok q1
   go_enter Tryz.func123, Tryz.ntmps123
   go_wp2_with fail
   go_end0
   exact ⟨rfl, hb0⟩
  ·clear hok q1
   go_enter Tryz.func123, Tryz.ntmps123
   go_wp2_with fail
   go_end0
   exact ⟨rfl, hb0⟩
 ·have q1' : (op == 1) = false := beq_eq_false_iff_ne.2 q1
  clear hok q1
  go_enter Tryz.func123, Tryz.ntmps123
  go_wp2_with fail
  go_end0
  exact ⟨rfl, hb0⟩
def EachAll (x : ConD) : Prop := ∀ (P : Nat->Prop) (fb bb lb : Nat) (d : Int) (w : World), IsCon P w x->ShAt w fb bb lb->frmC (pC x) = true->occC d (pC x) = false->0<=d->d + dCQ (pC x)<=1000 →
 Calls Tryz.prog 122 #[conV x, .int .i64 d, .func (.func 123) #[] #[.pointer (some ⟨fb, 0, none⟩), .pointer (some ⟨bb, 0, none⟩), .pointer (some ⟨lb, 0, none⟩)]] w fun e w' => e = .returned (.tuple #[])/\Below w.heap.size w w'
theorem each_any : ∀ x : ConD, EachAll x := by
 refine ConD.ind (fun op n s k nv ns lv l ih P fb bb lb d w h hS hf ho hd0 hd1 => ?_)
 rw [pMQ] at hf ho hd1
 rw [depthC_mk] at hd1
 rw [occC_mk] at ho
 have hz := fSQ hf
 obtain ⟨ka, kc, kn, hks⟩ := iKQ h.parts.kind
 obtain ⟨na, nc, rfl, _⟩ := rSQ h.parts.names
 obtain ⟨a, c, rfl, _⟩ := rSQ h.parts.row
 rw [cVQ hks]
 have hll : l.length<=9223372036854775807 := by have h1 := h.parts.llen; have : maxLen = 9223372036854775807 := (by decide); omega
 have hnn : ns.length<=9223372036854775807 := by have h1 := h.parts.nlen; have : maxLen = 9223372036854775807 := (by decide); omega
 have hb0 : Below w.heap.size w (w.alloc (.cells #[.int .i64 op, .int .i64 n, .string s, .slice ka kn kc, .slice na ns.length nc, .slice a l.length c] 28)) := (Below.refl _ _).alloc (Nat.le_refl _) _
 have gC := nHQ w (.cells #[.int .i64 op, .int .i64 n, .string s, .slice ka kn kc, .slice na ns.length nc, .slice a l.length c] 28)
 have hsz0 : (w.alloc (.cells #[.int .i64 op, .int .i64 n, .string s, .slice ka kn kc, .slice na ns.length nc, .slice a l.length c] 28)).heap.size = w.heap.size + 1 := by simp
 obtain ⟨c0, c1, c2, c3, c4, c5⟩ := cnQ gC
 have HP := hJQ (iBQ h hb0).parts
 have HC0 := hJQ (iBQ h hb0)
 have hPW := cVQ (op := op) (n := n) (s := s) (nv := .slice na ns.length nc) (lv := .slice a l.length c) (ns := ns) (l := l) hks
 have hlt : w.heap.size < (w.alloc (.cells #[.int .i64 op, .int .i64 n, .string s, .slice ka kn kc, .slice na ns.length nc, .slice a l.length c] 28)).heap.size := by omega
 have HS := hJQ (hS.below hb0)
 have HI := hJQ ih
 have HZ := hJQ hz.2.2.2.1
 by_cases hop : op = 1 ∨ op = 2
 ·have hl0 := (frm_leaf hf hop).2
  have hl0' : l = [] := List.map_eq_nil_iff.1 hl0
  have hn : -1000000<=n/\n<=1000000 := by
   rcases hop with ho | ho
   ·have := hz.2.2.1 (.inl ho); omega
   ·obtain ⟨h1, _⟩ := (formC_iff cstB labsB ..).1 hf
    have a2 := (node_parts h1).2.1
    rw [if_neg (by omega)] at a2
    have : n = 0 := beq_iff_eq.1 a2
    omega
  have hok : op ≠ 1 ∨ n ≠ d := by
   by_cases h1 : op = 1
   ·rw [if_pos h1] at ho
    exact .inr (by simpa using ho)
   ·exact .inl h1
  have HF := shiftF_any P _ fb bb lb d _ HC0.out (hS.below hb0) hok hn.1 hn.2 hd0 (by omega)
  rw [hPW] at HF
  have HF : Hid (Calls Tryz.prog 123 #[(.agg #[.int .i64 op, .int .i64 n, .string s, .slice ka kn kc, .slice na ns.length nc, .slice a l.length c]), .int .i64 d, .pointer (some ⟨fb, 0, none⟩), .pointer (some ⟨bb, 0, none⟩), .pointer (some ⟨lb, 0, none⟩)] (w.alloc (.cells #[.int .i64 op, .int .i64 n, .string s, .slice ka kn kc, .slice na ns.length nc, .slice a l.length c] 28)) fun e w' => e = .returned (.tuple #[])/\Below (w.alloc (.cells #[.int .i64 op, .int .i64 n, .string s, .slice ka kn kc, .slice na ns.length nc, .slice a l.length c] 28)).heap.size (w.alloc (.cells #[.int .i64 op, .int .i64 n, .string s, .slice ka kn kc, .slice na ns.length nc, .slice a l.length c] 28)) w') := by
   have e9 : (#[(.agg #[.int .i64 op, .int .i64 n, .string s, .slice ka kn kc, .slice na ns.length nc, .slice a l.length c]), .int .i64 d] ++ #[.pointer (some ⟨fb, 0, none⟩), .pointer (some ⟨bb, 0, none⟩), .pointer (some ⟨lb, 0, none⟩)] : Array Value) = #[(.agg #[.int .i64 op, .int .i64 n, .string s, .slice ka kn kc, .slice na ns.length nc, .slice a l.length c]), .int .i64 d, .pointer (some ⟨fb, 0, none⟩), .pointer (some ⟨bb, 0, none⟩), .pointer (some ⟨lb, 0, none⟩)] := by simp
   rw [e9] at HF
   exact HF
  have HBi : Hid (∀ W, Below w.heap.size w W->Calls Tryz.prog 88 #[(.agg #[.int .i64 op, .int .i64 n, .string s, .slice ka kn kc, .slice na ns.length nc, .slice a l.length c])] W fun e w' => e = .returned (.bool false)/\Below W.heap.size W w') := fun W hW => by
   have := binder_any P _ W (iBQ h hW)
   rw [hPW, show (ConD.mk op n s k (.slice na ns.length nc) ns (.slice a l.length c) l).op = op from rfl, show binderB op = false by rcases hop with rfl | rfl <;> rfl] at this
   exact this
  have hopb : (op == 1) = true ∨ ((op == 1) = false/\(op == 2) = true) := by
   rcases hop with rfl | rfl
   ·exact .inl rfl
   ·exact .inr ⟨rfl, rfl⟩
  have HL0 : Hid (l.length = 0) := by show _ = _; rw [hl0']; rfl
  clear h hks HP HC0 hS hf ho hz hn hok hop hl0 hl0' hPW ih
  rcases hopb with q1 | ⟨q1, q2⟩
  all_goals
   go_enter Tryz.func122, Tryz.ntmps122
   go_wp2_with fail
   refine HF.out.mono ?_
   rintro e w2 ⟨rfl, hb2⟩
   have g2 := (hb2.block _ hlt).trans gC
   obtain ⟨d0, d1, d2, d3, d4, d5⟩ := cnQ g2
   have hbw2 := hb0.trans (hb2.mono hb0.size)
   go_wp2_with fail
   refine (HBi.out _ hbw2).mono ?_
   rintro e w3 ⟨rfl, hb3⟩
   have g3 := (hb3.block _ (hLQ g2)).trans g2
   obtain ⟨e0, e1, e2, e3, e4, e5⟩ := cnQ g3
   have hbw3 := hbw2.trans (hb3.mono hbw2.size)
   clear HF HBi hb3 hb2 g2 d0 d1 d2 d3 d4 d5 c0 c1 c2 c3 c4 c5 gC
   go_wp2_with fail
   go_loopw [27] (fun i wr => ∃ j : Nat, j<=l.length/\i = .int .i64 j/\Below w.heap.size w wr) (fun i _ => l.length - (intOf i).toNat)
   case atStart => exact ⟨0, Nat.zero_le _, rfl, hbw3⟩
   case round =>
    obtain ⟨j, hj, rfl, hbr⟩ := hrel
    obtain rfl : j = l.length := by have := HL0.out; omega
    go_wp2_with fail
    go_end0
    exact ⟨rfl, hbr⟩
 ·have n1 : (op == 1) = false := beq_eq_false_iff_ne.2 (fun e => hop (.inl e))
  have n2 : (op == 2) = false := beq_eq_false_iff_ne.2 (fun e => hop (.inr e))
  rw [if_neg (fun e => hop (.inl e))] at ho
  obtain ⟨bb2, hbb⟩ : ∃ b, binderB op = b := ⟨_, rfl⟩
  have HBi : Hid (∀ W, Below w.heap.size w W->Calls Tryz.prog 88 #[(.agg #[.int .i64 op, .int .i64 n, .string s, .slice ka kn kc, .slice na ns.length nc, .slice a l.length c])] W fun e w' => e = .returned (.bool bb2)/\Below W.heap.size W w') := fun W hW => by
   have := binder_any P _ W (iBQ h hW)
   rw [hPW, show (ConD.mk op n s k (.slice na ns.length nc) ns (.slice a l.length c) l).op = op from rfl, hbb] at this
   exact this
  rw [hbb] at ho
  have hwd : IntKind.i64.wrap (d + 1) = d + 1 := wrap_ok _ (by omega) (by omega)
  have HO := hJQ ho
  clear h hks HC0 hS hf ho hz hop hPW ih hbb
  go_enter Tryz.func122, Tryz.ntmps122
  go_wp2_with fail
  refine (HBi.out _ hb0).mono ?_
  rintro e w3 ⟨rfl, hb3⟩
  have g3 := (hb3.block _ hlt).trans gC
  obtain ⟨k0, k1, k2, k3, k4, k5⟩ := cnQ g3
  have hbw3 := hb0.trans (hb3.mono hb0.size)
  generalize w.alloc (.cells #[.int .i64 op, .int .i64 n, .string s, .slice ka kn kc, .slice na ns.length nc, .slice a l.length c] 28) = W0 at *
  have HS3 := hJQ (HS.out.below hb3)
  have HP3 : Hid (∀ V, Below w3.heap.size w3 V->RowP P V (.slice a l.length c) l.length (cCQ l)/\∀ y ∈ l, IsCon P V y) := fun V hV => by
   have hk := (Kept.of_below (P := P) hb3).trans (Kept.of_below hV)
   exact ⟨hk.row HP.out.row, fun y hy => hk.con (HP.out.all y hy)⟩
  clear HBi hb3 HP HS c0 c1 c2 c3 c4 c5 gC hb0 hlt
  cases bb2
  ·have HO2 : Hid ((l.map pC).any (occC d) = false) := HO.out
   go_wp2_with fail
   go_loopw [27] (fun i wr => ∃ j : Nat, j<=l.length/\i = .int .i64 j/\Below w3.heap.size w3 wr) (fun i _ => l.length - (intOf i).toNat)
   case atStart => exact ⟨0, Nat.zero_le _, rfl, Below.refl _ _⟩
   case round =>
    rename World => V
    obtain ⟨j, hj, rfl, hbr⟩ := hrel
    by_cases hjl : j < l.length
    ·obtain ⟨b, off, yop, yn, ys, yk, yns, yl, yka, ykn, ykc, yna, ync, ya, yc, fd, hbl, hq, hy, hmem, hv, HT, e0, e1, e2, e3, e4, e5⟩ := part_at (HP3.out V hbr).1 (HP3.out V hbr).2 j hjl
     subst fd
     have hbY : Below V.heap.size V (V.alloc (.cells #[.int .i64 yop, .int .i64 yn, .string ys, .slice yka ykn ykc, .slice yna yns.length ync, .slice ya yl.length yc] 28)) := (Below.refl _ _).alloc (Nat.le_refl _) _
     obtain ⟨f0, f1, f2, f3, f4, f5⟩ := cnQ (nHQ V (.cells #[.int .i64 yop, .int .i64 yn, .string ys, .slice yka ykn ykc, .slice yna yns.length ync, .slice ya yl.length yc] 28))
     have hm' : pC (.mk yop yn ys yk (.slice yna yns.length ync) yns (.slice ya yl.length yc) yl) ∈ l.map pC := List.mem_map_of_mem hmem
     have HC := HI.out _ hmem P fb bb lb d _ (iBQ hy hbY) ((HS3.out.below hbr).below hbY) (HZ.out _ hm') (Bool.eq_false_iff.2 (fun hh => by have h2 := HO2.out; rw [List.any_eq_false] at h2; exact h2 _ hm' hh)) (by omega) (by have := dGQ _ _ hm'; omega)
     rw [hv] at HC
     have HC := hJQ HC
     have hbb := hbr.trans (hbY.mono hbr.size)
     clear hy hv hmem hq HT hm'
     go_wp2_with fail
     refine HC.out.mono ?_
     rintro e w5 ⟨rfl, hb5⟩
     have hbr2 := hbb.trans (hb5.mono hbb.size)
     clear HC
     go_wp2_with fail
     go_roundw
     case rel => exact ⟨j + 1, by omega, by go_num, hbr2⟩
     case measure => simp [intOf]; omega
    ·obtain rfl : j = l.length := by omega
     have hbz := hbw3.trans (hbr.mono hbw3.size)
     go_wp2_with fail
     go_end0
     exact ⟨rfl, hbz⟩
  ·have HO2 : Hid ((l.map pC).any (occC (d + 1)) = false) := HO.out
   go_wp2_with fail
   go_loopw [27] (fun i wr => ∃ j : Nat, j<=l.length/\i = .int .i64 j/\Below w3.heap.size w3 wr) (fun i _ => l.length - (intOf i).toNat)
   case atStart => exact ⟨0, Nat.zero_le _, rfl, Below.refl _ _⟩
   case round =>
    rename World => V
    obtain ⟨j, hj, rfl, hbr⟩ := hrel
    by_cases hjl : j < l.length
    ·obtain ⟨b, off, yop, yn, ys, yk, yns, yl, yka, ykn, ykc, yna, ync, ya, yc, fd, hbl, hq, hy, hmem, hv, HT, e0, e1, e2, e3, e4, e5⟩ := part_at (HP3.out V hbr).1 (HP3.out V hbr).2 j hjl
     subst fd
     have hbY : Below V.heap.size V (V.alloc (.cells #[.int .i64 yop, .int .i64 yn, .string ys, .slice yka ykn ykc, .slice yna yns.length ync, .slice ya yl.length yc] 28)) := (Below.refl _ _).alloc (Nat.le_refl _) _
     obtain ⟨f0, f1, f2, f3, f4, f5⟩ := cnQ (nHQ V (.cells #[.int .i64 yop, .int .i64 yn, .string ys, .slice yka ykn ykc, .slice yna yns.length ync, .slice ya yl.length yc] 28))
     have hm' : pC (.mk yop yn ys yk (.slice yna yns.length ync) yns (.slice ya yl.length yc) yl) ∈ l.map pC := List.mem_map_of_mem hmem
     have HC := HI.out _ hmem P fb bb lb (d + 1) _ (iBQ hy hbY) ((HS3.out.below hbr).below hbY) (HZ.out _ hm') (Bool.eq_false_iff.2 (fun hh => by have h2 := HO2.out; rw [List.any_eq_false] at h2; exact h2 _ hm' hh)) (by omega) (by have := dGQ _ _ hm'; omega)
     rw [hv] at HC
     have HC := hJQ HC
     have hbb := hbr.trans (hbY.mono hbr.size)
     clear hy hv hmem hq HT hm'
     go_wp2_with fail
     refine HC.out.mono ?_
     rintro e w5 ⟨rfl, hb5⟩
     have hbr2 := hbb.trans (hb5.mono hbb.size)
     clear HC
     go_wp2_with fail
     go_roundw
     case rel => exact ⟨j + 1, by omega, by go_num, hbr2⟩
     case measure => simp [intOf]; omega
    ·obtain rfl : j = l.length := by omega
     have hbz := hbw3.trans (hbr.mono hbw3.size)
     go_wp2_with fail
     go_end0
     exact ⟨rfl, hbz⟩
end Go.Proofs.YtkiffgdinmpljaaGreatDoor
