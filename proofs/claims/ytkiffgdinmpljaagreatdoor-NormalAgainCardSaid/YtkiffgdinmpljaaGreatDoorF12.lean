/- The reference's node at every operation. Expanded by mac.py. The reference's size and count of a constructor (Small). Expanded by mac.py. -/
import Derived.Test.YtkiffgdinmpljaaGreatDoorF11
import Derived.Test.YtkiffgdinmpljaaGreatDoorF7
set_option linter.unusedVariables false
set_option linter.unusedSimpArgs false
namespace Go.Proofs.YtkiffgdinmpljaaGreatDoor
open Go Go.RowKit
set_option maxHeartbeats 8000000
set_option maxRecDepth 100000
theorem node_any (P : Nat->Prop) (x : ConD) (w : World) (h : IsCon P w x) (hs : x.s.size<=1000) (hns : ∀ y ∈ x.ns, y.size<=1000) (hnl : x.ns.length<=1000000) :
 Calls Tryz.prog 62 #[conV x] w (NodeOk x.op x.n x.s x.k x.ns x.l.length w) := by
 obtain ⟨op, n, s, k, nv, ns, lv, l⟩ := x
 by_cases hop : 1<=op/\op<=13
 ·obtain ⟨q1, q2⟩ := hop
  have hc : op = 1 ∨ op = 2 ∨ op = 3 ∨ op = 4 ∨ op = 5 ∨ op = 6 ∨ op = 7 ∨ op = 8 ∨ op = 9 ∨ op = 10 ∨ op = 11 ∨ op = 12 ∨ op = 13 := by omega
  rcases hc with rfl | rfl | rfl | rfl | rfl | rfl | rfl | rfl | rfl | rfl | rfl | rfl | rfl
  ·exact node_1 P n s k nv ns lv l w h hs hns hnl
  ·exact node_2 P n s k nv ns lv l w h hs hns hnl
  ·exact node_3 P n s k nv ns lv l w h hs hns hnl
  ·exact node_4 P n s k nv ns lv l w h hs hns hnl
  ·exact node_5 P n s k nv ns lv l w h hs hns hnl
  ·exact node_6 P n s k nv ns lv l w h hs hns hnl
  ·exact node_7 P n s k nv ns lv l w h hs hns hnl
  ·exact node_8 P n s k nv ns lv l w h hs hns hnl
  ·exact node_9 P n s k nv ns lv l w h hs hns hnl
  ·exact node_10 P n s k nv ns lv l w h hs hns hnl
  ·exact node_11 P n s k nv ns lv l w h hs hns hnl
  ·exact node_12 P n s k nv ns lv l w h hs hns hnl
  ·exact node_13 P n s k nv ns lv l w h hs hns hnl
 ·skip
  obtain ⟨ka, kc, kn, hks⟩ := iKQ h.parts.kind
  obtain ⟨na, nc, rfl, _⟩ := rSQ h.parts.names
  obtain ⟨a, c, rfl, _⟩ := rSQ h.parts.row
  rw [cVQ hks]
  have hll : l.length<=9223372036854775807 := by have h1 := h.parts.llen; have : maxLen = 9223372036854775807 := (by decide); omega
  have hnn : ns.length<=9223372036854775807 := by have h1 := h.parts.nlen; have : maxLen = 9223372036854775807 := (by decide); omega
  have hb0 : Below w.heap.size w (w.alloc (.cells #[.int .i64 op, .int .i64 n, .string s, .slice ka kn kc, .slice na ns.length nc, .slice a l.length c] 28)) := (Below.refl _ _).alloc (Nat.le_refl _) _
  have gC := nHQ w (.cells #[.int .i64 op, .int .i64 n, .string s, .slice ka kn kc, .slice na ns.length nc, .slice a l.length c] 28)
  have hsz0 : (w.alloc (.cells #[.int .i64 op, .int .i64 n, .string s, .slice ka kn kc, .slice na ns.length nc, .slice a l.length c] 28)).heap.size = w.heap.size + 1 := by simp
  obtain ⟨c0, c1, c2, c3, c4, c5⟩ := cnQ gC
  have HP := hJQ (iBQ h hb0).parts
  have HC0 := hJQ (iBQ h hb0)
  have h0 : nodeC cstB labsB op n s (pK k) ns l.length = false := Bool.eq_false_iff.2 (fun hh => by
   have a1 := (node_parts hh).1
   unfold partsC at a1
   rw [if_pos (show op < 1 ∨ 13 < op by omega)] at a1
   omega)
  have HE : Ending.returned (.bool false) = Ending.returned (.bool (nodeC cstB labsB op n s (pK k) ns l.length)) := by rw [h0]
  show Calls _ _ _ _ fun e w' => e = .returned (.bool (nodeC cstB labsB op n s (pK k) ns l.length))/\_
  have HE := hJQ HE
  clear h HP HC0 hks
  by_cases q1 : op < 1
  ·go_enter Tryz.func62, Tryz.ntmps62
   go_wp2_with fail
   go_ret
   exact ⟨HE.out, hb0⟩
  ·have q2 : 13 < op := by omega
   go_enter Tryz.func62, Tryz.ntmps62
   go_wp2_with fail
   go_ret
   exact ⟨HE.out, hb0⟩
theorem rsize_any (P : Nat->Prop) : ∀ (c : ConD) (w : World), IsCon P w c->sizeC (pC c)<=1000000000 →
 Calls Tryz.prog 72 #[conV c] w fun e w' => e = .returned (.int .i64 (sizeC (pC c)))/\Below w.heap.size w w' := by
 refine ConD.ind (fun op n s k nv ns lv l ih w h hsz => ?_)
 obtain ⟨ka, kc, kn, hks⟩ := iKQ h.parts.kind
 obtain ⟨na, nc, rfl, _⟩ := rSQ h.parts.names
 obtain ⟨a, c, rfl, _⟩ := rSQ h.parts.row
 rw [cVQ hks]
 have hll : l.length<=9223372036854775807 := by have h1 := h.parts.llen; have : maxLen = 9223372036854775807 := (by decide); omega
 have hnn : ns.length<=9223372036854775807 := by have h1 := h.parts.nlen; have : maxLen = 9223372036854775807 := (by decide); omega
 have hb0 : Below w.heap.size w (w.alloc (.cells #[.int .i64 op, .int .i64 n, .string s, .slice ka kn kc, .slice na ns.length nc, .slice a l.length c] 28)) := (Below.refl _ _).alloc (Nat.le_refl _) _
 have gC := nHQ w (.cells #[.int .i64 op, .int .i64 n, .string s, .slice ka kn kc, .slice na ns.length nc, .slice a l.length c] 28)
 have hsz0 : (w.alloc (.cells #[.int .i64 op, .int .i64 n, .string s, .slice ka kn kc, .slice na ns.length nc, .slice a l.length c] 28)).heap.size = w.heap.size + 1 := by simp
 obtain ⟨c0, c1, c2, c3, c4, c5⟩ := cnQ gC
 have HP := hJQ (iBQ h hb0).parts
 have HC0 := hJQ (iBQ h hb0)
 rw [pMQ] at hsz ⊢
 rw [sMQ] at hsz
 have HI := hJQ ih
 clear ih h hks HC0
 go_enter Tryz.func72, Tryz.ntmps72
 go_wp2_with fail
 have hlt : w.heap.size < (w.alloc (.cells #[.int .i64 op, .int .i64 n, .string s, .slice ka kn kc, .slice na ns.length nc, .slice a l.length c] 28)).heap.size := by omega
 generalize w.alloc (.cells #[.int .i64 op, .int .i64 n, .string s, .slice ka kn kc, .slice na ns.length nc, .slice a l.length c] 28) = W0 at *
 clear c0 c1 c2 c3 c4 c5
 go_loopw [3, 4] (fun m i wr => ∃ (j : Nat), j<=l.length/\i = .int .i64 j/\m = .int .i64 ((sizeCL ((l.map pC).take j) + 1 : Nat) : Int)/\Below W0.heap.size W0 wr) (fun _ i _ => l.length - (intOf i).toNat)
 case atStart => exact ⟨0, Nat.zero_le _, rfl, (by rw [List.take_zero, sizeCL_nil]; rfl), Below.refl _ _⟩
 case round =>
  rename World => V
  obtain ⟨j, hj, rfl, rfl, hbr⟩ := hrel
  have hbt := sizeCL_take (l.map pC) j
  have gV := (hbr.block _ hlt).trans gC
  obtain ⟨c0, c1, c2, c3, c4, c5⟩ := cnQ gV
  by_cases hjl : j < l.length
  ·have HV := hJQ (Kept.of_below (P := P) hbr)
   obtain ⟨b, off, yop, yn, ys, yk, yns, yl, yka, ykn, ykc, yna, ync, ya, yc, fd, hbl, hq, hy, hmem, hv, HT, e0, e1, e2, e3, e4, e5⟩ := part_at (HV.out.row HP.out.row) (fun y hy => HV.out.con (HP.out.all y hy)) j hjl
   subst fd
   have HT := hJQ HT
   have hbY : Below V.heap.size V (V.alloc (.cells #[.int .i64 yop, .int .i64 yn, .string ys, .slice yka ykn ykc, .slice yna yns.length ync, .slice ya yl.length yc] 28)) := (Below.refl _ _).alloc (Nat.le_refl _) _
   obtain ⟨f0, f1, f2, f3, f4, f5⟩ := cnQ (nHQ V (.cells #[.int .i64 yop, .int .i64 yn, .string ys, .slice yka ykn ykc, .slice yna yns.length ync, .slice ya yl.length yc] 28))
   have hbt2 := sizeCL_take (l.map pC) (j + 1)
   rw [HT.out, sizeCL_snoc] at hbt2
   have HC := hJQ (HI.out _ hmem _ hy (by omega))
   rw [hv] at HC
   clear hy hv hmem hq
   generalize pC (.mk yop yn ys yk (.slice yna yns.length ync) yns (.slice ya yl.length yc) yl) = y at *
   go_wp2_with fail
   refine HC.out.mono ?_
   rintro e w2 ⟨rfl, hb2⟩
   have hbr2 := hbr.trans (hb2.mono hbr.size)
   clear HC
   go_wp2_with fail
   go_roundw
   case rel => exact ⟨j + 1, by omega, by go_num, by rw [HT.out, sizeCL_snoc]; go_num, hbr2⟩
   case measure => simp [intOf]; omega
  ·obtain rfl : j = l.length := by omega
   have hbw := hb0.trans (hbr.mono hb0.size)
   rw [take_all] at hbt ⊢
   go_wp2_with fail
   go_ret
   exact ⟨by rw [sMQ]; rfl, hbw⟩
theorem dGQ (l : List Cn) (x : Cn) (h : x ∈ l) : dCQ x<=depthCL l := by
 induction l with
 | nil => cases h
 | cons y l ih =>
   rw [depthCL_cons]
   rcases List.mem_cons.1 h with rfl | h
   ·omega
   ·have := ih h; omega
def CountOk (c : Cn) (left d : Int) (w : World) (e : Ending) (w' : World) : Prop :=
 ∃ r : Int, e = .returned (.int .i64 r)/\Below w.heap.size w w'/\1<=r/\r<=left/\(r < left->r = sizeC c/\d + dCQ c<=401)/\(r = left->left<=sizeC c ∨ 401 < d + dCQ c)
theorem rcount_any (P : Nat->Prop) : ∀ (c : ConD) (w : World) (left d : Int), IsCon P w c->1<=left->left<=100000->0<=d->d<=1000 →
 Calls Tryz.prog 61 #[conV c, .int .i64 left, .int .i64 d] w (CountOk (pC c) left d w) := by
 refine ConD.ind (fun op n s k nv ns lv l ih w left d h hl0 hl1 hd0 hd1 => ?_)
 obtain ⟨ka, kc, kn, hks⟩ := iKQ h.parts.kind
 obtain ⟨na, nc, rfl, _⟩ := rSQ h.parts.names
 obtain ⟨a, c, rfl, _⟩ := rSQ h.parts.row
 rw [cVQ hks]
 have hll : l.length<=9223372036854775807 := by have h1 := h.parts.llen; have : maxLen = 9223372036854775807 := (by decide); omega
 have hnn : ns.length<=9223372036854775807 := by have h1 := h.parts.nlen; have : maxLen = 9223372036854775807 := (by decide); omega
 have hb0 : Below w.heap.size w (w.alloc (.cells #[.int .i64 op, .int .i64 n, .string s, .slice ka kn kc, .slice na ns.length nc, .slice a l.length c] 28)) := (Below.refl _ _).alloc (Nat.le_refl _) _
 have gC := nHQ w (.cells #[.int .i64 op, .int .i64 n, .string s, .slice ka kn kc, .slice na ns.length nc, .slice a l.length c] 28)
 have hsz0 : (w.alloc (.cells #[.int .i64 op, .int .i64 n, .string s, .slice ka kn kc, .slice na ns.length nc, .slice a l.length c] 28)).heap.size = w.heap.size + 1 := by simp
 obtain ⟨c0, c1, c2, c3, c4, c5⟩ := cnQ gC
 have HP := hJQ (iBQ h hb0).parts
 have HC0 := hJQ (iBQ h hb0)
 rw [pMQ]
 have HI := hJQ ih
 clear ih h hks HC0
 have hdp := depthC_pos (.mk op n s (pK k) ns (l.map pC))
 have hsp := sizeC_pos (.mk op n s (pK k) ns (l.map pC))
 by_cases q1 : 400 < d
 ·go_enter Tryz.func61, Tryz.ntmps61
  go_wp2_with fail
  go_ret
  exact ⟨left, rfl, hb0, by omega, by omega, by omega, fun _ => .inr (by omega)⟩
 have hlt : w.heap.size < (w.alloc (.cells #[.int .i64 op, .int .i64 n, .string s, .slice ka kn kc, .slice na ns.length nc, .slice a l.length c] 28)).heap.size := by omega
 go_enter Tryz.func61, Tryz.ntmps61
 go_wp2_with fail
 generalize w.alloc (.cells #[.int .i64 op, .int .i64 n, .string s, .slice ka kn kc, .slice na ns.length nc, .slice a l.length c] 28) = W0 at *
 clear c0 c1 c2 c3 c4 c5
 go_loopw [7, 8] (fun m i wr => ∃ (j : Nat) (r : Int), j<=l.length/\i = .int .i64 j/\m = .int .i64 r/\1<=r/\r<=left/\Hid ((r < left->r = sizeCL ((l.map pC).take j) + 1/\(j = 0 ∨ d + 1 + depthCL ((l.map pC).take j)<=401))/\(r = left->left<=sizeC (.mk op n s (pK k) ns (l.map pC)) ∨ 401 < d + dCQ (.mk op n s (pK k) ns (l.map pC))))/\Below W0.heap.size W0 wr) (fun _ i _ => l.length - (intOf i).toNat)
 case atStart => exact ⟨0, 1, Nat.zero_le _, rfl, rfl, by omega, by omega, ⟨fun _ => ⟨by rw [List.take_zero, sizeCL_nil]; rfl, .inl rfl⟩, fun h => .inl (by omega)⟩, Below.refl _ _⟩
 case round =>
  rename World => V
  obtain ⟨j, r, hj, rfl, rfl, hr1, hr2, HM, hbr⟩ := hrel
  have gV := (hbr.block _ hlt).trans gC
  obtain ⟨c0, c1, c2, c3, c4, c5⟩ := cnQ gV
  by_cases hjl : j < l.length
  ·by_cases hrl : r < left
   ·have HV := hJQ (Kept.of_below (P := P) hbr)
    obtain ⟨b, off, yop, yn, ys, yk, yns, yl, yka, ykn, ykc, yna, ync, ya, yc, fd, hbl, hq, hy, hmem, hv, HT, e0, e1, e2, e3, e4, e5⟩ := part_at (HV.out.row HP.out.row) (fun y hy => HV.out.con (HP.out.all y hy)) j hjl
    subst fd
    have HT := hJQ HT
    have hbY : Below V.heap.size V (V.alloc (.cells #[.int .i64 yop, .int .i64 yn, .string ys, .slice yka ykn ykc, .slice yna yns.length ync, .slice ya yl.length yc] 28)) := (Below.refl _ _).alloc (Nat.le_refl _) _
    obtain ⟨f0, f1, f2, f3, f4, f5⟩ := cnQ (nHQ V (.cells #[.int .i64 yop, .int .i64 yn, .string ys, .slice yka ykn ykc, .slice yna yns.length ync, .slice ya yl.length yc] 28))
    have HC := hJQ (HI.out _ hmem _ (left - r) (d + 1) hy (by omega) (by omega) (by omega) (by omega))
    rw [hv] at HC
    have hm' : pC (.mk yop yn ys yk (.slice yna yns.length ync) yns (.slice ya yl.length yc) yl) ∈ l.map pC := List.mem_map_of_mem hmem
    have HG : Hid (sizeCL ((l.map pC).take (j + 1))<=sizeCL (l.map pC)/\dCQ (pC (.mk yop yn ys yk (.slice yna yns.length ync) yns (.slice ya yl.length yc) yl))<=depthCL (l.map pC)) := ⟨sizeCL_take _ _, dGQ _ _ hm'⟩
    clear hy hv hmem hq hm'
    generalize pC (.mk yop yn ys yk (.slice yna yns.length ync) yns (.slice ya yl.length yc) yl) = y at *
    go_wp2_with fail
    refine HC.out.mono ?_
    rintro e w2 ⟨r2, rfl, hb2, t1, t2, t3, t4⟩
    have hbr2 := hbr.trans (hb2.mono hbr.size)
    have HM2 : Hid ((r + r2 < left->r + r2 = sizeCL ((l.map pC).take (j + 1)) + 1/\(j + 1 = 0 ∨ d + 1 + depthCL ((l.map pC).take (j + 1))<=401))/\(r + r2 = left->left<=sizeC (.mk op n s (pK k) ns (l.map pC)) ∨ 401 < d + dCQ (.mk op n s (pK k) ns (l.map pC)))) := by
     obtain ⟨m1, m2⟩ := HM.out
     obtain ⟨g1, g2⟩ := HG.out
     obtain ⟨m3, m4⟩ := m1 hrl
     rw [HT.out, sizeCL_snoc] at g1
     refine ⟨fun hlt => ?_, fun heq => ?_⟩
     ·obtain ⟨t5, t6⟩ := t3 (by omega)
      rw [HT.out, sizeCL_snoc, depthCL_snoc]
      refine ⟨by omega, .inr ?_⟩
      rcases m4 with rfl | m4
      ·rw [List.take_zero, depthCL_nil]; omega
      ·omega
     ·rw [sMQ, depthC_mk]
      rcases t4 (by omega) with t | t
      ·left; omega
      ·right; omega
    clear HC HM HG t3 t4
    go_wp2_with fail
    go_roundw
    case rel => exact ⟨j + 1, r + r2, by omega, by go_num, by go_num, by omega, by omega, HM2, hbr2⟩
    case measure => simp [intOf]; omega
   ·have hbw := hb0.trans (hbr.mono hb0.size)
    have HE := HM.out.2 (by omega)
    clear HM
    go_wp2_with fail
    go_ret
    exact ⟨r, rfl, hbw, by omega, by omega, by omega, fun _ => HE⟩
  ·obtain rfl : j = l.length := by omega
   have hbw := hb0.trans (hbr.mono hb0.size)
   have HE : Hid ((r < left->r = sizeC (.mk op n s (pK k) ns (l.map pC))/\d + dCQ (.mk op n s (pK k) ns (l.map pC))<=401)/\(r = left->left<=sizeC (.mk op n s (pK k) ns (l.map pC)) ∨ 401 < d + dCQ (.mk op n s (pK k) ns (l.map pC)))) := by
    obtain ⟨m1, m2⟩ := HM.out
    rw [take_all] at m1
    refine ⟨fun hlt => ?_, m2⟩
    obtain ⟨m3, m4⟩ := m1 hlt
    rw [sMQ, depthC_mk]
    refine ⟨by omega, ?_⟩
    rcases m4 with m4 | m4
    ·rw [List.length_eq_zero_iff.1 m4, List.map_nil, depthCL_nil]; omega
    ·omega
   clear HM
   go_wp2_with fail
   go_ret
   exact ⟨r, rfl, hbw, hr1, hr2, HE.out.1, HE.out.2⟩
theorem rsmall_any (P : Nat->Prop) (c : ConD) (w : World) (h : IsCon P w c) :
 Calls Tryz.prog 31 #[conV c] w fun e w' => e = .returned (.bool (smallC (pC c)))/\Below w.heap.size w w' := by
 obtain ⟨op, n, s, k, nv, ns, lv, l⟩ := c
 obtain ⟨ka, kc, kn, hks⟩ := iKQ h.parts.kind
 obtain ⟨na, nc, rfl, _⟩ := rSQ h.parts.names
 obtain ⟨a, c, rfl, _⟩ := rSQ h.parts.row
 rw [cVQ hks]
 have hll : l.length<=9223372036854775807 := by have h1 := h.parts.llen; have : maxLen = 9223372036854775807 := (by decide); omega
 have hnn : ns.length<=9223372036854775807 := by have h1 := h.parts.nlen; have : maxLen = 9223372036854775807 := (by decide); omega
 have hb0 : Below w.heap.size w (w.alloc (.cells #[.int .i64 op, .int .i64 n, .string s, .slice ka kn kc, .slice na ns.length nc, .slice a l.length c] 28)) := (Below.refl _ _).alloc (Nat.le_refl _) _
 have gC := nHQ w (.cells #[.int .i64 op, .int .i64 n, .string s, .slice ka kn kc, .slice na ns.length nc, .slice a l.length c] 28)
 have hsz0 : (w.alloc (.cells #[.int .i64 op, .int .i64 n, .string s, .slice ka kn kc, .slice na ns.length nc, .slice a l.length c] 28)).heap.size = w.heap.size + 1 := by simp
 obtain ⟨c0, c1, c2, c3, c4, c5⟩ := cnQ gC
 have HP := hJQ (iBQ h hb0).parts
 have HC0 := hJQ (iBQ h hb0)
 have HC := hJQ (rcount_any P _ _ 20001 1 HC0.out (by decide) (by decide) (by decide) (by decide))
 rw [cVQ hks] at HC
 clear h hks gC HP HC0 hsz0
 generalize pC (.mk op n s k (.slice na ns.length nc) ns (.slice a l.length c) l) = x at *
 go_enter Tryz.func31, Tryz.ntmps31
 go_wp2_with fail
 refine HC.out.mono ?_
 rintro e w2 ⟨r, rfl, hb2, t1, t2, t3, t4⟩
 have HE : Hid (decide (r<=20000) = smallC x) := by
  show _ = _
  unfold smallC
  by_cases hr : r<=20000
  ·obtain ⟨t5, t6⟩ := t3 (by omega)
   rw [decide_eq_true hr, decide_eq_true (show sizeC x<=20000 by omega), decide_eq_true (show dCQ x<=400 by omega)]; rfl
  ·rw [decide_eq_false hr]
   rcases t4 (by omega) with t | t
   ·rw [decide_eq_false (show ¬ sizeC x<=20000 by omega)]; rfl
   ·rw [decide_eq_false (show ¬ dCQ x<=400 by omega), Bool.and_false]
 have hbz := hb0.trans (hb2.mono hb0.size)
 clear HC t3 t4
 go_wp2_with fail
 go_ret
 exact ⟨by rw [← HE.out]; rfl, hbz⟩
end Go.Proofs.YtkiffgdinmpljaaGreatDoor
