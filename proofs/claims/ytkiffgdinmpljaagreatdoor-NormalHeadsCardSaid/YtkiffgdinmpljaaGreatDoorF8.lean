/- The reference's size and count of a constructor (Small). Expanded by mac.py. The reference's all and Valid. Expanded by mac.py. tycon.formed, op by op. Printed by gen_formed.py, expanded by mac.py. -/
import Derived.Test.YtkiffgdinmpljaaGreatDoorF4
import Derived.Test.YtkiffgdinmpljaaGreatDoorF7
import Derived.Deep.RegionLawGrows
import Derived.Deep.RegionHeld3
set_option linter.unusedVariables false
set_option linter.unusedSimpArgs false
namespace Go.Proofs.YtkiffgdinmpljaaGreatDoor
open Go Go.RowKit
set_option maxHeartbeats 8000000
set_option maxRecDepth 100000
theorem rsize_any (P : Nat->Prop) : ∀ (c : ConD) (w : World), IsCon P w c->sizeC (pC c)<=1000000000 →
 Calls Tryz.prog 72 #[conV c] w fun e w' => e = .returned (.int .i64 (sizeC (pC c)))/\Below w.heap.size w w' := by
 refine ConD.ind (fun op n s k nv ns lv l ih w h hsz => ?_)
 obtain ⟨ka, kc, kn, na, nc, a, c, rfl, _, rfl, _, hks, hcv, hll, hnn, hb0, gC, hsz0, HP, HC0, c0, c1, c2, c3, c4, c5⟩ := open_box h
 rw [hcv]
 clear hcv
 rw [pMQ] at hsz ⊢
 rw [sMQ] at hsz
 have HI := hJQ ih
 clear ih h hks HC0
 go_enter Tryz.func72, Tryz.ntmps72
 go_wp2_with fail
 have hlt : w.heap.size < (w.alloc (.cells #[.int .i64 op, .int .i64 n, .string s, .slice ka kn kc, .slice na ns.length nc, .slice a l.length c] 28)).heap.size := by omega
 generalize w.alloc (.cells #[.int .i64 op, .int .i64 n, .string s, .slice ka kn kc, .slice na ns.length nc, .slice a l.length c] 28) = W0 at *
 clear c0 c1 c2 c3 c4 c5
 go_loopw [3, 4] (fun m i wr => ∃ (j : Nat), j<=l.length/\i = .int .i64 j/\m = .int .i64 ((sizeCL ((l.map pC).take j) + 1 : Nat) : Int)/\Below W0.heap.size W0 wr) (fun _ i _ => l.length - (intOf i).toNat)
 case atStart => exact ⟨0, Nat.zero_le _, rfl, (by rw [List.take_zero, sizeCL_nil]; rfl), Below.refl _ _⟩
 case round =>
  rename World => V
  obtain ⟨j, hj, rfl, rfl, hbr⟩ := hrel
  have hbt := sizeCL_take (l.map pC) j
  have gV := (hbr.block _ hlt).trans gC
  obtain ⟨c0, c1, c2, c3, c4, c5⟩ := cnQ gV
  by_cases hjl : j < l.length
  ·have HV := hJQ (Kept.of_below (P := P) hbr)
   obtain ⟨b, off, yop, yn, ys, yk, yns, yl, yka, ykn, ykc, yna, ync, ya, yc, fd, hbl, hq, hy, hmem, hv, HT, e0, e1, e2, e3, e4, e5⟩ := part_at (HV.out.row HP.out.row) (fun y hy => HV.out.con (HP.out.all y hy)) j hjl
   subst fd
   have HT := hJQ HT
   have hbY : Below V.heap.size V (V.alloc (.cells #[.int .i64 yop, .int .i64 yn, .string ys, .slice yka ykn ykc, .slice yna yns.length ync, .slice ya yl.length yc] 28)) := (Below.refl _ _).alloc (nLQ _) _
   obtain ⟨f0, f1, f2, f3, f4, f5⟩ := cnQ (nHQ V (.cells #[.int .i64 yop, .int .i64 yn, .string ys, .slice yka ykn ykc, .slice yna yns.length ync, .slice ya yl.length yc] 28))
   have hbt2 := sizeCL_take (l.map pC) (j + 1)
   rw [HT.out, sizeCL_snoc] at hbt2
   have HC := hJQ (HI.out _ hmem _ hy (by omega))
   rw [hv] at HC
   clear hy hv hmem hq
   generalize pC (.mk yop yn ys yk (.slice yna yns.length ync) yns (.slice ya yl.length yc) yl) = y at *
   go_wp2_with fail
   refine HC.out.mono ?_
   rintro e w2 ⟨rfl, hb2⟩
   have hbr2 := hbr.trans (hb2.mono hbr.size)
   clear HC
   go_wp2_with fail
   go_roundw
   case rel => exact ⟨j + 1, by omega, by go_num, by rw [HT.out, sizeCL_snoc]; go_num, hbr2⟩
   case measure => simp [intOf]; omega
  ·obtain rfl : j = l.length := by omega
   have hbw := hb0.trans (hbr.mono hb0.size)
   rw [take_all] at hbt ⊢
   go_wp2_with fail
   go_ret
   exact ⟨by rw [sMQ]; rfl, hbw⟩
theorem dGQ (l : List Cn) (x : Cn) (h : x ∈ l) : dCQ x<=depthCL l := by
 induction l with
 | nil => cases h
 | cons y l ih =>
   rw [depthCL_cons]
   rcases List.mem_cons.1 h with rfl | h
   ·omega
   ·have := ih h; omega
def CountOk (c : Cn) (left d : Int) (w : World) (e : Ending) (w' : World) : Prop :=
 ∃ r : Int, e = .returned (.int .i64 r)/\Below w.heap.size w w'/\1<=r/\r<=left/\(r < left->r = sizeC c/\d + dCQ c<=401)/\(r = left->left<=sizeC c ∨ 401 < d + dCQ c)
theorem rcount_any (P : Nat->Prop) : ∀ (c : ConD) (w : World) (left d : Int), IsCon P w c->1<=left->left<=100000->0<=d->d<=1000 →
 Calls Tryz.prog 61 #[conV c, .int .i64 left, .int .i64 d] w (CountOk (pC c) left d w) := by
 refine ConD.ind (fun op n s k nv ns lv l ih w left d h hl0 hl1 hd0 hd1 => ?_)
 obtain ⟨ka, kc, kn, na, nc, a, c, rfl, _, rfl, _, hks, hcv, hll, hnn, hb0, gC, hsz0, HP, HC0, c0, c1, c2, c3, c4, c5⟩ := open_box h
 rw [hcv]
 clear hcv
 rw [pMQ]
 have HI := hJQ ih
 clear ih h hks HC0
 have hdp := depthC_pos (.mk op n s (pK k) ns (l.map pC))
 have hsp := sizeC_pos (.mk op n s (pK k) ns (l.map pC))
 by_cases q1 : 400 < d
 ·go_enter Tryz.func61, Tryz.ntmps61
  go_wp2_with fail
  go_ret
  exact ⟨left, rfl, hb0, by omega, by omega, by omega, fun _ => .inr (by omega)⟩
 have hlt : w.heap.size < (w.alloc (.cells #[.int .i64 op, .int .i64 n, .string s, .slice ka kn kc, .slice na ns.length nc, .slice a l.length c] 28)).heap.size := by omega
 go_enter Tryz.func61, Tryz.ntmps61
 go_wp2_with fail
 generalize w.alloc (.cells #[.int .i64 op, .int .i64 n, .string s, .slice ka kn kc, .slice na ns.length nc, .slice a l.length c] 28) = W0 at *
 clear c0 c1 c2 c3 c4 c5
 go_loopw [7, 8] (fun m i wr => ∃ (j : Nat) (r : Int), j<=l.length/\i = .int .i64 j/\m = .int .i64 r/\1<=r/\r<=left/\Hid ((r < left->r = sizeCL ((l.map pC).take j) + 1/\(j = 0 ∨ d + 1 + depthCL ((l.map pC).take j)<=401))/\(r = left->left<=sizeC (.mk op n s (pK k) ns (l.map pC)) ∨ 401 < d + dCQ (.mk op n s (pK k) ns (l.map pC))))/\Below W0.heap.size W0 wr) (fun _ i _ => l.length - (intOf i).toNat)
 case atStart => exact ⟨0, 1, Nat.zero_le _, rfl, rfl, by omega, by omega, ⟨fun _ => ⟨by rw [List.take_zero, sizeCL_nil]; rfl, .inl rfl⟩, fun h => .inl (by omega)⟩, Below.refl _ _⟩
 case round =>
  rename World => V
  obtain ⟨j, r, hj, rfl, rfl, hr1, hr2, HM, hbr⟩ := hrel
  have gV := (hbr.block _ hlt).trans gC
  obtain ⟨c0, c1, c2, c3, c4, c5⟩ := cnQ gV
  by_cases hjl : j < l.length
  ·by_cases hrl : r < left
   ·have HV := hJQ (Kept.of_below (P := P) hbr)
    obtain ⟨b, off, yop, yn, ys, yk, yns, yl, yka, ykn, ykc, yna, ync, ya, yc, fd, hbl, hq, hy, hmem, hv, HT, e0, e1, e2, e3, e4, e5⟩ := part_at (HV.out.row HP.out.row) (fun y hy => HV.out.con (HP.out.all y hy)) j hjl
    subst fd
    have HT := hJQ HT
    have hbY : Below V.heap.size V (V.alloc (.cells #[.int .i64 yop, .int .i64 yn, .string ys, .slice yka ykn ykc, .slice yna yns.length ync, .slice ya yl.length yc] 28)) := (Below.refl _ _).alloc (nLQ _) _
    obtain ⟨f0, f1, f2, f3, f4, f5⟩ := cnQ (nHQ V (.cells #[.int .i64 yop, .int .i64 yn, .string ys, .slice yka ykn ykc, .slice yna yns.length ync, .slice ya yl.length yc] 28))
    have HC := hJQ (HI.out _ hmem _ (left - r) (d + 1) hy (by omega) (by omega) (by omega) (by omega))
    rw [hv] at HC
    have hm' : pC (.mk yop yn ys yk (.slice yna yns.length ync) yns (.slice ya yl.length yc) yl) ∈ l.map pC := List.mem_map_of_mem hmem
    have HG : Hid (sizeCL ((l.map pC).take (j + 1))<=sizeCL (l.map pC)/\dCQ (pC (.mk yop yn ys yk (.slice yna yns.length ync) yns (.slice ya yl.length yc) yl))<=depthCL (l.map pC)) := ⟨sizeCL_take _ _, dGQ _ _ hm'⟩
    clear hy hv hmem hq hm'
    generalize pC (.mk yop yn ys yk (.slice yna yns.length ync) yns (.slice ya yl.length yc) yl) = y at *
    go_wp2_with fail
    refine HC.out.mono ?_
    rintro e w2 ⟨r2, rfl, hb2, t1, t2, t3, t4⟩
    have hbr2 := hbr.trans (hb2.mono hbr.size)
    have HM2 : Hid ((r + r2 < left->r + r2 = sizeCL ((l.map pC).take (j + 1)) + 1/\(j + 1 = 0 ∨ d + 1 + depthCL ((l.map pC).take (j + 1))<=401))/\(r + r2 = left->left<=sizeC (.mk op n s (pK k) ns (l.map pC)) ∨ 401 < d + dCQ (.mk op n s (pK k) ns (l.map pC)))) := by
     obtain ⟨m1, m2⟩ := HM.out
     obtain ⟨g1, g2⟩ := HG.out
     obtain ⟨m3, m4⟩ := m1 hrl
     rw [HT.out, sizeCL_snoc] at g1
     refine ⟨fun hlt => ?_, fun heq => ?_⟩
     ·obtain ⟨t5, t6⟩ := t3 (by omega)
      rw [HT.out, sizeCL_snoc, depthCL_snoc]
      refine ⟨by omega, .inr ?_⟩
      rcases m4 with rfl | m4
      ·rw [List.take_zero, depthCL_nil]; omega
      ·omega
     ·rw [sMQ, depthC_mk]
      rcases t4 (by omega) with t | t
      ·left; omega
      ·right; omega
    clear HC HM HG t3 t4
    go_wp2_with fail
    go_roundw
    case rel => exact ⟨j + 1, r + r2, by omega, by go_num, by go_num, by omega, by omega, HM2, hbr2⟩
    case measure => simp [intOf]; omega
   ·have hbw := hb0.trans (hbr.mono hb0.size)
    have HE := HM.out.2 (by omega)
    clear HM
    go_wp2_with fail
    go_ret
    exact ⟨r, rfl, hbw, by omega, by omega, by omega, fun _ => HE⟩
  ·obtain rfl : j = l.length := by omega
   have hbw := hb0.trans (hbr.mono hb0.size)
   have HE : Hid ((r < left->r = sizeC (.mk op n s (pK k) ns (l.map pC))/\d + dCQ (.mk op n s (pK k) ns (l.map pC))<=401)/\(r = left->left<=sizeC (.mk op n s (pK k) ns (l.map pC)) ∨ 401 < d + dCQ (.mk op n s (pK k) ns (l.map pC)))) := by
    obtain ⟨m1, m2⟩ := HM.out
    rw [take_all] at m1
    refine ⟨fun hlt => ?_, m2⟩
    obtain ⟨m3, m4⟩ := m1 hlt
    rw [sMQ, depthC_mk]
    refine ⟨by omega, ?_⟩
    rcases m4 with m4 | m4
    ·rw [List.length_eq_zero_iff.1 m4, List.map_nil, depthCL_nil]; omega
    ·omega
   clear HM
   go_wp2_with fail
   go_ret
   exact ⟨r, rfl, hbw, hr1, hr2, HE.out.1, HE.out.2⟩
theorem rsmall_any (P : Nat->Prop) (c : ConD) (w : World) (h : IsCon P w c) :
 Calls Tryz.prog 31 #[conV c] w fun e w' => e = .returned (.bool (smallC (pC c)))/\Below w.heap.size w w' := by
 obtain ⟨op, n, s, k, nv, ns, lv, l⟩ := c
 obtain ⟨ka, kc, kn, na, nc, a, c, rfl, _, rfl, _, hks, hcv, hll, hnn, hb0, gC, hsz0, HP, HC0, c0, c1, c2, c3, c4, c5⟩ := open_box h
 rw [hcv]
 clear hcv
 have HC := hJQ (rcount_any P _ _ 20001 1 HC0.out (by decide) (by decide) (by decide) (by decide))
 rw [cVQ hks] at HC
 clear h hks gC HP HC0 hsz0
 generalize pC (.mk op n s k (.slice na ns.length nc) ns (.slice a l.length c) l) = x at *
 go_enter Tryz.func31, Tryz.ntmps31
 go_wp2_with fail
 refine HC.out.mono ?_
 rintro e w2 ⟨r, rfl, hb2, t1, t2, t3, t4⟩
 have HE : Hid (decide (r<=20000) = smallC x) := by
  show _ = _
  unfold smallC
  by_cases hr : r<=20000
  ·obtain ⟨t5, t6⟩ := t3 (by omega)
   rw [decide_eq_true hr, decide_eq_true (show sizeC x<=20000 by omega), decide_eq_true (show dCQ x<=400 by omega)]; rfl
  ·rw [decide_eq_false hr]
   rcases t4 (by omega) with t | t
   ·rw [decide_eq_false (show ¬ sizeC x<=20000 by omega)]; rfl
   ·rw [decide_eq_false (show ¬ dCQ x<=400 by omega), Bool.and_false]
 have hbz := hb0.trans (hb2.mono hb0.size)
 clear HC t3 t4
 go_wp2_with fail
 go_ret
 exact ⟨by rw [← HE.out]; rfl, hbz⟩
mutual
def bndC : Cn->Prop
 | .mk _ _ s _ ns l => s.size<=60/\ns.length<=20/\(∀ x ∈ ns, x.size<=60)/\bndCL l
def bndCL : List Cn->Prop
 | [] => True
 | x :: r => bndC x/\bndCL r
end
theorem bndCL_all : ∀ l : List Cn, bndCL l ↔ ∀ x ∈ l, bndC x
 | [] => by rw [bndCL]; simp
 | x :: r => by rw [bndCL, bndCL_all r]; simp
theorem bndC_mk (op n : Int) (s : ByteArray) (k : Kd) (ns : List ByteArray) (l : List Cn) : bndC (.mk op n s k ns l) ↔ s.size<=60/\ns.length<=20/\(∀ x ∈ ns, x.size<=60)/\∀ x ∈ l, bndC x := by
 rw [bndC, bndCL_all]
theorem formCL_take (l : List Cn) (j : Nat) (x : Cn) (r : List Cn) (h : formCL cstB labsB (l.take j) = true) (ht : l.take (j + 1) = l.take j ++ [x]) (hx : formC cstB labsB x = true) : formCL cstB labsB (l.take (j + 1)) = true := by
 rw [formCL_all] at h ⊢
 rw [ht, List.all_append, h]; simp [hx]
abbrev frmC (c : Cn) : Bool := formC cstB labsB c
abbrev valC (c : Cn) : Bool := validC cstB labsB c
theorem rall_any (P : Nat->Prop) : ∀ (c : ConD) (w : World), IsCon P w c->bndC (pC c) →
 Calls Tryz.prog 32 #[conV c] w fun e w' => e = .returned (.bool (frmC (pC c)))/\Below w.heap.size w w' := by
 refine ConD.ind (fun op n s k nv ns lv l ih w h hbd => ?_)
 rw [pMQ] at hbd ⊢
 obtain ⟨b1, b2, b3, b4⟩ := (bndC_mk ..).1 hbd
 obtain ⟨ka, kc, kn, na, nc, a, c, rfl, _, rfl, _, hks, hcv, hll, hnn, hb0, gC, hsz0, HP, HC0, c0, c1, c2, c3, c4, c5⟩ := open_box h
 rw [hcv]
 clear hcv
 have HN : Hid (Calls Tryz.prog 62 #[(.agg #[.int .i64 op, .int .i64 n, .string s, .slice ka kn kc, .slice na ns.length nc, .slice a l.length c])] (w.alloc (.cells #[.int .i64 op, .int .i64 n, .string s, .slice ka kn kc, .slice na ns.length nc, .slice a l.length c] 28)) fun e w' => e = .returned (.bool (nodeC cstB labsB op n s (pK k) ns l.length))/\Below (w.alloc (.cells #[.int .i64 op, .int .i64 n, .string s, .slice ka kn kc, .slice na ns.length nc, .slice a l.length c] 28)).heap.size (w.alloc (.cells #[.int .i64 op, .int .i64 n, .string s, .slice ka kn kc, .slice na ns.length nc, .slice a l.length c] 28)) w') := by
  have := node_any P _ _ HC0.out (by show s.size<=1000; omega) (fun y hy => by have := b3 y hy; omega) (by show ns.length<=1000000; omega)
  rw [cVQ hks] at this
  exact this
 have HI := hJQ ih
 have HBD := hJQ b4
 have hf : ∀ b, frmC (.mk op n s (pK k) ns (l.map pC)) = b->Ending.returned (.bool b) = Ending.returned (.bool (frmC (.mk op n s (pK k) ns (l.map pC)))) := fun b hb => by rw [hb]
 have HF := hJQ hf
 have HFE : Hid (frmC (.mk op n s (pK k) ns (l.map pC)) = (nodeC cstB labsB op n s (pK k) ns l.length && formCL cstB labsB (l.map pC))) := by
  show _ = _; unfold frmC; rw [formC_mk, List.length_map]
 clear ih h hks HC0 hf hbd b1 b2 b3 b4
 have hlt : w.heap.size < (w.alloc (.cells #[.int .i64 op, .int .i64 n, .string s, .slice ka kn kc, .slice na ns.length nc, .slice a l.length c] 28)).heap.size := by omega
 go_enter Tryz.func32, Tryz.ntmps32
 go_wp2_with fail
 refine HN.out.mono ?_
 rintro e w2 ⟨rfl, hb2⟩
 obtain ⟨bn, hbn⟩ : ∃ b, nodeC cstB labsB op n s (pK k) ns l.length = b := ⟨_, rfl⟩
 rw [hbn] at HFE ⊢
 clear hbn HN
 generalize w.alloc (.cells #[.int .i64 op, .int .i64 n, .string s, .slice ka kn kc, .slice na ns.length nc, .slice a l.length c] 28) = W0 at *
 have hbw := hb0.trans (hb2.mono hb0.size)
 have g2 := (hb2.block _ hlt).trans gC
 have hlt2 := hLQ g2
 have HP2 : Hid (ConAt P w2 k (.slice na ns.length nc) ns (.slice a l.length c) l) := by
  have hk := Kept.of_below (P := P) hb2
  exact ⟨hk.kind HP.out.kind, hk.row HP.out.names, HP.out.nlen, hk.row HP.out.row, HP.out.llen, fun y hy => hk.con (HP.out.all y hy)⟩
 clear HP c0 c1 c2 c3 c4 c5 gC hb2
 have HP := HP2
 clear HP2
 cases bn
 ·have HE := HF.out false (by rw [HFE.out]; rfl)
  clear HF HFE
  go_wp2_with fail
  go_ret
  exact ⟨HE, hbw⟩
 ·go_wp2_with fail
  go_loopw [3] (fun i wr => ∃ (j : Nat), j<=l.length/\i = .int .i64 j/\Hid (formCL cstB labsB ((l.map pC).take j) = true)/\Below w2.heap.size w2 wr) (fun i _ => l.length - (intOf i).toNat)
  case atStart => exact ⟨0, Nat.zero_le _, rfl, (by show _ = _; rw [List.take_zero, formCL]), Below.refl _ _⟩
  case round =>
   rename World => V
   obtain ⟨j, hj, rfl, HM, hbr⟩ := hrel
   have gV := (hbr.block _ hlt2).trans g2
   obtain ⟨c0, c1, c2, c3, c4, c5⟩ := cnQ gV
   by_cases hjl : j < l.length
   ·have HV := hJQ (Kept.of_below (P := P) hbr)
    obtain ⟨b, off, yop, yn, ys, yk, yns, yl, yka, ykn, ykc, yna, ync, ya, yc, fd, hbl, hq, hy, hmem, hv, HT, e0, e1, e2, e3, e4, e5⟩ := part_at (HV.out.row HP.out.row) (fun y hy => HV.out.con (HP.out.all y hy)) j hjl
    subst fd
    have HT := hJQ HT
    have hbY : Below V.heap.size V (V.alloc (.cells #[.int .i64 yop, .int .i64 yn, .string ys, .slice yka ykn ykc, .slice yna yns.length ync, .slice ya yl.length yc] 28)) := (Below.refl _ _).alloc (nLQ _) _
    obtain ⟨f0, f1, f2, f3, f4, f5⟩ := cnQ (nHQ V (.cells #[.int .i64 yop, .int .i64 yn, .string ys, .slice yka ykn ykc, .slice yna yns.length ync, .slice ya yl.length yc] 28))
    have hm' : pC (.mk yop yn ys yk (.slice yna yns.length ync) yns (.slice ya yl.length yc) yl) ∈ l.map pC := List.mem_map_of_mem hmem
    have HC := hJQ (HI.out _ hmem _ hy (HBD.out _ hm'))
    rw [hv] at HC
    have HM' := hJQ hm'
    clear hy hv hmem hq hm'
    generalize pC (.mk yop yn ys yk (.slice yna yns.length ync) yns (.slice ya yl.length yc) yl) = y at *
    go_wp2_with fail
    refine HC.out.mono ?_
    rintro e w3 ⟨rfl, hb3⟩
    have hbr2 := hbr.trans (hb3.mono hbr.size)
    have hbw2 := hbw.trans (hbr2.mono hbw.size)
    obtain ⟨bb, hbb⟩ : ∃ b, frmC y = b := ⟨_, rfl⟩
    rw [hbb]
    have HBB := hJQ hbb
    clear hbb HC
    cases bb
    ·have HE := HF.out false (by
      rw [HFE.out, formCL_all]
      have : (l.map pC).all (formC cstB labsB) = false := by
       rw [List.all_eq_false]; exact ⟨y, HM'.out, by rw [show formC cstB labsB y = false from HBB.out]; decide⟩
      rw [this]; rfl)
     clear HF HFE
     go_wp2_with fail
     go_ret
     exact ⟨HE, hbw2⟩
    ·have HM2 := hJQ (formCL_take _ _ _ [] HM.out HT.out HBB.out)
     clear HM HT
     go_wp2_with fail
     go_roundw
     case rel => exact ⟨j + 1, by omega, by go_num, HM2, hbr2⟩
     case measure => simp [intOf]; omega
   ·obtain rfl : j = l.length := by omega
    have hbw2 := hbw.trans (hbr.mono hbw.size)
    have HE := HF.out true (by rw [HFE.out]; have := HM.out; rw [take_all] at this; rw [this]; rfl)
    clear HF HFE HM
    go_wp2_with fail
    go_ret
    exact ⟨HE, hbw2⟩
theorem rvalid_any (P : Nat->Prop) (c : ConD) (w : World) (h : IsCon P w c) (hb : bndC (pC c)) :
 Calls Tryz.prog 12 #[conV c] w fun e w' => e = .returned (.bool (valC (pC c)))/\Below w.heap.size w w' := by
 obtain ⟨op, n, s, k, nv, ns, lv, l⟩ := c
 obtain ⟨ka, kc, kn, na, nc, a, c, rfl, _, rfl, _, hks, hcv, hll, hnn, hb0, gC, hsz0, HP, HC0, c0, c1, c2, c3, c4, c5⟩ := open_box h
 rw [hcv]
 clear hcv
 have HC := hJQ (rsmall_any P _ _ HC0.out)
 have HA := hJQ (fun W (hW : Below (w.alloc (.cells #[.int .i64 op, .int .i64 n, .string s, .slice ka kn kc, .slice na ns.length nc, .slice a l.length c] 28)).heap.size (w.alloc (.cells #[.int .i64 op, .int .i64 n, .string s, .slice ka kn kc, .slice na ns.length nc, .slice a l.length c] 28)) W) => rall_any P _ W (iBQ HC0.out hW) hb)
 have hlt : w.heap.size < (w.alloc (.cells #[.int .i64 op, .int .i64 n, .string s, .slice ka kn kc, .slice na ns.length nc, .slice a l.length c] 28)).heap.size := by omega
 rw [cVQ hks] at HC HA
 have HE : Hid (∀ b, valC (pC (.mk op n s k (.slice na ns.length nc) ns (.slice a l.length c) l)) = b->Ending.returned (.bool b) = Ending.returned (.bool (valC (pC (.mk op n s k (.slice na ns.length nc) ns (.slice a l.length c) l))))) := fun b hb => by rw [hb]
 clear h hks HP HC0 hb hsz0
 have HV : Hid (valC (pC (.mk op n s k (.slice na ns.length nc) ns (.slice a l.length c) l)) = (smallC (pC (.mk op n s k (.slice na ns.length nc) ns (.slice a l.length c) l)) && frmC (pC (.mk op n s k (.slice na ns.length nc) ns (.slice a l.length c) l)))) := rfl
 generalize pC (.mk op n s k (.slice na ns.length nc) ns (.slice a l.length c) l) = x at *
 go_enter Tryz.func12, Tryz.ntmps12
 go_wp2_with fail
 refine HC.out.mono ?_
 rintro e w2 ⟨rfl, hb2⟩
 have HA2 := hJQ (HA.out w2 hb2)
 generalize w.alloc (.cells #[.int .i64 op, .int .i64 n, .string s, .slice ka kn kc, .slice na ns.length nc, .slice a l.length c] 28) = W0 at *
 have hbw := hb0.trans (hb2.mono hb0.size)
 have g2 := (hb2.block _ hlt).trans gC
 obtain ⟨d0, d1, d2, d3, d4, d5⟩ := cnQ g2
 obtain ⟨bs', hbs⟩ : ∃ b, smallC x = b := ⟨_, rfl⟩
 rw [hbs] at HV ⊢
 clear hbs HC HA c0 c1 c2 c3 c4 c5
 cases bs'
 ·have HE2 := HE.out false (by rw [HV.out]; rfl)
  clear HE HV
  go_wp2_with fail
  go_ret
  exact ⟨HE2, hbw⟩
 ·have HE2 := hJQ (HE.out (frmC x) (by rw [HV.out]; rfl))
  clear HE HV
  generalize frmC x = q at *
  go_wp2_with fail
  refine HA2.out.mono ?_
  rintro e w3 ⟨rfl, hb3⟩
  have hbw3 := hbw.trans (hb3.mono hbw.size)
  clear HA2
  go_wp2_with fail
  go_ret
  exact ⟨HE2.out, hbw3⟩
theorem and_yes {a b : Bool} (h : a = true) : (a && b) = b := by rw [h]; rfl
theorem and_no {a b : Bool} (h : a = false) : (a && b) = false := by rw [h]; rfl
theorem formed1_any (s : ByteArray) (w : World) (hs : s.size<=1000) :
 Calls Tryz.prog 92 #[.string s] w fun e w' => e = .returned (.bool (!labB (bs s)))/\Below w.heap.size w w' := by
 have H := hJQ (isLabel_any s w hs)
 go_enter Tryz.func92, Tryz.ntmps92
 go_wp2_with fail
 refine H.out.mono ?_
 rintro e w2 ⟨rfl, hb2⟩
 clear H
 go_wp2_with fail
 go_ret
 exact ⟨rfl, hb2⟩
theorem names_any (P : Nat->Prop) (v : Value) (l : List ByteArray) (w : World) (h : RowP P w v l.length (strCells l)) (hm : l.length<=9223372036854775807) (hs : ∀ x ∈ l, x.size<=1000) :
 Calls Tryz.prog 47 #[v, .func (.func 92) #[] #[]] w fun e w' => e = .returned (.bool (!l.all fun s => labB (bs s)))/\Below w.heap.size w w' := by
 refine (containsS_any 92 #[] (enters_of Tryz.func92 (by kernel_rfl) rfl) P v l (fun j V => (l.take j).all (fun s => labB (bs s)) = true/\Below w.heap.size w V) (fun j V => (j < l.length->labB (bs (l.getD j default)) = false)/\Below w.heap.size w V) w ⟨by rw [List.take_zero]; rfl, Below.refl _ _⟩ (fun j V hI => Kept.of_below hI.2) (fun j V hj hI => ?_) h hm).mono ?_
 ·refine (formed1_any (l.getD j default) V (hs _ (mem_getD l j hj))).mono fun e V' ⟨he, hb⟩ => ⟨_, he, fun hb1 => ⟨fun _ => by simpa using hb1, hI.2.trans (hb.mono hI.2.size)⟩, fun hb1 => ⟨?_, hI.2.trans (hb.mono hI.2.size)⟩⟩
  rw [take_get default l j hj, List.all_append, hI.1]
  simpa using hb1
 ·rintro e w' ⟨b, rfl, hy, hn⟩
  cases b
  ·obtain ⟨h1, h2⟩ := hn rfl
   rw [List.take_length] at h1
   exact ⟨by rw [h1]; rfl, h2⟩
  ·obtain ⟨j, hj, h1, h2⟩ := hy rfl
   refine ⟨?_, h2⟩
   have : l.all (fun s => labB (bs s)) = false := by
    rw [List.all_eq_false]; exact ⟨_, mem_getD l j hj, by rw [h1 hj]; decide⟩
   rw [this]; rfl
def FormedAll (P : Nat->Prop) (c : ConD) : Prop := ∀ w, EnvN w->IsCon P w c->bndC (pC c)->Calls Tryz.prog 53 #[conV c] w fun e w' => e = .returned (.bool (frmC (pC c)))/\Below w.heap.size w w'
theorem formed2_any (P : Nat->Prop) (c : ConD) (H : FormedAll P c) (w : World) (hE : EnvN w) (h : IsCon P w c) (hb : bndC (pC c)) :
 Calls Tryz.prog 94 #[conV c] w fun e w' => e = .returned (.bool (!frmC (pC c)))/\Below w.heap.size w w' := by
 obtain ⟨op, n, s, k, nv, ns, lv, l⟩ := c
 obtain ⟨ka, kc, kn, na, nc, a, c, rfl, _, rfl, _, hks, hcv, hll, hnn, hb0, gC, hsz0, HP, HC0, c0, c1, c2, c3, c4, c5⟩ := open_box h
 rw [hcv]
 clear hcv
 have HC := hJQ (H _ (hE.below hb0) HC0.out hb)
 rw [cVQ hks] at HC
 clear h hks HP HC0 hb hsz0 H gC hE
 generalize pC (.mk op n s k (.slice na ns.length nc) ns (.slice a l.length c) l) = x at *
 go_enter Tryz.func94, Tryz.ntmps94
 go_wp2_with fail
 refine HC.out.mono ?_
 rintro e w2 ⟨rfl, hb2⟩
 have hbz := hb0.trans (hb2.mono hb0.size)
 clear HC
 go_wp2_with fail
 go_ret
 exact ⟨rfl, hbz⟩
theorem formedL_any (P : Nat->Prop) (v : Value) (l : List ConD) (H : ∀ y ∈ l, FormedAll P y) (w : World) (hE : EnvN w) (h : RowP P w v l.length (cCQ l)) (hm : l.length<=9223372036854775807) (ha : ∀ y ∈ l, IsCon P w y) (hb : ∀ y ∈ l.map pC, bndC y) :
 Calls Tryz.prog 22 #[v, .func (.func 94) #[] #[]] w fun e w' => e = .returned (.bool (!formCL cstB labsB (l.map pC)))/\Below w.heap.size w w' := by
 refine (containsC_any 94 #[] (enters_of Tryz.func94 (by kernel_rfl) rfl) P v l (fun j V => formCL cstB labsB ((l.map pC).take j) = true/\Below w.heap.size w V) (fun j V => (j < l.length->frmC (pC (l.getD j default)) = false)/\Below w.heap.size w V) w ⟨by rw [List.take_zero, formCL], Below.refl _ _⟩ (fun j V hI => Kept.of_below hI.2) (fun j V hj hI => ?_) h hm ha).mono ?_
 ·have hmem := mem_getD l j hj
  refine (formed2_any P (l.getD j default) (H _ hmem) V (hE.below hI.2) (iBQ (ha _ hmem) hI.2) (hb _ (List.mem_map_of_mem hmem))).mono fun e V' ⟨he, hb⟩ => ⟨_, he, fun hb1 => ⟨fun _ => by simpa using hb1, hI.2.trans (hb.mono hI.2.size)⟩, fun hb1 => ⟨?_, hI.2.trans (hb.mono hI.2.size)⟩⟩
  have hT : (l.map pC).take (j + 1) = (l.map pC).take j ++ [pC (l.getD j default)] := by
   rw [take_get default _ j (by rw [List.length_map]; exact hj), map_getD pC l j hj]
  exact formCL_take _ _ _ [] hI.1 hT (by simpa using hb1)
 ·rintro e w' ⟨b, rfl, hy, hn⟩
  cases b
  ·obtain ⟨h1, h2⟩ := hn rfl
   rw [take_all] at h1
   exact ⟨by rw [h1]; rfl, h2⟩
  ·obtain ⟨j, hj, h1, h2⟩ := hy rfl
   refine ⟨?_, h2⟩
   have : formCL cstB labsB (l.map pC) = false := by
    rw [formCL_all, List.all_eq_false]; exact ⟨_, List.mem_map_of_mem (mem_getD l j hj), by rw [show formC cstB labsB (pC (l.getD j default)) = false from h1 hj]; decide⟩
   rw [this]; rfl
end Go.Proofs.YtkiffgdinmpljaaGreatDoor
