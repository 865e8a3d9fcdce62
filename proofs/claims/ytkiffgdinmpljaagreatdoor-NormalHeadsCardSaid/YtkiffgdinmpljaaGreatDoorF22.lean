/- normalize at every depth. normal.copied. Printed by gen_copied.py, expanded by mac.py. -/
import Derived.Test.YtkiffgdinmpljaaGreatDoorF21
import Derived.Test.YtkiffgdinmpljaaGreatDoorF12
import Derived.Test.YtkiffgdinmpljaaGreatDoorF17
set_option linter.unusedVariables false
set_option linter.unusedSimpArgs false
namespace Go.Proofs.YtkiffgdinmpljaaGreatDoor
open Go Go.RowKit
set_option maxHeartbeats 8000000
set_option maxRecDepth 100000
theorem norm_all (kb : Nat) : ∀ (F : Nat) (x : ConD), NormAll2 kb F x
 | 0, x => by
   intro P w left _ _ _ _ _ _ _ _ hfu _ _
   exfalso
   have : 1<=dCQ (pC x) := by cases x; rw [pMQ, depthC_mk]; omega
   omega
 | F + 1, x => norm_step kb F (fun y => norm_all kb F y) x
def deepF : Nat := 4010401
def tameN (c : Cn) : Option (Cn × Nat) := nrmN deepF c 10000
theorem copied_any (P : Nat->Prop) : ∀ (x : ConD) (w : World), IsCon P w x->frmC (pC x) = true->sizeC (pC x)<=100000 →
 Calls Tryz.prog 27 #[conV x] w fun e w' => ConOut (fun b => w.heap.size<=b) (pC x) e w'/\Below w.heap.size w w' := by
 refine ConD.ind (fun op n s k nv ns lv l ih w h hf hsz => ?_)
 obtain ⟨ka, kc, kn, na, nc, a, c, rfl, _, rfl, _, hks, hcv, hll, hnn, hb0, gC, hsz0, HP, HC0, c0, c1, c2, c3, c4, c5⟩ := open_box h
 rw [hcv]
 clear hcv
 rw [pMQ] at hf hsz ⊢
 have hfs := fSQ hf
 rw [sMQ] at hsz
 have hg1 := gAQ (w.alloc (.cells #[.int .i64 op, .int .i64 n, .string s, .slice ka kn kc, .slice na ns.length nc, .slice a l.length c] 28)) (.cells #[.int .i64 0, .int .i64 0, .string ⟨#[]⟩, .slice none 0 0, .slice none 0 0, .slice none 0 0] 28)
 have hg2 := gAQ ((w.alloc (.cells #[.int .i64 op, .int .i64 n, .string s, .slice ka kn kc, .slice na ns.length nc, .slice a l.length c] 28)).alloc (.cells #[.int .i64 0, .int .i64 0, .string ⟨#[]⟩, .slice none 0 0, .slice none 0 0, .slice none 0 0] 28)) (.cells #[.int .i64 0, .int .i64 0, .string ⟨#[]⟩, .slice none 0 0, .slice none 0 0, .slice none 0 0] 28)
 have s1 : ((w.alloc (.cells #[.int .i64 op, .int .i64 n, .string s, .slice ka kn kc, .slice na ns.length nc, .slice a l.length c] 28)).alloc (.cells #[.int .i64 0, .int .i64 0, .string ⟨#[]⟩, .slice none 0 0, .slice none 0 0, .slice none 0 0] 28)).heap.size = w.heap.size + 2 := by simp
 have kR0 : ((w.alloc (.cells #[.int .i64 op, .int .i64 n, .string s, .slice ka kn kc, .slice na ns.length nc, .slice a l.length c] 28)).alloc (.cells #[.int .i64 0, .int .i64 0, .string ⟨#[]⟩, .slice none 0 0, .slice none 0 0, .slice none 0 0] 28)).heap[w.heap.size + 1]? = _ := (congrArg _ hsz0.symm).trans (nHQ (w.alloc (.cells #[.int .i64 op, .int .i64 n, .string s, .slice ka kn kc, .slice na ns.length nc, .slice a l.length c] 28)) (.cells #[.int .i64 0, .int .i64 0, .string ⟨#[]⟩, .slice none 0 0, .slice none 0 0, .slice none 0 0] 28))
 have kB0 := (hg1.block w.heap.size (by omega) (by nofun)).trans gC
 have hgW := gBQ (gAQ w (.cells #[.int .i64 op, .int .i64 n, .string s, .slice ka kn kc, .slice na ns.length nc, .slice a l.length c] 28)) hg1
 have hbW := gUQ (B := w.heap.size) hgW (nLQ _) (by nofun)
 have hkv : kindV k = .agg #[.slice ka kn kc] := by show Value.agg #[k.v] = _; rw [hks]
 have HX := hJQ h
 have HI := hJQ ih
 have HFS := hJQ hfs
 have HKV := hJQ hkv
 have hll2 : l.length<=100000 := by
  have : ∀ q : List Cn, q.length<=sizeCL q := fun q => by
   induction q with
   | nil => simp
   | cons x r ih => rw [sizeCL_cons, List.length_cons]; have := sizeC_pos x; omega
  have := this (l.map pC)
  rw [List.length_map] at this
  omega
 clear c0 c1 c2 c3 c4 c5 hb0 gC HP HC0 hsz0 hf hfs hks ih h hg1 hg2 hgW hkv
 go_enter Tryz.func27, Tryz.ntmps27
 go_upto_region 1 with fail
 generalize ((w.alloc (.cells #[.int .i64 op, .int .i64 n, .string s, .slice ka kn kc, .slice na ns.length nc, .slice a l.length c] 28)).alloc (.cells #[.int .i64 0, .int .i64 0, .string ⟨#[]⟩, .slice none 0 0, .slice none 0 0, .slice none 0 0] 28)) = W at *
 obtain ⟨c0, c1, c2, c3, c4, c5⟩ := cnQ kB0
 have hga := gAQ W (.cells #[.int .i64 0, .int .i64 0, .string ⟨#[]⟩, .slice none 0 0, .slice none 0 0, .slice none 0 0] 28)
 have kZ : (W.alloc (.cells #[.int .i64 0, .int .i64 0, .string ⟨#[]⟩, .slice none 0 0, .slice none 0 0, .slice none 0 0] 28)).heap[w.heap.size + 2]? = some (.cells #[.int .i64 0, .int .i64 0, .string ⟨#[]⟩, .slice none 0 0, .slice none 0 0, .slice none 0 0] 28) := by rw [← s1]; exact nHQ W (.cells #[.int .i64 0, .int .i64 0, .string ⟨#[]⟩, .slice none 0 0, .slice none 0 0, .slice none 0 0] 28)
 have hrw := gRQ (W.alloc (.cells #[.int .i64 0, .int .i64 0, .string ⟨#[]⟩, .slice none 0 0, .slice none 0 0, .slice none 0 0] 28)) (w.heap.size + 2) #[.int .i64 op, .int .i64 n, .string s, .slice ka kn kc, .slice na ns.length nc, .slice a l.length c]
 have k9 := setRow_heap (W.alloc (.cells #[.int .i64 0, .int .i64 0, .string ⟨#[]⟩, .slice none 0 0, .slice none 0 0, .slice none 0 0] 28)) (w.heap.size + 2) _ #[.int .i64 op, .int .i64 n, .string s, .slice ka kn kc, .slice na ns.length nc, .slice a l.length c] _ _ kZ
 have sA : (W.alloc (.cells #[.int .i64 0, .int .i64 0, .string ⟨#[]⟩, .slice none 0 0, .slice none 0 0, .slice none 0 0] 28)).heap.size = w.heap.size + 3 := by simp; omega
 have s9 : ((W.alloc (.cells #[.int .i64 0, .int .i64 0, .string ⟨#[]⟩, .slice none 0 0, .slice none 0 0, .slice none 0 0] 28)).setRow (w.heap.size + 2) #[.int .i64 op, .int .i64 n, .string s, .slice ka kn kc, .slice na ns.length nc, .slice a l.length c]).heap.size = w.heap.size + 3 := by rw [size_setRow]; exact sA
 have kB9 := (hrw.block w.heap.size (by omega) (fun e => by have e2 : w.heap.size = (w.heap.size + 2) := oJQ e; omega)).trans ((hga.block w.heap.size (by omega) (by nofun)).trans kB0)
 have kR9 := (hrw.block (w.heap.size + 1) (by omega) (fun e => by have e2 : w.heap.size + 1 = (w.heap.size + 2) := oJQ e; omega)).trans ((hga.block (w.heap.size + 1) (by omega) (by nofun)).trans kR0)
 have hb9 := (hbW.trans (gUQ (B := w.heap.size) hga (by omega) (by nofun))).trans (gUQ (B := w.heap.size) hrw (by omega) (fun q hq => by have e2 : (w.heap.size + 2) = q := oJQ hq; omega))
 have HK9 := hJQ k9
 have HB9 := hJQ kB9
 have HR9 := hJQ kR9
 clear hrw hga k9 kB9 kR9 kB0 kR0
 go_upto_region 2 with (refine wpList_store_row rfl 28 _ _ rfl (w.heap.size + 2) _ rfl rfl 28 _ kZ cIQ rfl (all_one _ rfl) ?_)
 clear c0 c1 c2 c3 c4 c5 kZ sA hbW s1
 generalize (W.alloc (.cells #[.int .i64 0, .int .i64 0, .string ⟨#[]⟩, .slice none 0 0, .slice none 0 0, .slice none 0 0] 28)).setRow (w.heap.size + 2) #[.int .i64 op, .int .i64 n, .string s, .slice ka kn kc, .slice na ns.length nc, .slice a l.length c] = V at *
 clear W
 obtain ⟨c0, c1, c2, c3, c4, c5⟩ := cnQ HB9.out
 obtain ⟨fz0, fz1, fz2, fz3, fz4, fz5⟩ := frozen6 HK9.out
 have HKd : Hid (Calls Tryz.prog 55 #[.agg #[.slice ka kn kc]] V fun e w' => KindOut (fun b => V.heap.size<=b) (pK k) e w'/\Below V.heap.size V w') := by
  have := copiedKind_any P k V (HX.out.parts.kind.keep hb9.size (fun b _ hlt => hb9.block b hlt)) HFS.out.1
  rw [HKV.out] at this
  exact this
 go_wp2_with fail
 refine HKd.out.mono ?_
 rintro e w1 ⟨⟨kd, rfl, hkd, hpk⟩, hb1⟩
 obtain ⟨ld, da, dc, hdk⟩ := kind_shape hkd
 subst hdk
 rw [show kindV (.mk (.slice da ld.length dc) ld) = .agg #[.slice da ld.length dc] from rfl]
 have hs1 := hb1.size
 have k1 := (hb1.block _ (hLQ HK9.out)).trans HK9.out
 obtain ⟨_, _, _, fz, _, _⟩ := frozen6 k1
 obtain ⟨_, _, _, pz, _, _⟩ := cnQ k1
 have hS := gSQ w1 (w.heap.size + 2) 3 (.slice da ld.length dc)
 have k2 := heap_set_same (i := 3) k1 (.slice da ld.length dc)
 have kB2 := (hS.block w.heap.size (by have := hLQ k1; omega) (fun e => by have e2 : w.heap.size = (w.heap.size + 2) := oJQ e; omega)).trans ((hb1.block _ (hLQ HB9.out)).trans HB9.out)
 have kR2 := (hS.block (w.heap.size + 1) (by have := hLQ k1; omega) (fun e => by have e2 : w.heap.size + 1 = (w.heap.size + 2) := oJQ e; omega)).trans ((hb1.block _ (hLQ HR9.out)).trans HR9.out)
 have hb2 := (hb9.trans (hb1.mono hb9.size)).trans (gUQ (B := w.heap.size) hS (by omega) (fun q hq => by have e2 : (w.heap.size + 2) = q := oJQ hq; omega))
 have s2 : (w1.setCell ⟨(w.heap.size + 2), 3, none⟩ (.slice da ld.length dc)).heap.size = w1.heap.size := by simp
 have HKK : Hid (IsKind (fun b => w.heap.size + 2 < b) (w1.setCell ⟨(w.heap.size + 2), 3, none⟩ (.slice da ld.length dc)) (.mk (.slice da ld.length dc) ld)/\pK (.mk (.slice da ld.length dc) ld) = pK k) := ⟨((hkd.grown hS (fun q hq hp => by have e2 : (w.heap.size + 2) = q := oJQ hq; have hp : V.heap.size<=q := hp; omega))).mono (fun b hb _ => by have hb : V.heap.size<=b := hb; show w.heap.size + 2 < b; omega), hpk⟩
 have HK2 := hJQ k2
 have HB2 := hJQ kB2
 have HR2 := hJQ kR2
 clear hS k1 k2 kB2 kR2 hkd hpk HKd c0 c1 c2 c3 c4 c5 fz0 fz1 fz2 fz3 fz4 fz5 HK9 HB9 HR9
 go_upto_region 3 with fail
 clear fz pz
 generalize w1.setCell ⟨(w.heap.size + 2), 3, none⟩ (.slice da ld.length dc) = V2 at *
 obtain ⟨c0, c1, c2, c3, c4, c5⟩ := cnQ HB2.out
 have HNm : Hid (Calls Tryz.prog 56 #[.slice na ns.length nc] V2 fun e w' => RowOut (fun b => V2.heap.size<=b) ns e w'/\Below V2.heap.size V2 w') := clone_any P _ ns V2 (rowP_below HX.out.parts.names hb2) HFS.out.2.1
 go_wp2_with fail
 refine HNm.out.mono ?_
 rintro e w2 ⟨⟨qa, qc, rfl, hqr⟩, hb3⟩
 have hs3 := hb3.size
 have k3 := (hb3.block _ (hLQ HK2.out)).trans HK2.out
 obtain ⟨_, _, _, _, fz, _⟩ := frozen6 k3
 obtain ⟨_, _, _, _, pz, _⟩ := cnQ k3
 have hS := gSQ w2 (w.heap.size + 2) 4 (.slice qa ns.length qc)
 have k4 := heap_set_same (i := 4) k3 (.slice qa ns.length qc)
 have kB4 := (hS.block w.heap.size (by have := hLQ k3; omega) (fun e => by have e2 : w.heap.size = (w.heap.size + 2) := oJQ e; omega)).trans ((hb3.block _ (hLQ HB2.out)).trans HB2.out)
 have kR4 := (hS.block (w.heap.size + 1) (by have := hLQ k3; omega) (fun e => by have e2 : w.heap.size + 1 = (w.heap.size + 2) := oJQ e; omega)).trans ((hb3.block _ (hLQ HR2.out)).trans HR2.out)
 have hb4 := (hb2.trans (hb3.mono hb2.size)).trans (gUQ (B := w.heap.size) hS (by have := hb2.size; omega) (fun q hq => by have e2 : (w.heap.size + 2) = q := oJQ hq; omega))
 have s4 : (w2.setCell ⟨(w.heap.size + 2), 4, none⟩ (.slice qa ns.length qc)).heap.size = w2.heap.size := by simp
 have HK4 : Hid (IsKind (fun b => w.heap.size + 2 < b) (w2.setCell ⟨(w.heap.size + 2), 4, none⟩ (.slice qa ns.length qc)) (.mk (.slice da ld.length dc) ld)/\pK (.mk (.slice da ld.length dc) ld) = pK k) := ⟨(HKK.out.1.keep hb3.size (fun b _ hlt => hb3.block b hlt)).grown hS (fun q hq hp => by have e2 : (w.heap.size + 2) = q := oJQ hq; omega), HKK.out.2⟩
 have HN4 : Hid (RowP (fun b => w.heap.size + 2 < b) (w2.setCell ⟨(w.heap.size + 2), 4, none⟩ (.slice qa ns.length qc)) (.slice qa ns.length qc) ns.length (strCells ns)) := (hqr.grown hS (fun q hq hp => by have e2 : (w.heap.size + 2) = q := oJQ hq; have hp : V2.heap.size<=q := hp; have := hLQ HK2.out; omega)).mono (fun b hb _ => by have hb : V2.heap.size<=b := hb; have := hLQ HK2.out; show w.heap.size + 2 < b; omega)
 have HC4 := hJQ k4
 have HB4 := hJQ kB4
 have HR4 := hJQ kR4
 clear hS k3 k4 kB4 kR4 hqr HNm c0 c1 c2 c3 c4 c5 HK2 HB2 HR2 HKK
 go_upto_region 4 with fail
 clear fz pz
 generalize w2.setCell ⟨(w.heap.size + 2), 4, none⟩ (.slice qa ns.length qc) = V4 at *
 obtain ⟨c0, c1, c2, c3, c4, c5⟩ := cnQ HB4.out
 obtain ⟨_, _, _, _, _, fz⟩ := frozen6 HC4.out
 obtain ⟨_, _, _, _, _, pz⟩ := cnQ HC4.out
 have hS := gSQ V4 (w.heap.size + 2) 5 (.slice none 0 0)
 have k5 := heap_set_same (i := 5) HC4.out (.slice none 0 0)
 have hlt4 := hLQ HC4.out
 have kB5 := (hS.block w.heap.size (by omega) (fun e => by have e2 : w.heap.size = (w.heap.size + 2) := oJQ e; omega)).trans HB4.out
 have kR5 := (hS.block (w.heap.size + 1) (by omega) (fun e => by have e2 : w.heap.size + 1 = (w.heap.size + 2) := oJQ e; omega)).trans HR4.out
 have hb5 := hb4.trans (gUQ (B := w.heap.size) hS (by omega) (fun q hq => by have e2 : (w.heap.size + 2) = q := oJQ hq; omega))
 have s5 : (V4.setCell ⟨(w.heap.size + 2), 5, none⟩ (.slice none 0 0)).heap.size = V4.heap.size := by simp
 have HK5 : Hid (IsKind (fun b => w.heap.size + 2 < b) (V4.setCell ⟨(w.heap.size + 2), 5, none⟩ (.slice none 0 0)) (.mk (.slice da ld.length dc) ld)/\pK (.mk (.slice da ld.length dc) ld) = pK k) := ⟨HK4.out.1.grown hS (fun q hq hp => by have e2 : (w.heap.size + 2) = q := oJQ hq; omega), HK4.out.2⟩
 have HN5 : Hid (RowP (fun b => w.heap.size + 2 < b) (V4.setCell ⟨(w.heap.size + 2), 5, none⟩ (.slice none 0 0)) (.slice qa ns.length qc) ns.length (strCells ns)) := HN4.out.grown hS (fun q hq hp => by have e2 : (w.heap.size + 2) = q := oJQ hq; omega)
 have HC5 := hJQ k5
 have HB5 := hJQ kB5
 have HR5 := hJQ kR5
 clear hS k5 kB5 kR5 HC4 HB4 HR4 HK4 HN4 c0 c1 c2 c3 c4 c5
 go_upto_region 5 with fail
 clear fz pz
 generalize V4.setCell ⟨(w.heap.size + 2), 5, none⟩ (.slice none 0 0) = w3 at *
 have hlt3 : w.heap.size + 2 < w3.heap.size := hLQ HC5.out
 have HM3 : Hid (MkC (fun b => w.heap.size + 2 < b) w3 w3.heap.size (w.heap.size + 2) (.int .i64 op) (.int .i64 n) (.string s) (.slice da ld.length dc) (.slice qa ns.length qc) (.slice none 0 0) []) := MkC.nil HC5.out hlt3 (nLQ _)
 clear HC5
 obtain ⟨c0, c1, c2, c3, c4, c5⟩ := cnQ HB5.out
 go_wp2_with fail
 go_loopw [19] (fun i wr => ∃ (cv : Value) (ds : List ConD), ds.length<=l.length/\i = .int .i64 ds.length/\Hid (MkC (fun b => w.heap.size + 2 < b) wr w3.heap.size (w.heap.size + 2) (.int .i64 op) (.int .i64 n) (.string s) (.slice da ld.length dc) (.slice qa ns.length qc) cv ds)/\Hid (ds.map pC = (l.map pC).take ds.length)/\Hid (Kept (fun b => b < w3.heap.size/\b ≠ (w.heap.size + 2)) w3 wr)/\Hid (Below w.heap.size w wr)) (fun i _ => l.length - (intOf i).toNat)
 case atStart => exact ⟨.slice none 0 0, [], Nat.zero_le _, rfl, HM3, rfl, Kept.refl _ _, hb5⟩
 case round =>
  rename World => V
  obtain ⟨cv, ds, hj, rfl, HM, HEq, HKp, HB⟩ := hrel
  obtain ⟨oa, oc, hcv⟩ := HM.out.slice
  subst hcv
  have hltV := HM.out.lt
  have hown := HM.out.own
  by_cases hjl : ds.length < l.length
  ·have HP := hJQ HX.out.parts
   have HV : Hid (Kept P w V) := Kept.of_below HB.out
   have hjl0 := hjl
   obtain ⟨b, off, yop, yn, ys, yk, yns, yl, yka, ykn, ykc, yna, ync, ya, yc, fd, hbl, hq, hy, hmem, hv, HT, e0, e1, e2, e3, e4, e5⟩ := part_at (HV.out.row HP.out.row) (fun y hy => HV.out.con (HP.out.all y hy)) ds.length hjl
   subst fd
   have HT := hJQ HT
   obtain ⟨f0, f1, f2, f3, f4, f5⟩ := cnQ (nHQ V (.cells #[.int .i64 yop, .int .i64 yn, .string ys, .slice yka ykn ykc, .slice yna yns.length ync, .slice ya yl.length yc] 28))
   have hgX := gAQ V (.cells #[.int .i64 yop, .int .i64 yn, .string ys, .slice yka ykn ykc, .slice yna yns.length ync, .slice ya yl.length yc] 28)
   have HMX := hJQ (HM.out.grown hgX (by nofun))
   obtain ⟨x0, x1, x2, x3, x4, x5⟩ := cnQ HMX.out.cell
   have hszX : (V.alloc (.cells #[.int .i64 yop, .int .i64 yn, .string ys, .slice yka ykn ykc, .slice yna yns.length ync, .slice ya yl.length yc] 28)).heap.size = V.heap.size + 1 := by simp
   have hm' : pC (.mk yop yn ys yk (.slice yna yns.length ync) yns (.slice ya yl.length yc) yl) ∈ l.map pC := List.mem_map_of_mem hmem
   have HC : Hid (∀ W', (V.alloc (.cells #[.int .i64 yop, .int .i64 yn, .string ys, .slice yka ykn ykc, .slice yna yns.length ync, .slice ya yl.length yc] 28)).grownBy W' none->Calls Tryz.prog 27 #[(.agg #[.int .i64 yop, .int .i64 yn, .string ys, .slice yka ykn ykc, .slice yna yns.length ync, .slice ya yl.length yc])] W' fun e w' => ConOut (fun b => W'.heap.size<=b) (pC (.mk yop yn ys yk (.slice yna yns.length ync) yns (.slice ya yl.length yc) yl)) e w'/\Below W'.heap.size W' w') := fun W' hW' => by
    have := HI.out _ hmem W' (hy.grown (gBQ hgX hW') (by nofun)) (HFS.out.2.2.2.1 _ hm') (by have := sLQ _ _ hm'; omega)
    rw [hv] at this
    exact this
   have HTL : Hid ((l.map pC).take (ds.length + 1) = (l.map pC).take ds.length ++ [pC (.mk yop yn ys yk (.slice yna yns.length ync) yns (.slice ya yl.length yc) yl)]) := HT.out
   clear hy hmem hv hq hm' HV HP HT
   generalize pC (.mk yop yn ys yk (.slice yna yns.length ync) yns (.slice ya yl.length yc) yl) = T at *
   obtain ⟨ii0, hii, hiz0, hiz1, hiz2⟩ := info_parts info_con
   go_upto_region 8 with fail
   generalize V.alloc (.cells #[.int .i64 yop, .int .i64 yn, .string ys, .slice yka ykn ykc, .slice yna yns.length ync, .slice ya yl.length yc] 28) = VX at *
   have hVXlt := HMX.out.lt
   go_region_law
    (first
      | (fail_if_success (have guard9 := hgy)
         go_simp; go_at_call 27
         refine (HC.out _ (gDQ VX)).mono ?_
         rintro e w1 ⟨⟨dd, rfl, hdd, hpd⟩, hgy⟩
         have hg9 : VX.grownBy w1 none := gBQ (gDQ VX) (gLQ hgy)
         have HM1 := hJQ (HMX.out.grown hg9 (by nofun))
         obtain ⟨y20, y21, y22, y23, y24, y2⟩ := cnQ HM1.out.cell
         obtain ⟨zop, zn, zs, zk, zns, zl, zka, zkn, zkc, zna, znc, za, zc, hde, hzk, _⟩ := cSQ hdd
         subst hde
         have HD := hJQ hdd
         have HPD := hJQ hpd
         clear hpd
         rw [cVQ hzk]
         have y3 := (World.cell?_of_block (a := ⟨(w.heap.size + 2), 5, none⟩) ((gAQ w1 (.cells #[.int .i64 zop, .int .i64 zn, .string zs, .slice zka zkn zkc, .slice zna zns.length znc, .slice za zl.length zc] 28)).block (w.heap.size + 2) (by have := HM1.out.lt; omega) (by nofun))).trans y2)
      | (have guard9 := hgy; clear guard9
         refine step_append_lies _ (by rfl) _ _ _ (by rfl) w3.heap.size 28 ii0 (.agg #[.int .i64 0, .int .i64 0, .string ⟨#[]⟩, .slice none 0 0, .slice none 0 0, .slice none 0 0]) 6 104 Tryz.underlying26 hii hiz0 hiz1 hiz2 (by rfl) (by decide) _ ds.length (cCQ ds) (by rfl) (HM1.out.own.alloc _) ⟨w1.heap.size, 0, none⟩ 1 1 [.int .i64 zop, .int .i64 zn, .string zs, .slice zka zkn zkc, .slice zna zns.length znc, .slice za zl.length zc] (by rfl) (by rfl) (World.news_of_block (cs := #[.int .i64 zop, .int .i64 zn, .string zs, .slice zka zkn zkc, .slice zna zns.length znc, .slice za zl.length zc]) (nHQ w1 _)) (by intro u hu; simp at hu; rcases hu with rfl | rfl | rfl | rfl | rfl | rfl <;> rfl) (by decide) (by unfold maxLen; omega) (by omega) (by have := HM1.out.lt; simp; omega) _ rfl ?_
         intro gN cN w4 hown4 hgrow4 hat4 hlt4
         have HK4 := hJQ ((hgrow4.block (w.heap.size + 2) (by have := HM1.out.lt; simp; omega) (fun e => by have := HM1.out.own.lt _ e.symm; omega)).trans (((gAQ w1 (.cells #[.int .i64 zop, .int .i64 zn, .string zs, .slice zka zkn zkc, .slice zna zns.length znc, .slice za zl.length zc] 28)).block (w.heap.size + 2) (by have := HM1.out.lt; omega) (by nofun)).trans HM1.out.cell))
         obtain ⟨y40, y41, y42, y43, y44, y4⟩ := cnQ HK4.out
         have fz4 : w4.frozen? ⟨(w.heap.size + 2), 5, none⟩ = false := Lib.frozen_of_heap HK4.out 5))
   all_goals
    have hgA := gAQ w1 (.cells #[.int .i64 zop, .int .i64 zn, .string zs, .slice zka zkn zkc, .slice zna zns.length znc, .slice za zl.length zc] 28)
    have hgS := gSQ w4 (w.heap.size + 2) 5 (.slice (some ⟨gN, 0, none⟩) (ds.length + 1) cN)
    have hownX := HMX.out.own
    have hce : cEQ (.mk zop zn zs zk (.slice zna zns.length znc) zns (.slice za zl.length zc) zl) = [.int .i64 zop, .int .i64 zn, .string zs, .slice zka zkn zkc, .slice zna zns.length znc, .slice za zl.length zc] := by show [_, _, _, zk.v, _, _] = _; rw [hzk]; rfl
    rw [← hce] at hown4
    have hMK := HM1.out.push (y := (.mk zop zn zs zk (.slice zna zns.length znc) zns (.slice za zl.length zc) zl)) (HD.out.mono (fun b hb _ => ⟨⟨by have hb : VX.heap.size<=b := hb; omega, by have hb : VX.heap.size<=b := hb; omega⟩, fun e => by have hb : VX.heap.size<=b := hb; have := (hownX.lt b e).2; omega⟩)) hown4 hgrow4 hat4
    have hB1 := HM1.out.lt
    have hs1 := hg9.size
    have hs4 := hgrow4.size
    have hsA := hgA.size
    have hB4 : Below w.heap.size w (w4.setCell ⟨(w.heap.size + 2), 5, none⟩ (.slice (some ⟨gN, 0, none⟩) (ds.length + 1) cN)) := ((((HB.out.trans (gUQ hgX (by omega) (by nofun))).trans (gUQ hg9 (by omega) (by nofun))).trans (gUQ hgA (by omega) (by nofun))).trans (gUQ hgrow4 (by omega) (fun q hq => by have := (HM1.out.own.lt q hq).1; omega))).trans (gUQ hgS (by omega) (fun q hq => by have e2 : (w.heap.size + 2) = q := oJQ hq; omega))
    have hK4 : Kept (fun b => b < w3.heap.size/\b ≠ (w.heap.size + 2)) w3 (w4.setCell ⟨(w.heap.size + 2), 5, none⟩ (.slice (some ⟨gN, 0, none⟩) (ds.length + 1) cN)) := ((((HKp.out.trans (Kept.of_grown hgX (by nofun))).trans (Kept.of_grown hg9 (by nofun))).trans (Kept.of_grown hgA (by nofun))).trans (Kept.of_grown hgrow4 (fun q hq hp => by have := (HM1.out.own.lt q hq).1; have := hp.1; omega))).trans (Kept.of_grown hgS (fun q hq hp => hp.2 (oJQ hq).symm))
    have HZ := hJQ hMK
    have HZB := hJQ hB4
    have HZK := hJQ hK4
    have HZI : Hid ((ds ++ [ConD.mk zop zn zs zk (.slice zna zns.length znc) zns (.slice za zl.length zc) zl]).map pC = (l.map pC).take (ds ++ [ConD.mk zop zn zs zk (.slice zna zns.length znc) zns (.slice za zl.length zc) zl]).length) := by
     show _ = _
     rw [List.map_append, HEq.out, List.length_append, show [ConD.mk zop zn zs zk (.slice zna zns.length znc) zns (.slice za zl.length zc) zl].length = 1 from rfl, HTL.out, ← HPD.out]; rfl
    clear hMK hB4 hK4 hgA hgS hownX hown4 hgrow4 hat4 HM1 HMX HD hdd hgy HC hown hg9 hs1 hs4 hsA HEq HTL HPD
    go_wp2_with fail
    go_roundw
    case rel => exact ⟨_, ds ++ [(.mk zop zn zs zk (.slice zna zns.length znc) zns (.slice za zl.length zc) zl)], by rw [List.length_append]; exact hjl0, by rw [List.length_append]; go_num, HZ, HZI, HZK, HZB⟩
    case measure => simp [intOf]; omega
  ·have hjl' : Hid (ds.length = l.length) := by show _ = _; omega
   have hnot : ¬ (ds.length : Int) < l.length := by omega
   have kRV := HKp.out.heap (q := w.heap.size + 1) ⟨by omega, by omega⟩ HR5.out
   obtain ⟨x0, x1, x2, x3, x4, x5⟩ := cnQ HM.out.cell
   have hrow := gRQ V (w.heap.size + 1) #[.int .i64 op, .int .i64 n, .string s, .slice da ld.length dc, .slice qa ns.length qc, .slice oa ds.length oc]
   have HRF := hJQ (setRow_heap V (w.heap.size + 1) _ #[.int .i64 op, .int .i64 n, .string s, .slice da ld.length dc, .slice qa ns.length qc, .slice oa ds.length oc] _ _ kRV)
   have HBF := hJQ (HB.out.trans (gUQ (B := w.heap.size) hrow (by omega) (fun q hq => by have e2 : w.heap.size + 1 = q := oJQ hq; omega)))
   have hgw : ∀ q, some (w.heap.size + 1) = some q->q = w.heap.size + 1 := fun q hq => (oJQ hq).symm
   have HDF : Hid (IsCon (fun b => w.heap.size<=b) (V.setRow (w.heap.size + 1) #[.int .i64 op, .int .i64 n, .string s, .slice da ld.length dc, .slice qa ns.length qc, .slice oa ds.length oc]) (.mk op n s (.mk (.slice da ld.length dc) ld) (.slice qa ns.length qc) ns (.slice oa ds.length oc) ds)/\pC (.mk op n s (.mk (.slice da ld.length dc) ld) (.slice qa ns.length qc) ns (.slice oa ds.length oc) ds) = Cn.mk op n s (pK k) ns (l.map pC)) := by
    refine ⟨IsCon.mk ?_ ?_ (by have : maxLen = 9223372036854775807 := (by decide); have := HX.out.parts.nlen; omega) ?_ (by have : maxLen = 9223372036854775807 := (by decide); omega) (fun y hy => ?_), ?_⟩
    ·exact ((((HK5.out.1.mono (Q := fun b => w.heap.size + 2 < b/\b < w3.heap.size) (fun b hb hlt => ⟨hb, hlt⟩)).keep HKp.out.1 (fun b hb hlt => HKp.out.2 b ⟨hb.2, by have := hb.1; omega⟩ hlt)).grown hrow (fun q hq hp => by have := hgw q hq; have := hp.1; omega))).mono (fun b hb _ => by have := hb.1; show w.heap.size<=b; omega)
    ·exact ((((HN5.out.mono (Q := fun b => w.heap.size + 2 < b/\b < w3.heap.size) (fun b hb hlt => ⟨hb, hlt⟩)).keep HKp.out.1 (fun b hb hlt => HKp.out.2 b ⟨hb.2, by have := hb.1; omega⟩ hlt)).grown hrow (fun q hq hp => by have := hgw q hq; have := hp.1; omega))).mono (fun b hb _ => by have := hb.1; show w.heap.size<=b; omega)
    ·exact ((rowP_owns (P := fun b => w3.heap.size<=b) hown (fun b hb => hb)).grown hrow (fun q hq hp => by have := hgw q hq; have hp : w3.heap.size<=q := hp; omega)).mono (fun b hb _ => by have hb : w3.heap.size<=b := hb; show w.heap.size<=b; omega)
    ·exact ((HM.out.els y hy).grown hrow (fun q hq hp => by have := hgw q hq; have := hp.1.1; omega)).mono (fun b hb _ => by have := hb.1.1; show w.heap.size<=b; omega)
    ·rw [pMQ, HK5.out.2, HEq.out, hjl'.out, take_all]
   clear hrow HKp HB hown
   go_wp2_with (refine wpList_store_row rfl 28 _ _ rfl (w.heap.size + 1) _ rfl rfl 28 _ kRV cIQ rfl (all_one _ rfl) ?_)
   refine bodyPost_ret (results_cell_row rfl _ _ (w.heap.size + 1) 28 #[.int .i64 op, .int .i64 n, .string s, .slice da ld.length dc, .slice qa ns.length qc, .slice oa ds.length oc] (0, 0) _ rfl HRF.out Tryz.underlying28 rfl cIQ) rfl ?_
   exact ⟨⟨_, rfl, HDF.out.1, HDF.out.2⟩, HBF.out⟩
end Go.Proofs.YtkiffgdinmpljaaGreatDoor
