/- The reference's Same of strings, SameKind, Same, at equal arguments. Printed by gen_rsame.py, expanded by mac.py. slices.Equal of strings, tycon.same, tycon.Equal at equal arguments. Printed by gen_tequal.py, expanded by mac.py. -/
import Derived.Test.YtkiffgdinmpljaaGreatDoorF21
import Derived.Test.YtkiffgdinmpljaaGreatDoorF8
import Derived.Test.YtkiffgdinmpljaaGreatDoorF4
set_option linter.unusedVariables false
set_option linter.unusedSimpArgs false
namespace Go.Proofs.YtkiffgdinmpljaaGreatDoor
open Go Go.RowKit
set_option maxHeartbeats 8000000
set_option maxRecDepth 100000
theorem row_cell {P : Nat->Prop} {w : World} {v : Value} {n : Nat} {xs : List Value} (h : RowP P w v n xs) (j : Nat) (hj : j < xs.length) (hn : 0 < n) : ∃ b off c, v = .slice (some ⟨b, off, none⟩) n c/\b < w.heap.size/\w.cell? ⟨b, off + j, none⟩ = some (xs.getD j undef) := by
 obtain ⟨a, c, rfl, hlc, hcell⟩ := h
 obtain ⟨b, off, rfl, hp, hlt, hc⟩ := hcell hn
 exact ⟨b, off, c, rfl, hlt, hc j hj⟩
theorem strCells_getD (l : List ByteArray) (j : Nat) (hj : j < l.length) : (strCells l).getD j undef = .string (l.getD j ⟨#[]⟩) := by
 unfold strCells; simp [List.getD, hj]
theorem seqS_any (P Q : Nat->Prop) (v u : Value) (l : List ByteArray) (w : World) (h : RowP P w v l.length (strCells l)) (k : RowP Q w u l.length (strCells l)) (hl : l.length<=9223372036854775807) :
 Calls Tryz.prog 76 #[v, u] w fun e w' => e = .returned (.bool true)/\Below w.heap.size w w' := by
 have H := hJQ h
 have K0 := hJQ k
 obtain ⟨a, c, rfl, _⟩ := rSQ h
 obtain ⟨a2, c2, rfl, _⟩ := rSQ k
 clear h k
 go_enter Tryz.func76, Tryz.ntmps76
 go_wp2_with fail
 go_loopw [13] (fun i wr => ∃ (j : Nat), j<=l.length/\i = .int .i64 j/\Below w.heap.size w wr) (fun i _ => l.length - (intOf i).toNat)
 case atStart => exact ⟨0, Nat.zero_le _, rfl, Below.refl _ _⟩
 case round =>
  rename World => V
  obtain ⟨j, hj, rfl, hbV⟩ := hrel
  by_cases hjl : j < l.length
  ·obtain ⟨b, off, c', fd, hbl, e0⟩ := row_cell (rowP_below H.out hbV) j (by unfold strCells; rw [List.length_map]; exact hjl) (by omega)
   obtain ⟨b2, off2, c2', fd2, hbl2, e1⟩ := row_cell (rowP_below K0.out hbV) j (by unfold strCells; rw [List.length_map]; exact hjl) (by omega)
   obtain ⟨rfl, -⟩ := Value.slice.inj fd
   obtain ⟨rfl, -⟩ := Value.slice.inj fd2
   rw [strCells_getD l j hjl] at e0 e1
   generalize l.getD j ⟨#[]⟩ = x at *
   clear fd fd2
   go_upto_region 6 with fail
   have S0 : (fun w9 => w9.cell? ⟨b, off + j, none⟩ = some (.string x)/\w9.cell? ⟨b2, off2 + j, none⟩ = some (.string x)) V.drew := ⟨e0, e1⟩
   clear e0 e1
   refine wp_region_held_drew (S := (fun w9 => w9.cell? ⟨b, off + j, none⟩ = some (.string x)/\w9.cell? ⟨b2, off2 + j, none⟩ = some (.string x))) (by kernel_rfl) S0 (fun hHeld => ?_)
   refine tks (b := ?_) (by kernel_rfl) (fun _ _ _ _ _ h => h) S0 9 [0, 1, 2, 3, 4, 5, 6, 7, 8] (by kernel_rfl) ?_ ?_
   rotate_left
   ·iterate 9 (refine yc (v := ?_) rfl rfl (by rfl) (fun w9 hSw => ?_) ?_; rotate_left; (focus go_simp; try rfl); simp only [Act.put, List.setIfInBounds_toArray, List.set_cons_zero, List.set_cons_succ])
    exact rfl
   refine wpAnyH_done (by kernel_rfl) ?_ _
   have HB := hJQ (hbV.drew)
   clear hHeld S0
   go_wp2_with fail
   go_roundw
   case rel => exact ⟨j + 1, by omega, by go_num, HB.out⟩
   case measure => simp [intOf]; omega
  ·obtain rfl : j = l.length := by omega
   go_wp2_with fail
   go_ret
   exact ⟨rfl, hbV⟩
theorem eqfK_any (v u : Value) (l l2 : List KindD) (w : World) (hr : RowP (fun _ => True) w v l.length (kindCells l)) (hr2 : RowP (fun _ => True) w u l2.length (kindCells l2)) (hall : ∀ y ∈ l, IsKind (fun _ => True) w y) (hall2 : ∀ y ∈ l2, IsKind (fun _ => True) w y) (hm : l.length<=9223372036854775807) (he : l.map pK = l2.map pK)
 (H : ∀ y ∈ l, ∀ (y2 : KindD) (W : World), IsKind (fun _ => True) W y->IsKind (fun _ => True) W y2->pK y = pK y2->Calls Tryz.prog 75 #[kindV y, kindV y2] W fun e w' => e = .returned (.bool true)/\Below W.heap.size W w') :
 Calls Tryz.prog 111 #[v, u, .func (.func 75) #[] #[]] w fun e w' => e = .returned (.bool true)/\Below w.heap.size w w' := by
 have hlen : l2.length = l.length := by have := congrArg List.length he; simpa using this.symm
 have HR := hJQ hr
 have HR2 := hJQ hr2
 have HA := hJQ hall
 have HA2 := hJQ hall2
 have HI := hJQ H
 have HE := hJQ he
 have HL := hJQ hlen
 obtain ⟨a, c, rfl, _⟩ := rSQ hr
 obtain ⟨a2, c2, rfl, _⟩ := rSQ hr2
 rw [hlen]
 clear hr hr2 hall hall2 H he hlen
 go_enter Tryz.func111, Tryz.ntmps111
 go_wp2_with fail
 go_loopw [17] (fun i wr => ∃ (j : Nat), j<=l.length/\i = .int .i64 j/\Below w.heap.size w wr) (fun i _ => l.length - (intOf i).toNat)
 case atStart => exact ⟨0, Nat.zero_le _, rfl, Below.refl _ _⟩
 case round =>
  rename World => V
  obtain ⟨j, hj, rfl, hbV⟩ := hrel
  by_cases hjl : j < l.length
  ·have HK : Hid (Kept (fun _ => True) w V) := Kept.of_below hbV
   obtain ⟨b, off, ym, yl, yka, ykc, yfd, ybl, yq, yy, ymem, yHT, y0⟩ := kind_at (HK.out.row HR.out) (fun y hy => HK.out.kind (HA.out y hy)) j hjl
   obtain ⟨b2, off2, zm, zl, zka, zkc, zfd, zbl, zq, zy, zmem, zHT, z0⟩ := kind_at (HK.out.row HR2.out) (fun y hy => HK.out.kind (HA2.out y hy)) j (by rw [HL.out]; exact hjl)
   subst yfd
   subst zfd
   have hpe : pK (KindD.mk (.slice yka ym ykc) yl) = pK (KindD.mk (.slice zka zm zkc) zl) := by
    have : (l.map pK).getD j default = (l2.map pK).getD j default := by rw [HE.out]
    rw [map_getD pK l j hjl, map_getD pK l2 j (by rw [HL.out]; exact hjl), yq, zq] at this
    exact this
   have g1 := gAQ V (.cells #[.slice yka ym ykc] 24)
   have g2 := gAQ (V.alloc (.cells #[.slice yka ym ykc] 24)) (.cells #[.slice zka zm zkc] 24)
   have hs1 : (V.alloc (.cells #[.slice yka ym ykc] 24)).heap.size = V.heap.size + 1 := by simp
   have hbX : Below w.heap.size w ((V.alloc (.cells #[.slice yka ym ykc] 24)).alloc (.cells #[.slice zka zm zkc] 24)) := (hbV.trans (gUQ g1 hbV.size (by nofun))).trans (gUQ g2 (by have := hbV.size; omega) (by nofun))
   have gg := gBQ g1 g2
   have ky := (g2.block V.heap.size (by omega) (by nofun)).trans (nHQ V (.cells #[.slice yka ym ykc] 24))
   have kz : ((V.alloc (.cells #[.slice yka ym ykc] 24)).alloc (.cells #[.slice zka zm zkc] 24)).heap[V.heap.size + 1]? = _ := (congrArg _ hs1.symm).trans (nHQ (V.alloc (.cells #[.slice yka ym ykc] 24)) (.cells #[.slice zka zm zkc] 24))
   have HC := HI.out _ ymem (KindD.mk (.slice zka zm zkc) zl) _ (yy.grown gg (by nofun)) (zy.grown gg (by nofun)) hpe
   rw [show kindV (KindD.mk (.slice yka ym ykc) yl) = .agg #[.slice yka ym ykc] from rfl, show kindV (KindD.mk (.slice zka zm zkc) zl) = .agg #[.slice zka zm zkc] from rfl] at HC
   have HC := hJQ HC
   have HKY := hJQ ky
   have HKZ := hJQ kz
   have HBX := hJQ hbX
   have q0 := (World.cell?_of_block (a := ⟨b2, off2 + j, none⟩) (g1.block b2 zbl (by nofun))).trans z0
   clear g1 g2 gg ky kz hbX hpe yy zy ymem zmem yq zq yHT zHT hs1
   go_upto_region 7 with fail
   clear y0 z0 q0
   generalize (V.alloc (.cells #[.slice yka ym ykc] 24)).alloc (.cells #[.slice zka zm zkc] 24) = VX at *
   have y0 := cOQ HKY.out
   have z0 := cOQ HKZ.out
   go_wp2_with fail
   refine HC.out.mono ?_
   rintro e w9 ⟨rfl, hb9⟩
   have HB9 := hJQ (HBX.out.trans (hb9.mono HBX.out.size))
   clear hb9 HC HKY HKZ HBX
   go_wp2_with fail
   go_roundw
   case rel => exact ⟨j + 1, by omega, by go_num, HB9.out⟩
   case measure => simp [intOf]; omega
  ·obtain rfl : j = l.length := by omega
   go_wp2_with fail
   go_ret
   exact ⟨rfl, hbV⟩
theorem same_any : ∀ (k1 k2 : KindD) (w : World), IsKind (fun _ => True) w k1->IsKind (fun _ => True) w k2->pK k1 = pK k2 →
 Calls Tryz.prog 75 #[kindV k1, kindV k2] w fun e w' => e = .returned (.bool true)/\Below w.heap.size w w' := by
 refine KindD.ind (fun v l ih k2 w h h2 he => ?_)
 obtain ⟨v2, l2⟩ := k2
 obtain ⟨hr, hm, hall⟩ := h.parts
 obtain ⟨hr2, hm2, hall2⟩ := h2.parts
 rw [pureK_mk, pureK_mk] at he
 injection he with he
 obtain ⟨a, c, rfl, _⟩ := rSQ hr
 obtain ⟨a2, c2, rfl, _⟩ := rSQ hr2
 have hm' : l.length<=9223372036854775807 := by
  have : maxLen = 9223372036854775807 := by decide
  omega
 rw [show kindV (.mk (.slice a l.length c) l) = .agg #[.slice a l.length c] from rfl, show kindV (.mk (.slice a2 l2.length c2) l2) = .agg #[.slice a2 l2.length c2] from rfl]
 have hg1 := gAQ (w.alloc (.cells #[.slice a l.length c] 24)) (.cells #[.slice a2 l2.length c2] 24)
 have s1 : (w.alloc (.cells #[.slice a l.length c] 24)).heap.size = w.heap.size + 1 := by simp
 have gg := gBQ (gAQ w (.cells #[.slice a l.length c] 24)) hg1
 have c0 := cOQ ((hg1.block w.heap.size (by omega) (by nofun)).trans (nHQ w (.cells #[.slice a l.length c] 24)))
 have c1 : ((w.alloc (.cells #[.slice a l.length c] 24)).alloc (.cells #[.slice a2 l2.length c2] 24)).cell? ⟨w.heap.size + 1, 0, none⟩ = _ := cOQ ((congrArg _ s1.symm).trans (nHQ (w.alloc (.cells #[.slice a l.length c] 24)) (.cells #[.slice a2 l2.length c2] 24)))
 have HC := hJQ (eqfK_any _ _ l l2 _ (hr.grown gg (by nofun)) (hr2.grown gg (by nofun)) (fun y hy => (hall y hy).grown gg (by nofun)) (fun y hy => (hall2 y hy).grown gg (by nofun)) hm' he (fun y hy y2 W h1 h2 e => ih y hy y2 W h1 h2 e))
 have HB := hJQ (gUQ (B := w.heap.size) gg (Nat.le_refl _) (by nofun))
 clear hr hr2 hall hall2 ih h h2 hm hm2 he hg1 s1 gg
 go_enter Tryz.func75, Tryz.ntmps75
 go_wp2_with fail
 refine HC.out.mono ?_
 rintro e w2 ⟨rfl, hb2⟩
 have hbz := HB.out.trans (hb2.mono HB.out.size)
 clear HC
 go_wp2_with fail
 go_ret
 exact ⟨rfl, hbz⟩
theorem eqfC_any (v u : Value) (l l2 : List ConD) (w : World) (hr : RowP (fun _ => True) w v l.length (cCQ l)) (hr2 : RowP (fun _ => True) w u l2.length (cCQ l2)) (hall : ∀ y ∈ l, IsCon (fun _ => True) w y) (hall2 : ∀ y ∈ l2, IsCon (fun _ => True) w y) (hm : l.length<=9223372036854775807) (he : l.map pC = l2.map pC)
 (H : ∀ y ∈ l, ∀ (y2 : ConD) (W : World), IsCon (fun _ => True) W y->IsCon (fun _ => True) W y2->pC y = pC y2->Calls Tryz.prog 42 #[conV y, conV y2] W fun e w' => e = .returned (.bool true)/\Below W.heap.size W w') :
 Calls Tryz.prog 77 #[v, u, .func (.func 42) #[] #[]] w fun e w' => e = .returned (.bool true)/\Below w.heap.size w w' := by
 have hlen : l2.length = l.length := by have := congrArg List.length he; simpa using this.symm
 have HR := hJQ hr
 have HR2 := hJQ hr2
 have HA := hJQ hall
 have HA2 := hJQ hall2
 have HI := hJQ H
 have HE := hJQ he
 have HL := hJQ hlen
 obtain ⟨a, c, rfl, _⟩ := rSQ hr
 obtain ⟨a2, c2, rfl, _⟩ := rSQ hr2
 rw [hlen]
 clear hr hr2 hall hall2 H he hlen
 go_enter Tryz.func77, Tryz.ntmps77
 go_wp2_with fail
 go_loopw [17] (fun i wr => ∃ (j : Nat), j<=l.length/\i = .int .i64 j/\Below w.heap.size w wr) (fun i _ => l.length - (intOf i).toNat)
 case atStart => exact ⟨0, Nat.zero_le _, rfl, Below.refl _ _⟩
 case round =>
  rename World => V
  obtain ⟨j, hj, rfl, hbV⟩ := hrel
  by_cases hjl : j < l.length
  ·have HK : Hid (Kept (fun _ => True) w V) := Kept.of_below hbV
   obtain ⟨b, off, yop, yn, ys, yk, yns, yl, yka, ykn, ykc, yna, ync, ya, ycc, yfd, ybl, yq, yy, ymem, yv, yHT, y0, y1, y2, y3, y4, y5⟩ := part_at (HK.out.row HR.out) (fun y hy => HK.out.con (HA.out y hy)) j hjl
   obtain ⟨b2, off2, zop, zn, zs, zk, zns, zl, zka, zkn, zkc, zna, znc, za, zcc, zfd, zbl, zq, zy, zmem, zv, zHT, z0, z1, z2, z3, z4, z5⟩ := part_at (HK.out.row HR2.out) (fun y hy => HK.out.con (HA2.out y hy)) j (by rw [HL.out]; exact hjl)
   subst yfd
   subst zfd
   have hpe : pC (ConD.mk yop yn ys yk (.slice yna yns.length ync) yns (.slice ya yl.length ycc) yl) = pC (ConD.mk zop zn zs zk (.slice zna zns.length znc) zns (.slice za zl.length zcc) zl) := by
    have : (l.map pC).getD j default = (l2.map pC).getD j default := by rw [HE.out]
    rw [map_getD pC l j hjl, map_getD pC l2 j (by rw [HL.out]; exact hjl), yq, zq] at this
    exact this
   have g1 := gAQ V (.cells #[.int .i64 yop, .int .i64 yn, .string ys, .slice yka ykn ykc, .slice yna yns.length ync, .slice ya yl.length ycc] 28)
   have g2 := gAQ (V.alloc (.cells #[.int .i64 yop, .int .i64 yn, .string ys, .slice yka ykn ykc, .slice yna yns.length ync, .slice ya yl.length ycc] 28)) (.cells #[.int .i64 zop, .int .i64 zn, .string zs, .slice zka zkn zkc, .slice zna zns.length znc, .slice za zl.length zcc] 28)
   have hs1 : (V.alloc (.cells #[.int .i64 yop, .int .i64 yn, .string ys, .slice yka ykn ykc, .slice yna yns.length ync, .slice ya yl.length ycc] 28)).heap.size = V.heap.size + 1 := by simp
   have hbX : Below w.heap.size w ((V.alloc (.cells #[.int .i64 yop, .int .i64 yn, .string ys, .slice yka ykn ykc, .slice yna yns.length ync, .slice ya yl.length ycc] 28)).alloc (.cells #[.int .i64 zop, .int .i64 zn, .string zs, .slice zka zkn zkc, .slice zna zns.length znc, .slice za zl.length zcc] 28)) := (hbV.trans (gUQ g1 hbV.size (by nofun))).trans (gUQ g2 (by have := hbV.size; omega) (by nofun))
   have gg := gBQ g1 g2
   have ky := (g2.block V.heap.size (by omega) (by nofun)).trans (nHQ V (.cells #[.int .i64 yop, .int .i64 yn, .string ys, .slice yka ykn ykc, .slice yna yns.length ync, .slice ya yl.length ycc] 28))
   have kz : ((V.alloc (.cells #[.int .i64 yop, .int .i64 yn, .string ys, .slice yka ykn ykc, .slice yna yns.length ync, .slice ya yl.length ycc] 28)).alloc (.cells #[.int .i64 zop, .int .i64 zn, .string zs, .slice zka zkn zkc, .slice zna zns.length znc, .slice za zl.length zcc] 28)).heap[V.heap.size + 1]? = _ := (congrArg _ hs1.symm).trans (nHQ (V.alloc (.cells #[.int .i64 yop, .int .i64 yn, .string ys, .slice yka ykn ykc, .slice yna yns.length ync, .slice ya yl.length ycc] 28)) (.cells #[.int .i64 zop, .int .i64 zn, .string zs, .slice zka zkn zkc, .slice zna zns.length znc, .slice za zl.length zcc] 28))
   have HC := HI.out _ ymem (ConD.mk zop zn zs zk (.slice zna zns.length znc) zns (.slice za zl.length zcc) zl) _ (yy.grown gg (by nofun)) (zy.grown gg (by nofun)) hpe
   rw [yv, zv] at HC
   have HC := hJQ HC
   have HKY := hJQ ky
   have HKZ := hJQ kz
   have HBX := hJQ hbX
   have q0 := (World.cell?_of_block (a := ⟨b2, off2 + j * 6, none⟩) (g1.block b2 zbl (by nofun))).trans z0
   have q1 := (World.cell?_of_block (a := ⟨b2, off2 + j * 6 + 1, none⟩) (g1.block b2 zbl (by nofun))).trans z1
   have q2 := (World.cell?_of_block (a := ⟨b2, off2 + j * 6 + 2, none⟩) (g1.block b2 zbl (by nofun))).trans z2
   have q3 := (World.cell?_of_block (a := ⟨b2, off2 + j * 6 + 3, none⟩) (g1.block b2 zbl (by nofun))).trans z3
   have q4 := (World.cell?_of_block (a := ⟨b2, off2 + j * 6 + 4, none⟩) (g1.block b2 zbl (by nofun))).trans z4
   have q5 := (World.cell?_of_block (a := ⟨b2, off2 + j * 6 + 5, none⟩) (g1.block b2 zbl (by nofun))).trans z5
   clear g1 g2 gg ky kz hbX hpe yy zy ymem zmem yq zq yHT zHT hs1
   go_upto_region 7 with fail
   clear y0 y1 y2 y3 y4 y5 z0 z1 z2 z3 z4 z5 q0 q1 q2 q3 q4 q5
   generalize (V.alloc (.cells #[.int .i64 yop, .int .i64 yn, .string ys, .slice yka ykn ykc, .slice yna yns.length ync, .slice ya yl.length ycc] 28)).alloc (.cells #[.int .i64 zop, .int .i64 zn, .string zs, .slice zka zkn zkc, .slice zna zns.length znc, .slice za zl.length zcc] 28) = VX at *
   obtain ⟨y0, y1, y2, y3, y4, y5⟩ := cnQ HKY.out
   obtain ⟨z0, z1, z2, z3, z4, z5⟩ := cnQ HKZ.out
   go_wp2_with fail
   refine HC.out.mono ?_
   rintro e w9 ⟨rfl, hb9⟩
   have HB9 := hJQ (HBX.out.trans (hb9.mono HBX.out.size))
   clear hb9 HC HKY HKZ HBX
   go_wp2_with fail
   go_roundw
   case rel => exact ⟨j + 1, by omega, by go_num, HB9.out⟩
   case measure => simp [intOf]; omega
  ·obtain rfl : j = l.length := by omega
   go_wp2_with fail
   go_ret
   exact ⟨rfl, hbV⟩
theorem tequal_any : ∀ (d1 d2 : ConD) (w : World), IsCon (fun _ => True) w d1->IsCon (fun _ => True) w d2->pC d1 = pC d2 →
 Calls Tryz.prog 42 #[conV d1, conV d2] w fun e w' => e = .returned (.bool true)/\Below w.heap.size w w' := by
 refine ConD.ind (fun op n s k nv ns lv l ih d2 w h h2 he => ?_)
 obtain ⟨xop, xn, xs, xk, xnv, xns, xlv, xl⟩ := d2
 rw [pMQ, pMQ] at he
 injection he with e1 e2 e3 e4 e5 e6
 subst e1
 subst e2
 subst e3
 subst e5
 obtain ⟨ka, kc, kn, hks⟩ := iKQ h.parts.kind
 obtain ⟨na, nc, rfl, _⟩ := rSQ h.parts.names
 obtain ⟨a, c, rfl, _⟩ := rSQ h.parts.row
 obtain ⟨xka, xkc, xkn, xks⟩ := iKQ h2.parts.kind
 obtain ⟨xna, xnc, rfl, _⟩ := rSQ h2.parts.names
 obtain ⟨xa, xc, rfl, _⟩ := rSQ h2.parts.row
 rw [cVQ hks, cVQ xks]
 have hll : l.length<=9223372036854775807 := by have h1 := h.parts.llen; have : maxLen = 9223372036854775807 := (by decide); omega
 have hnn : ns.length<=9223372036854775807 := by have h1 := h.parts.nlen; have : maxLen = 9223372036854775807 := (by decide); omega
 have hg1 := gAQ (w.alloc (.cells #[.int .i64 op, .int .i64 n, .string s, .slice ka kn kc, .slice na ns.length nc, .slice a l.length c] 28)) (.cells #[.int .i64 op, .int .i64 n, .string s, .slice xka xkn xkc, .slice xna ns.length xnc, .slice xa xl.length xc] 28)
 have s1 : (w.alloc (.cells #[.int .i64 op, .int .i64 n, .string s, .slice ka kn kc, .slice na ns.length nc, .slice a l.length c] 28)).heap.size = w.heap.size + 1 := by simp
 have k0 := (hg1.block w.heap.size (by omega) (by nofun)).trans (nHQ w (.cells #[.int .i64 op, .int .i64 n, .string s, .slice ka kn kc, .slice na ns.length nc, .slice a l.length c] 28))
 have k1 : ((w.alloc (.cells #[.int .i64 op, .int .i64 n, .string s, .slice ka kn kc, .slice na ns.length nc, .slice a l.length c] 28)).alloc (.cells #[.int .i64 op, .int .i64 n, .string s, .slice xka xkn xkc, .slice xna ns.length xnc, .slice xa xl.length xc] 28)).heap[w.heap.size + 1]? = _ := (congrArg _ s1.symm).trans (nHQ (w.alloc (.cells #[.int .i64 op, .int .i64 n, .string s, .slice ka kn kc, .slice na ns.length nc, .slice a l.length c] 28)) (.cells #[.int .i64 op, .int .i64 n, .string s, .slice xka xkn xkc, .slice xna ns.length xnc, .slice xa xl.length xc] 28))
 have hbW := gUQ (B := w.heap.size) (gBQ (gAQ w (.cells #[.int .i64 op, .int .i64 n, .string s, .slice ka kn kc, .slice na ns.length nc, .slice a l.length c] 28)) hg1) (Nat.le_refl _) (by nofun)
 have HKd : Hid (∀ W, Below w.heap.size w W->Calls Tryz.prog 75 #[.agg #[.slice ka kn kc], .agg #[.slice xka xkn xkc]] W fun e w' => e = .returned (.bool true)/\Below W.heap.size W w') := fun W hW => by
  have := same_any k xk W (h.parts.kind.keep hW.size (fun b _ hlt => hW.block b hlt)) (h2.parts.kind.keep hW.size (fun b _ hlt => hW.block b hlt)) e4
  rw [show kindV k = .agg #[k.v] from rfl, show kindV xk = .agg #[xk.v] from rfl, hks, xks] at this
  exact this
 have HNm : Hid (∀ W, Below w.heap.size w W->Calls Tryz.prog 76 #[.slice na ns.length nc, .slice xna ns.length xnc] W fun e w' => e = .returned (.bool true)/\Below W.heap.size W w') := fun W hW => seqS_any _ _ _ _ ns W (rowP_below h.parts.names hW) (rowP_below h2.parts.names hW) hnn
 have HEf : Hid (∀ W, Below w.heap.size w W->Calls Tryz.prog 77 #[.slice a l.length c, .slice xa xl.length xc, .func (.func 42) #[] #[]] W fun e w' => e = .returned (.bool true)/\Below W.heap.size W w') := fun W hW => eqfC_any _ _ l xl W (rowP_below h.parts.row hW) (rowP_below h2.parts.row hW) (fun y hy => iBQ (h.parts.all y hy) hW) (fun y hy => iBQ (h2.parts.all y hy) hW) hll e6 (fun y hy y2 W h1 h2 e => ih y hy y2 W h1 h2 e)
 have hss : (s.toList == s.toList) = true := beq_self_eq_true _
 clear h h2 e4 e6 hks xks ih hg1 s1
 obtain ⟨c0, c1, c2, c3, c4, c5⟩ := cnQ k0
 obtain ⟨d0, d1, d2, d3, d4, d5⟩ := cnQ k1
 go_enter Tryz.func42, Tryz.ntmps42
 go_wp2_with fail
 have k0 := hJQ k0
 have k1 := hJQ k1
 refine (HKd.out _ hbW).mono ?_
 rintro e w2 ⟨rfl, hb2⟩
 have hbw2 := hbW.trans (hb2.mono hbW.size)
 have g0 := (hb2.block _ (hLQ k0.out)).trans k0.out
 have g1 := (hb2.block _ (hLQ k1.out)).trans k1.out
 clear c0 c1 c2 c3 c4 c5 d0 d1 d2 d3 d4 d5 HKd
 obtain ⟨c0, c1, c2, c3, c4, c5⟩ := cnQ g0
 obtain ⟨d0, d1, d2, d3, d4, d5⟩ := cnQ g1
 go_wp2_with fail
 refine (HNm.out _ hbw2).mono ?_
 rintro e w3 ⟨rfl, hb3⟩
 have hbw3 := hbw2.trans (hb3.mono hbw2.size)
 have q0 := (hb3.block _ (hLQ g0)).trans g0
 have q1 := (hb3.block _ (hLQ g1)).trans g1
 clear c0 c1 c2 c3 c4 c5 d0 d1 d2 d3 d4 d5 HNm g0 g1
 obtain ⟨c0, c1, c2, c3, c4, c5⟩ := cnQ q0
 obtain ⟨d0, d1, d2, d3, d4, d5⟩ := cnQ q1
 go_wp2_with fail
 refine (HEf.out _ hbw3).mono ?_
 rintro e w4 ⟨rfl, hb4⟩
 have hbz := hbw3.trans (hb4.mono hbw3.size)
 clear HEf
 go_wp2_with fail
 go_ret
 exact ⟨rfl, hbz⟩
end Go.Proofs.YtkiffgdinmpljaaGreatDoor
