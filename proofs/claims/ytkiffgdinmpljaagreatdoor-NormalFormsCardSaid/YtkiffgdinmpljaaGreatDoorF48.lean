/- The reference's Same of strings, SameKind, Same, at equal arguments. Printed by gen_rsame.py, expanded by mac.py. -/
import Derived.Test.YtkiffgdinmpljaaGreatDoorF37
import Derived.Test.YtkiffgdinmpljaaGreatDoorF8
set_option linter.unusedVariables false
set_option linter.unusedSimpArgs false
namespace Go.Proofs.YtkiffgdinmpljaaGreatDoor
open Go Go.RowKit
set_option maxHeartbeats 8000000
set_option maxRecDepth 100000
theorem row_cell {P : Nat->Prop} {w : World} {v : Value} {n : Nat} {xs : List Value} (h : RowP P w v n xs) (j : Nat) (hj : j < xs.length) (hn : 0 < n) : ∃ b off c, v = .slice (some ⟨b, off, none⟩) n c/\b < w.heap.size/\w.cell? ⟨b, off + j, none⟩ = some (xs.getD j undef) := by
 obtain ⟨a, c, rfl, hlc, hcell⟩ := h
 obtain ⟨b, off, rfl, hp, hlt, hc⟩ := hcell hn
 exact ⟨b, off, c, rfl, hlt, hc j hj⟩
theorem strCells_getD (l : List ByteArray) (j : Nat) (hj : j < l.length) : (strCells l).getD j undef = .string (l.getD j ⟨#[]⟩) := by
 unfold strCells; simp [List.getD, hj]
theorem rsameS_any (P Q : Nat->Prop) (v u : Value) (l : List ByteArray) (w : World) (h : RowP P w v l.length (strCells l)) (k : RowP Q w u l.length (strCells l)) (hl : l.length<=9223372036854775807) :
 Calls Tryz.prog 34 #[v, u] w fun e w' => e = .returned (.bool true)/\Below w.heap.size w w' := by
 have H := hJQ h
 have K0 := hJQ k
 obtain ⟨a, c, rfl, _⟩ := rSQ h
 obtain ⟨a2, c2, rfl, _⟩ := rSQ k
 clear h k
 go_enter Tryz.func34, Tryz.ntmps34
 go_wp2_with fail
 go_loopw [5] (fun i wr => ∃ (j : Nat), j<=l.length/\i = .int .i64 j/\Below w.heap.size w wr) (fun i _ => l.length - (intOf i).toNat)
 case atStart => exact ⟨0, Nat.zero_le _, rfl, Below.refl _ _⟩
 case round =>
  rename World => V
  obtain ⟨j, hj, rfl, hbV⟩ := hrel
  by_cases hjl : j < l.length
  ·obtain ⟨b, off, c', fd, hbl, e0⟩ := row_cell (rowP_below H.out hbV) j (by unfold strCells; rw [List.length_map]; exact hjl) (by omega)
   obtain ⟨b2, off2, c2', fd2, hbl2, e1⟩ := row_cell (rowP_below K0.out hbV) j (by unfold strCells; rw [List.length_map]; exact hjl) (by omega)
   obtain ⟨rfl, -⟩ := Value.slice.inj fd
   obtain ⟨rfl, -⟩ := Value.slice.inj fd2
   rw [strCells_getD l j hjl] at e0 e1
   generalize l.getD j ⟨#[]⟩ = x at *
   clear fd fd2
   go_upto_region 6 with fail
   have S0 : (fun w9 => w9.cell? ⟨b, off + j, none⟩ = some (.string x)/\w9.cell? ⟨b2, off2 + j, none⟩ = some (.string x)) V.drew := ⟨e0, e1⟩
   clear e0 e1
   refine wp_region_held_drew (S := (fun w9 => w9.cell? ⟨b, off + j, none⟩ = some (.string x)/\w9.cell? ⟨b2, off2 + j, none⟩ = some (.string x))) (by kernel_rfl) S0 (fun hHeld => ?_)
   refine tks (b := ?_) (by kernel_rfl) (fun _ _ _ _ _ h => h) S0 9 [0, 1, 2, 3, 4, 5, 6, 7, 8] (by kernel_rfl) ?_ ?_
   rotate_left
   ·iterate 9 (refine yc (v := ?_) rfl rfl (by rfl) (fun w9 hSw => ?_) ?_; rotate_left; (focus go_simp; try rfl); simp only [Act.put, List.setIfInBounds_toArray, List.set_cons_zero, List.set_cons_succ])
    exact rfl
   refine wpAnyH_done (by kernel_rfl) ?_ _
   have HB := hJQ (hbV.drew)
   clear hHeld S0
   go_wp2_with fail
   go_roundw
   case rel => exact ⟨j + 1, by omega, by go_num, HB.out⟩
   case measure => simp [intOf]; omega
  ·obtain rfl : j = l.length := by omega
   go_wp2_with fail
   go_ret
   exact ⟨rfl, hbV⟩
theorem kinds_len {l l2 : List KindD} (h : l.map pK = l2.map pK) : l2.length = l.length := by have := congrArg List.length h; simpa using this.symm
theorem rsameK_any : ∀ (k1 k2 : KindD) (w : World), IsKind (fun _ => True) w k1->IsKind (fun _ => True) w k2->pK k1 = pK k2 →
 Calls Tryz.prog 33 #[kindV k1, kindV k2] w fun e w' => e = .returned (.bool true)/\Below w.heap.size w w' := by
 refine KindD.ind (fun v l ih k2 w h h2 he => ?_)
 obtain ⟨v2, l2⟩ := k2
 obtain ⟨hr, hm, hall⟩ := h.parts
 obtain ⟨hr2, hm2, hall2⟩ := h2.parts
 rw [pureK_mk, pureK_mk] at he
 injection he with he
 have hlen := kinds_len he
 obtain ⟨a, c, rfl, _⟩ := rSQ hr
 obtain ⟨a2, c2, rfl, _⟩ := rSQ hr2
 have HR := hJQ hr
 have HR2 := hJQ hr2
 have HA := hJQ hall
 have HA2 := hJQ hall2
 have HI := hJQ ih
 have HE := hJQ he
 have HL := hJQ hlen
 have hm' : l.length<=9223372036854775807 := by
  have : maxLen = 9223372036854775807 := by decide
  omega
 rw [show kindV (.mk (.slice a l.length c) l) = .agg #[.slice a l.length c] from rfl, show kindV (.mk (.slice a2 l2.length c2) l2) = .agg #[.slice a2 l2.length c2] from rfl, hlen]
 have hg1 := gAQ (w.alloc (.cells #[.slice a l.length c] 24)) (.cells #[.slice a2 l.length c2] 24)
 have s1 : (w.alloc (.cells #[.slice a l.length c] 24)).heap.size = w.heap.size + 1 := by simp
 have k0 := (hg1.block w.heap.size (by omega) (by nofun)).trans (nHQ w (.cells #[.slice a l.length c] 24))
 have k1 : ((w.alloc (.cells #[.slice a l.length c] 24)).alloc (.cells #[.slice a2 l.length c2] 24)).heap[w.heap.size + 1]? = _ := (congrArg _ s1.symm).trans (nHQ (w.alloc (.cells #[.slice a l.length c] 24)) (.cells #[.slice a2 l.length c2] 24))
 have hbW := gUQ (B := w.heap.size) (gBQ (gAQ w (.cells #[.slice a l.length c] 24)) hg1) (Nat.le_refl _) (by nofun)
 clear hr hr2 hall hall2 ih h h2 hm hm2 he hg1 s1 hlen
 go_enter Tryz.func33, Tryz.ntmps33
 have c0 := cOQ k0
 have c1 := cOQ k1
 go_wp2_with fail
 generalize ((w.alloc (.cells #[.slice a l.length c] 24)).alloc (.cells #[.slice a2 l.length c2] 24)) = W at *
 clear c0 c1
 go_loopw [5] (fun i wr => ∃ (j : Nat), j<=l.length/\i = .int .i64 j/\Below W.heap.size W wr) (fun i _ => l.length - (intOf i).toNat)
 case atStart => exact ⟨0, Nat.zero_le _, rfl, Below.refl _ _⟩
 case round =>
  rename World => V
  obtain ⟨j, hj, rfl, hbV⟩ := hrel
  have hbwV := hbW.trans (hbV.mono hbW.size)
  have g0 := (hbV.block _ (hLQ k0)).trans k0
  have g1 := (hbV.block _ (hLQ k1)).trans k1
  have c0 := cOQ g0
  have c1 := cOQ g1
  by_cases hjl : j < l.length
  ·have HK : Hid (Kept (fun _ => True) w V) := Kept.of_below hbwV
   obtain ⟨b, off, m, l', ka, kc, fd, hbl, hq, hy, hmem, HT, e0⟩ := kind_at (HK.out.row HR.out) (fun y hy => HK.out.kind (HA.out y hy)) j hjl
   obtain ⟨b2, off2, m2, l2', ka2, kc2, fd2, hbl2, hq2, hy2, hmem2, HT2, e1⟩ := kind_at (HK.out.row HR2.out) (fun y hy => HK.out.kind (HA2.out y hy)) j (by rw [HL.out]; exact hjl)
   subst fd
   subst fd2
   have hpe : pK (.mk (.slice ka m kc) l') = pK (.mk (.slice ka2 m2 kc2) l2') := by
    have : (l.map pK).getD j default = (l2.map pK).getD j default := by rw [HE.out]
    rw [map_getD pK l j hjl, map_getD pK l2 j (by rw [HL.out]; exact hjl), hq, hq2] at this
    exact this
   have HC : Hid (∀ W9, Below V.heap.size V W9->Calls Tryz.prog 33 #[.agg #[.slice ka m kc], .agg #[.slice ka2 m2 kc2]] W9 fun e w' => e = .returned (.bool true)/\Below W9.heap.size W9 w') := fun W9 hW9 => by
    have := HI.out _ hmem (.mk (.slice ka2 m2 kc2) l2') W9 (hy.keep hW9.size (fun b _ hlt => hW9.block b hlt)) (hy2.keep hW9.size (fun b _ hlt => hW9.block b hlt)) hpe
    exact this
   have HSA : Hid (∀ W9, Below V.heap.size V W9->(fun w9 => w9.cell? ⟨w.heap.size, 0, none⟩ = some (.slice (some ⟨b, off, none⟩) l.length c)/\w9.cell? ⟨w.heap.size + 1, 0, none⟩ = some (.slice (some ⟨b2, off2, none⟩) l.length c2)/\w9.cell? ⟨b, off + j, none⟩ = some (.slice ka m kc)/\w9.cell? ⟨b2, off2 + j, none⟩ = some (.slice ka2 m2 kc2)) W9) := fun W9 hW9 => ⟨cOQ ((hW9.block _ (hLQ g0)).trans g0), cOQ ((hW9.block _ (hLQ g1)).trans g1), (World.cell?_of_block (a := ⟨b, off + j, none⟩) (hW9.block b hbl)).trans e0, (World.cell?_of_block (a := ⟨b2, off2 + j, none⟩) (hW9.block b2 hbl2)).trans e1⟩
   clear hy hy2 hmem hmem2 hq hq2 HT HT2 hpe
   go_upto_region 6 with fail
   have hbD : Below V.heap.size V V.drew := (Below.refl _ _).drew
   have S0 := HSA.out _ hbD
   clear c0 c1 e0 e1
   refine wp_region_held_drew (S := (fun w9 => w9.cell? ⟨w.heap.size, 0, none⟩ = some (.slice (some ⟨b, off, none⟩) l.length c)/\w9.cell? ⟨w.heap.size + 1, 0, none⟩ = some (.slice (some ⟨b2, off2, none⟩) l.length c2)/\w9.cell? ⟨b, off + j, none⟩ = some (.slice ka m kc)/\w9.cell? ⟨b2, off2 + j, none⟩ = some (.slice ka2 m2 kc2))) (by kernel_rfl) S0 (fun hHeld => ?_)
   refine tks (b := ?_) (by kernel_rfl) (fun _ _ _ _ _ h => h) S0 10 [0, 1, 2, 3, 4, 5, 6, 7, 8, 9] (by kernel_rfl) ?_ ?_
   rotate_left
   ·iterate 10 (refine yc (v := ?_) rfl rfl (by rfl) (fun w9 hSw => ?_) ?_; rotate_left; (focus go_simp; try rfl); simp only [Act.put, List.setIfInBounds_toArray, List.set_cons_zero, List.set_cons_succ])
    exact rfl
   refine rd1 10 (by kernel_rfl) (by rfl) (fun K hK => ?_)
   go_simp
   go_at_call 33
   refine (HC.out _ hbD).mono ?_
   rintro e w1 ⟨rfl, hb1⟩
   have hbV1 := hbD.trans (hb1.mono hbD.size)
   have S1 := HSA.out _ hbV1
   refine hK.out _ _ S1 (fun _ => ?_)
   clear hK K
   refine rd1 11 (by kernel_rfl) (by rfl) (fun K hK => ?_)
   go_simp
   refine hK.out _ _ S1 (fun _ => ?_)
   clear hK K
   refine wpAnyH_done (by kernel_rfl) ?_ _
   have HB2 := hJQ (hbV.trans (hbV1.mono hbV.size))
   clear hHeld S0 S1 HC HSA hb1 hbV1 hbD
   go_wp2_with fail
   go_roundw
   case rel => exact ⟨j + 1, by omega, by go_num, HB2.out⟩
   case measure => simp [intOf]; omega
  ·obtain rfl : j = l.length := by omega
   go_wp2_with fail
   go_ret
   exact ⟨rfl, hbwV⟩
theorem rsame_any : ∀ (d1 d2 : ConD) (w : World), IsCon (fun _ => True) w d1->IsCon (fun _ => True) w d2->pC d1 = pC d2 →
 Calls Tryz.prog 13 #[conV d1, conV d2] w fun e w' => e = .returned (.bool true)/\Below w.heap.size w w' := by
 refine ConD.ind (fun op n s k nv ns lv l ih d2 w h h2 he => ?_)
 obtain ⟨xop, xn, xs, xk, xnv, xns, xlv, xl⟩ := d2
 rw [pMQ, pMQ] at he
 injection he with e1 e2 e3 e4 e5 e6
 subst e1
 subst e2
 subst e3
 subst e5
 have hlen : xl.length = l.length := by have := congrArg List.length e6; simpa using this.symm
 obtain ⟨ka, kc, kn, hks⟩ := iKQ h.parts.kind
 obtain ⟨na, nc, rfl, _⟩ := rSQ h.parts.names
 obtain ⟨a, c, rfl, _⟩ := rSQ h.parts.row
 obtain ⟨xka, xkc, xkn, xks⟩ := iKQ h2.parts.kind
 obtain ⟨xna, xnc, rfl, _⟩ := rSQ h2.parts.names
 obtain ⟨xa, xc, rfl, _⟩ := rSQ h2.parts.row
 rw [cVQ hks, cVQ xks, hlen]
 have hll : l.length<=9223372036854775807 := by have h1 := h.parts.llen; have : maxLen = 9223372036854775807 := (by decide); omega
 have hnn : ns.length<=9223372036854775807 := by have h1 := h.parts.nlen; have : maxLen = 9223372036854775807 := (by decide); omega
 have hg1 := gAQ (w.alloc (.cells #[.int .i64 op, .int .i64 n, .string s, .slice ka kn kc, .slice na ns.length nc, .slice a l.length c] 28)) (.cells #[.int .i64 op, .int .i64 n, .string s, .slice xka xkn xkc, .slice xna ns.length xnc, .slice xa l.length xc] 28)
 have s1 : (w.alloc (.cells #[.int .i64 op, .int .i64 n, .string s, .slice ka kn kc, .slice na ns.length nc, .slice a l.length c] 28)).heap.size = w.heap.size + 1 := by simp
 have k0 := (hg1.block w.heap.size (by omega) (by nofun)).trans (nHQ w (.cells #[.int .i64 op, .int .i64 n, .string s, .slice ka kn kc, .slice na ns.length nc, .slice a l.length c] 28))
 have k1 : ((w.alloc (.cells #[.int .i64 op, .int .i64 n, .string s, .slice ka kn kc, .slice na ns.length nc, .slice a l.length c] 28)).alloc (.cells #[.int .i64 op, .int .i64 n, .string s, .slice xka xkn xkc, .slice xna ns.length xnc, .slice xa l.length xc] 28)).heap[w.heap.size + 1]? = _ := (congrArg _ s1.symm).trans (nHQ (w.alloc (.cells #[.int .i64 op, .int .i64 n, .string s, .slice ka kn kc, .slice na ns.length nc, .slice a l.length c] 28)) (.cells #[.int .i64 op, .int .i64 n, .string s, .slice xka xkn xkc, .slice xna ns.length xnc, .slice xa l.length xc] 28))
 have hbW := gUQ (B := w.heap.size) (gBQ (gAQ w (.cells #[.int .i64 op, .int .i64 n, .string s, .slice ka kn kc, .slice na ns.length nc, .slice a l.length c] 28)) hg1) (Nat.le_refl _) (by nofun)
 have HKd : Hid (∀ W, Below w.heap.size w W->Calls Tryz.prog 33 #[.agg #[.slice ka kn kc], .agg #[.slice xka xkn xkc]] W fun e w' => e = .returned (.bool true)/\Below W.heap.size W w') := fun W hW => by
  have := rsameK_any k xk W (h.parts.kind.keep hW.size (fun b _ hlt => hW.block b hlt)) (h2.parts.kind.keep hW.size (fun b _ hlt => hW.block b hlt)) e4
  rw [show kindV k = .agg #[k.v] from rfl, show kindV xk = .agg #[xk.v] from rfl, hks, xks] at this
  exact this
 have HNm : Hid (∀ W, Below w.heap.size w W->Calls Tryz.prog 34 #[.slice na ns.length nc, .slice xna ns.length xnc] W fun e w' => e = .returned (.bool true)/\Below W.heap.size W w') := fun W hW => rsameS_any _ _ _ _ ns W (rowP_below h.parts.names hW) (rowP_below h2.parts.names hW) hnn
 have HP := hJQ h.parts
 have HP2 := hJQ h2.parts
 have HE := hJQ e6
 have HL := hJQ hlen
 have HI := hJQ ih
 clear h h2 e4 e6 hlen hks xks ih hg1 s1
 obtain ⟨c0, c1, c2, c3, c4, c5⟩ := cnQ k0
 obtain ⟨d0, d1, d2, d3, d4, d5⟩ := cnQ k1
 go_enter Tryz.func13, Tryz.ntmps13
 go_wp2_with fail
 have k0 := hJQ k0
 have k1 := hJQ k1
 refine (HKd.out _ hbW).mono ?_
 rintro e w2 ⟨rfl, hb2⟩
 have hbw2 := hbW.trans (hb2.mono hbW.size)
 have g0 := (hb2.block _ (hLQ k0.out)).trans k0.out
 have g1 := (hb2.block _ (hLQ k1.out)).trans k1.out
 clear c0 c1 c2 c3 c4 c5 d0 d1 d2 d3 d4 d5 HKd
 obtain ⟨c0, c1, c2, c3, c4, c5⟩ := cnQ g0
 obtain ⟨d0, d1, d2, d3, d4, d5⟩ := cnQ g1
 go_wp2_with fail
 refine (HNm.out _ hbw2).mono ?_
 rintro e w3 ⟨rfl, hb3⟩
 have hbw3 := hbw2.trans (hb3.mono hbw2.size)
 have q0 := (hb3.block _ (hLQ g0)).trans g0
 have q1 := (hb3.block _ (hLQ g1)).trans g1
 clear c0 c1 c2 c3 c4 c5 d0 d1 d2 d3 d4 d5 HNm
 go_wp2_with fail
 go_loopw [5] (fun i wr => ∃ (j : Nat), j<=l.length/\i = .int .i64 j/\Below w3.heap.size w3 wr) (fun i _ => l.length - (intOf i).toNat)
 case atStart => exact ⟨0, Nat.zero_le _, rfl, Below.refl _ _⟩
 case round =>
  rename World => V
  obtain ⟨j, hj, rfl, hbV⟩ := hrel
  have hbwV := hbw3.trans (hbV.mono hbw3.size)
  have v0 := (hbV.block _ (hLQ q0)).trans q0
  have v1 := (hbV.block _ (hLQ q1)).trans q1
  obtain ⟨c0, c1, c2, c3, c4, c5⟩ := cnQ v0
  obtain ⟨d0, d1, d2, d3, d4, d5⟩ := cnQ v1
  by_cases hjl : j < l.length
  ·have HV : Hid (Kept (fun _ => True) w V) := Kept.of_below hbwV
   obtain ⟨b, off, yop, yn, ys, yk, yns, yl, yka, ykn, ykc, yna, ync, ya, ycc, yfd, ybl, yq, yy, ymem, yv, yHT, y0, y1, y2, y3, y4, y5⟩ := part_at (HV.out.row HP.out.row) (fun y hy => HV.out.con (HP.out.all y hy)) j hjl
   obtain ⟨b2, off2, zop, zn, zs, zk, zns, zl, zka, zkn, zkc, zna, znc, za, zcc, zfd, zbl, zq, zy, zmem, zv, zHT, z0, z1, z2, z3, z4, z5⟩ := part_at (HV.out.row HP2.out.row) (fun y hy => HV.out.con (HP2.out.all y hy)) j (by rw [HL.out]; exact hjl)
   subst yfd
   subst zfd
   have hpe : pC (.mk yop yn ys yk (.slice yna yns.length ync) yns (.slice ya yl.length ycc) yl) = pC (.mk zop zn zs zk (.slice zna zns.length znc) zns (.slice za zl.length zcc) zl) := by
    have : (l.map pC).getD j default = (xl.map pC).getD j default := by rw [HE.out]
    rw [map_getD pC l j hjl, map_getD pC xl j (by rw [HL.out]; exact hjl), yq, zq] at this
    exact this
   have HC : Hid (∀ W9, Below V.heap.size V W9->Calls Tryz.prog 13 #[.agg #[.int .i64 yop, .int .i64 yn, .string ys, .slice yka ykn ykc, .slice yna yns.length ync, .slice ya yl.length ycc], .agg #[.int .i64 zop, .int .i64 zn, .string zs, .slice zka zkn zkc, .slice zna zns.length znc, .slice za zl.length zcc]] W9 fun e w' => e = .returned (.bool true)/\Below W9.heap.size W9 w') := fun W9 hW9 => by
    have := HI.out _ ymem _ W9 (iBQ yy hW9) (iBQ zy hW9) hpe
    rw [yv, zv] at this
    exact this
   have HSA : Hid (∀ W9, Below V.heap.size V W9->(fun w9 => w9.cell? ⟨w.heap.size, 5, none⟩ = some (.slice (some ⟨b, off, none⟩) l.length c)/\w9.cell? ⟨w.heap.size + 1, 5, none⟩ = some (.slice (some ⟨b2, off2, none⟩) l.length xc)/\w9.cell? ⟨b, off + j * 6, none⟩ = some (.int .i64 yop)/\w9.cell? ⟨b, off + j * 6 + 1, none⟩ = some (.int .i64 yn)/\w9.cell? ⟨b, off + j * 6 + 2, none⟩ = some (.string ys)/\w9.cell? ⟨b, off + j * 6 + 3, none⟩ = some (.slice yka ykn ykc)/\w9.cell? ⟨b, off + j * 6 + 4, none⟩ = some (.slice yna yns.length ync)/\w9.cell? ⟨b, off + j * 6 + 5, none⟩ = some (.slice ya yl.length ycc)/\w9.cell? ⟨b2, off2 + j * 6, none⟩ = some (.int .i64 zop)/\w9.cell? ⟨b2, off2 + j * 6 + 1, none⟩ = some (.int .i64 zn)/\w9.cell? ⟨b2, off2 + j * 6 + 2, none⟩ = some (.string zs)/\w9.cell? ⟨b2, off2 + j * 6 + 3, none⟩ = some (.slice zka zkn zkc)/\w9.cell? ⟨b2, off2 + j * 6 + 4, none⟩ = some (.slice zna zns.length znc)/\w9.cell? ⟨b2, off2 + j * 6 + 5, none⟩ = some (.slice za zl.length zcc)) W9) := fun W9 hW9 => by
    have cy : ∀ (o : Nat) (v : Value), V.cell? ⟨b, o, none⟩ = some v->W9.cell? ⟨b, o, none⟩ = some v := fun o v hc => (World.cell?_of_block (a := ⟨b, o, none⟩) (hW9.block b ybl)).trans hc
    have cz : ∀ (o : Nat) (v : Value), V.cell? ⟨b2, o, none⟩ = some v->W9.cell? ⟨b2, o, none⟩ = some v := fun o v hc => (World.cell?_of_block (a := ⟨b2, o, none⟩) (hW9.block b2 zbl)).trans hc
    exact ⟨(cnQ ((hW9.block _ (hLQ v0)).trans v0)).2.2.2.2.2, (cnQ ((hW9.block _ (hLQ v1)).trans v1)).2.2.2.2.2, cy _ _ y0, cy _ _ y1, cy _ _ y2, cy _ _ y3, cy _ _ y4, cy _ _ y5, cz _ _ z0, cz _ _ z1, cz _ _ z2, cz _ _ z3, cz _ _ z4, cz _ _ z5⟩
   clear yy zy ymem zmem yq zq yHT zHT hpe yv zv
   go_upto_region 6 with fail
   have hbD : Below V.heap.size V V.drew := (Below.refl _ _).drew
   have S0 := HSA.out _ hbD
   clear c0 c1 c2 c3 c4 c5 d0 d1 d2 d3 d4 d5 y0 y1 y2 y3 y4 y5 z0 z1 z2 z3 z4 z5
   refine wp_region_held_drew (S := (fun w9 => w9.cell? ⟨w.heap.size, 5, none⟩ = some (.slice (some ⟨b, off, none⟩) l.length c)/\w9.cell? ⟨w.heap.size + 1, 5, none⟩ = some (.slice (some ⟨b2, off2, none⟩) l.length xc)/\w9.cell? ⟨b, off + j * 6, none⟩ = some (.int .i64 yop)/\w9.cell? ⟨b, off + j * 6 + 1, none⟩ = some (.int .i64 yn)/\w9.cell? ⟨b, off + j * 6 + 2, none⟩ = some (.string ys)/\w9.cell? ⟨b, off + j * 6 + 3, none⟩ = some (.slice yka ykn ykc)/\w9.cell? ⟨b, off + j * 6 + 4, none⟩ = some (.slice yna yns.length ync)/\w9.cell? ⟨b, off + j * 6 + 5, none⟩ = some (.slice ya yl.length ycc)/\w9.cell? ⟨b2, off2 + j * 6, none⟩ = some (.int .i64 zop)/\w9.cell? ⟨b2, off2 + j * 6 + 1, none⟩ = some (.int .i64 zn)/\w9.cell? ⟨b2, off2 + j * 6 + 2, none⟩ = some (.string zs)/\w9.cell? ⟨b2, off2 + j * 6 + 3, none⟩ = some (.slice zka zkn zkc)/\w9.cell? ⟨b2, off2 + j * 6 + 4, none⟩ = some (.slice zna zns.length znc)/\w9.cell? ⟨b2, off2 + j * 6 + 5, none⟩ = some (.slice za zl.length zcc))) (by kernel_rfl) S0 (fun hHeld => ?_)
   refine tks (b := ?_) (by kernel_rfl) (fun _ _ _ _ _ h => h) S0 10 [0, 1, 2, 3, 4, 5, 6, 7, 8, 9] (by kernel_rfl) ?_ ?_
   rotate_left
   ·iterate 10 (refine yc (v := ?_) rfl rfl (by rfl) (fun w9 hSw => ?_) ?_; rotate_left; (focus go_simp; try rfl); simp only [Act.put, List.setIfInBounds_toArray, List.set_cons_zero, List.set_cons_succ])
    exact rfl
   refine rd1 10 (by kernel_rfl) (by rfl) (fun K hK => ?_)
   go_simp
   go_at_call 13
   refine (HC.out _ hbD).mono ?_
   rintro e w1 ⟨rfl, hb1⟩
   have hbV1 := hbD.trans (hb1.mono hbD.size)
   have S1 := HSA.out _ hbV1
   refine hK.out _ _ S1 (fun _ => ?_)
   clear hK K
   refine rd1 11 (by kernel_rfl) (by rfl) (fun K hK => ?_)
   go_simp
   refine hK.out _ _ S1 (fun _ => ?_)
   clear hK K
   refine wpAnyH_done (by kernel_rfl) ?_ _
   have HB2 := hJQ (hbV.trans (hbV1.mono hbV.size))
   clear hHeld S0 S1 HC HSA hb1 hbV1 hbD
   go_wp2_with fail
   go_roundw
   case rel => exact ⟨j + 1, by omega, by go_num, HB2.out⟩
   case measure => simp [intOf]; omega
  ·obtain rfl : j = l.length := by omega
   go_wp2_with fail
   go_ret
   exact ⟨rfl, hbwV⟩
end Go.Proofs.YtkiffgdinmpljaaGreatDoor
