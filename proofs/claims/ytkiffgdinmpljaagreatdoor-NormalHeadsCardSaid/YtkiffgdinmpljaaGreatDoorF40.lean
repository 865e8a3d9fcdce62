/- The law's awake. Printed by gen_awake.py, expanded by mac.py. -/
import Derived.Test.YtkiffgdinmpljaaGreatDoorF32
import Derived.Test.YtkiffgdinmpljaaGreatDoorF39
set_option linter.unusedVariables false
set_option linter.unusedSimpArgs false
namespace Go.Proofs.YtkiffgdinmpljaaGreatDoor
open Go Go.RowKit
set_option maxHeartbeats 8000000
set_option maxRecDepth 100000
def leafD (op : Int) : ConD := .mk op 0 ⟨#[]⟩ (.mk (.slice none 0 0) []) (.slice none 0 0) [] (.slice none 0 0) []
theorem leafD_con (P : Nat->Prop) (w : World) (op : Int) : IsCon P w (leafD op) := .mk (kind_nil _ _) (RowP.nil _ _) (Nat.zero_le maxLen) (RowP.nil _ _) (Nat.zero_le maxLen) (fun y hy => by cases hy)
theorem leafD_pure (op : Int) : pC (leafD op) = leafN op := by unfold leafD; rw [pMQ, pureK_mk]; rfl
theorem two_con {w : World} {b : Nat} {cs : Array Value} {z : Nat × Nat} {x y : ConD} (op : Int) (h : w.heap[b]? = some (.cells cs 28 z)) (hc : cs.toList = cEQ x ++ cEQ y) (hx : IsCon (fun _ => True) w x) (hy : IsCon (fun _ => True) w y) :
 IsCon (fun _ => True) w (.mk op 0 ⟨#[]⟩ (.mk (.slice none 0 0) []) (.slice none 0 0) [] (.slice (some ⟨b, 0, none⟩) 2 2) [x, y]) := by
 refine IsCon.mk (kind_nil _ _) (RowP.nil _ _) (Nat.zero_le maxLen) ?_ (by show 2<=maxLen; decide) (fun u hu => ?_)
 ·have e : cCQ [x, y] = cEQ x ++ cEQ y := by simp [cCQ]
  rw [e]
  exact rHQ h trivial _ hc 2 2 (nLQ _)
 ·rcases List.mem_cons.1 hu with rfl | hu
  ·exact hx
  ·rw [List.mem_singleton.1 hu]; exact hy
theorem two_pure (op : Int) (v : Value) (x y : ConD) : pC (.mk op 0 ⟨#[]⟩ (.mk (.slice none 0 0) []) (.slice none 0 0) [] v [x, y]) = .mk op 0 ⟨#[]⟩ (.mk []) [] [pC x, pC y] := by rw [pMQ, pureK_mk]; rfl
theorem enc_sh {op n : Int} {s : ByteArray} {k : KindD} {nv lv : Value} {ns : List ByteArray} {l : List ConD} {v : Value} (h : k.v = v) : cEQ (.mk op n s k nv ns lv l) = [.int .i64 op, .int .i64 n, .string s, v, nv, lv] := by
 show [_, _, _, k.v, _, _] = _; rw [h]; rfl
theorem awake_any (w : World) (hE : EnvN w) : Calls Tryz.prog 6 #[] w fun e w' => e = .returned (.bool true)/\Below w.heap.size w w' := by
 have HE := hJQ hE
 have s0 : (w.alloc (.cells #[.int .i64 1, .int .i64 0, .string ⟨#[]⟩, .slice none 0 0, .slice none 0 0, .slice none 0 0] 28)).heap.size = w.heap.size + 1 := by simp
 have g1 := gAQ (w.alloc (.cells #[.int .i64 1, .int .i64 0, .string ⟨#[]⟩, .slice none 0 0, .slice none 0 0, .slice none 0 0] 28)) (.cells #[.int .i64 1, .int .i64 0, .string ⟨#[]⟩, .slice none 0 0, .slice none 0 0, .slice none 0 0, .int .i64 4, .int .i64 0, .string ⟨#[]⟩, .slice none 0 0, .slice none 0 0, .slice none 0 0] 28)
 have k1 := (g1.block w.heap.size (by omega) (by nofun)).trans (nHQ w (.cells #[.int .i64 1, .int .i64 0, .string ⟨#[]⟩, .slice none 0 0, .slice none 0 0, .slice none 0 0] 28))
 have kS : ((w.alloc (.cells #[.int .i64 1, .int .i64 0, .string ⟨#[]⟩, .slice none 0 0, .slice none 0 0, .slice none 0 0] 28)).alloc (.cells #[.int .i64 1, .int .i64 0, .string ⟨#[]⟩, .slice none 0 0, .slice none 0 0, .slice none 0 0, .int .i64 4, .int .i64 0, .string ⟨#[]⟩, .slice none 0 0, .slice none 0 0, .slice none 0 0] 28)).heap[w.heap.size + 1]? = _ := (congrArg _ s0.symm).trans (nHQ (w.alloc (.cells #[.int .i64 1, .int .i64 0, .string ⟨#[]⟩, .slice none 0 0, .slice none 0 0, .slice none 0 0] 28)) (.cells #[.int .i64 1, .int .i64 0, .string ⟨#[]⟩, .slice none 0 0, .slice none 0 0, .slice none 0 0, .int .i64 4, .int .i64 0, .string ⟨#[]⟩, .slice none 0 0, .slice none 0 0, .slice none 0 0] 28))
 have hbW := gUQ (B := w.heap.size) (gBQ (gAQ w (.cells #[.int .i64 1, .int .i64 0, .string ⟨#[]⟩, .slice none 0 0, .slice none 0 0, .slice none 0 0] 28)) g1) (nLQ _) (by nofun)
 have i1 : IsCon (fun _ => True) ((w.alloc (.cells #[.int .i64 1, .int .i64 0, .string ⟨#[]⟩, .slice none 0 0, .slice none 0 0, .slice none 0 0] 28)).alloc (.cells #[.int .i64 1, .int .i64 0, .string ⟨#[]⟩, .slice none 0 0, .slice none 0 0, .slice none 0 0, .int .i64 4, .int .i64 0, .string ⟨#[]⟩, .slice none 0 0, .slice none 0 0, .slice none 0 0] 28)) (ConD.mk 6 0 ⟨#[]⟩ (.mk (.slice none 0 0) []) (.slice none 0 0) [] (.slice (some ⟨w.heap.size + 1, 0, none⟩) 2 2) [(leafD 1), (leafD 4)]) := two_con 6 kS rfl (leafD_con _ _ _) (leafD_con _ _ _)
 have HLm := lam_any (ConD.mk 6 0 ⟨#[]⟩ (.mk (.slice none 0 0) []) (.slice none 0 0) [] (.slice (some ⟨w.heap.size + 1, 0, none⟩) 2 2) [(leafD 1), (leafD 4)]) ((w.alloc (.cells #[.int .i64 1, .int .i64 0, .string ⟨#[]⟩, .slice none 0 0, .slice none 0 0, .slice none 0 0] 28)).alloc (.cells #[.int .i64 1, .int .i64 0, .string ⟨#[]⟩, .slice none 0 0, .slice none 0 0, .slice none 0 0, .int .i64 4, .int .i64 0, .string ⟨#[]⟩, .slice none 0 0, .slice none 0 0, .slice none 0 0] 28)) i1
 have HLm := hJQ (show Calls Tryz.prog 20 #[.agg #[.int .i64 6, .int .i64 0, .string ⟨#[]⟩, .slice none 0 0, .slice none 0 0, .slice (some ⟨w.heap.size + 1, 0, none⟩) 2 2]] ((w.alloc (.cells #[.int .i64 1, .int .i64 0, .string ⟨#[]⟩, .slice none 0 0, .slice none 0 0, .slice none 0 0] 28)).alloc (.cells #[.int .i64 1, .int .i64 0, .string ⟨#[]⟩, .slice none 0 0, .slice none 0 0, .slice none 0 0, .int .i64 4, .int .i64 0, .string ⟨#[]⟩, .slice none 0 0, .slice none 0 0, .slice none 0 0] 28)) _ from HLm)
 obtain ⟨p0, p1, p2, p3, p4, p5⟩ := cnQ (nHQ w (.cells #[.int .i64 1, .int .i64 0, .string ⟨#[]⟩, .slice none 0 0, .slice none 0 0, .slice none 0 0] 28))
 have HK1 := hJQ k1
 have HBW := hJQ hbW
 clear g1 k1 kS hbW i1 hE
 go_enter Tryz.func6, Tryz.ntmps6
 go_wp2_with fail
 clear p0 p1 p2 p3 p4 p5 s0
 refine HLm.out.mono ?_
 rintro e w2 ⟨⟨dl, rfl, hdl, hpl⟩, hb2⟩
 obtain ⟨xop, xn, xs, xk, xns, xl, xka, xkn, xkc, xna, xnc, xa, xcc, rfl, hxk, _⟩ := cSQ hdl
 rw [show conV (ConD.mk xop xn xs xk (.slice xna xns.length xnc) xns (.slice xa xl.length xcc) xl) = .agg #[.int .i64 xop, .int .i64 xn, .string xs, .slice xka xkn xkc, .slice xna xns.length xnc, .slice xa xl.length xcc] from cVQ hxk]
 have henx : cEQ (ConD.mk xop xn xs xk (.slice xna xns.length xnc) xns (.slice xa xl.length xcc) xl) = [.int .i64 xop, .int .i64 xn, .string xs, .slice xka xkn xkc, .slice xna xns.length xnc, .slice xa xl.length xcc] := enc_sh hxk
 have k1 := (hb2.block _ (hLQ HK1.out)).trans HK1.out
 have hbw := HBW.out.trans (hb2.mono HBW.out.size)
 have g1 := gAQ w2 (.cells #[.int .i64 xop, .int .i64 xn, .string xs, .slice xka xkn xkc, .slice xna xns.length xnc, .slice xa xl.length xcc, .int .i64 5, .int .i64 0, .string ⟨#[]⟩, .slice none 0 0, .slice none 0 0, .slice none 0 0] 28)
 have g2 := gAQ (w2.alloc (.cells #[.int .i64 xop, .int .i64 xn, .string xs, .slice xka xkn xkc, .slice xna xns.length xnc, .slice xa xl.length xcc, .int .i64 5, .int .i64 0, .string ⟨#[]⟩, .slice none 0 0, .slice none 0 0, .slice none 0 0] 28)) (.cells #[.int .i64 12, .int .i64 0, .string ⟨#[]⟩, .slice none 0 0, .slice none 0 0, .slice (some ⟨w2.heap.size, 0, none⟩) 2 2] 28)
 have s1 : (w2.alloc (.cells #[.int .i64 xop, .int .i64 xn, .string xs, .slice xka xkn xkc, .slice xna xns.length xnc, .slice xa xl.length xcc, .int .i64 5, .int .i64 0, .string ⟨#[]⟩, .slice none 0 0, .slice none 0 0, .slice none 0 0] 28)).heap.size = w2.heap.size + 1 := by simp
 have kS := (g2.block w2.heap.size (by omega) (by nofun)).trans (nHQ w2 (.cells #[.int .i64 xop, .int .i64 xn, .string xs, .slice xka xkn xkc, .slice xna xns.length xnc, .slice xa xl.length xcc, .int .i64 5, .int .i64 0, .string ⟨#[]⟩, .slice none 0 0, .slice none 0 0, .slice none 0 0] 28))
 have gg := gBQ g1 g2
 have k2 : ((w2.alloc (.cells #[.int .i64 xop, .int .i64 xn, .string xs, .slice xka xkn xkc, .slice xna xns.length xnc, .slice xa xl.length xcc, .int .i64 5, .int .i64 0, .string ⟨#[]⟩, .slice none 0 0, .slice none 0 0, .slice none 0 0] 28)).alloc (.cells #[.int .i64 12, .int .i64 0, .string ⟨#[]⟩, .slice none 0 0, .slice none 0 0, .slice (some ⟨w2.heap.size, 0, none⟩) 2 2] 28)).heap[w2.heap.size + 1]? = _ := (congrArg _ s1.symm).trans (nHQ (w2.alloc (.cells #[.int .i64 xop, .int .i64 xn, .string xs, .slice xka xkn xkc, .slice xna xns.length xnc, .slice xa xl.length xcc, .int .i64 5, .int .i64 0, .string ⟨#[]⟩, .slice none 0 0, .slice none 0 0, .slice none 0 0] 28)) (.cells #[.int .i64 12, .int .i64 0, .string ⟨#[]⟩, .slice none 0 0, .slice none 0 0, .slice (some ⟨w2.heap.size, 0, none⟩) 2 2] 28))
 have k1 := (gg.block _ (hLQ k1) (by nofun)).trans k1
 have hsz := hbw.size
 have hbw := hbw.trans (gUQ (B := w.heap.size) gg hsz (by nofun))
 have i2 : IsCon (fun _ => True) ((w2.alloc (.cells #[.int .i64 xop, .int .i64 xn, .string xs, .slice xka xkn xkc, .slice xna xns.length xnc, .slice xa xl.length xcc, .int .i64 5, .int .i64 0, .string ⟨#[]⟩, .slice none 0 0, .slice none 0 0, .slice none 0 0] 28)).alloc (.cells #[.int .i64 12, .int .i64 0, .string ⟨#[]⟩, .slice none 0 0, .slice none 0 0, .slice (some ⟨w2.heap.size, 0, none⟩) 2 2] 28)) (ConD.mk 12 0 ⟨#[]⟩ (.mk (.slice none 0 0) []) (.slice none 0 0) [] (.slice (some ⟨w2.heap.size, 0, none⟩) 2 2) [(ConD.mk xop xn xs xk (.slice xna xns.length xnc) xns (.slice xa xl.length xcc) xl), (leafD 5)]) := two_con 12 kS (by rw [henx]; rfl) (hdl.grown gg (by nofun)) (leafD_con _ _ _)
 have hp2 : pC (ConD.mk 12 0 ⟨#[]⟩ (.mk (.slice none 0 0) []) (.slice none 0 0) [] (.slice (some ⟨w2.heap.size, 0, none⟩) 2 2) [(ConD.mk xop xn xs xk (.slice xna xns.length xnc) xns (.slice xa xl.length xcc) xl), (leafD 5)]) = exApp := by
  rw [two_pure, hpl, two_pure, leafD_pure, leafD_pure, leafD_pure]; rfl
 have HNm := normal_any (fun _ => True) (ConD.mk 12 0 ⟨#[]⟩ (.mk (.slice none 0 0) []) (.slice none 0 0) [] (.slice (some ⟨w2.heap.size, 0, none⟩) 2 2) [(ConD.mk xop xn xs xk (.slice xna xns.length xnc) xns (.slice xa xl.length xcc) xl), (leafD 5)]) ((w2.alloc (.cells #[.int .i64 xop, .int .i64 xn, .string xs, .slice xka xkn xkc, .slice xna xns.length xnc, .slice xa xl.length xcc, .int .i64 5, .int .i64 0, .string ⟨#[]⟩, .slice none 0 0, .slice none 0 0, .slice none 0 0] 28)).alloc (.cells #[.int .i64 12, .int .i64 0, .string ⟨#[]⟩, .slice none 0 0, .slice none 0 0, .slice (some ⟨w2.heap.size, 0, none⟩) 2 2] 28)) (HE.out.below hbw) i2 (by rw [hp2]; exact ex_bnd.1) (by rw [hp2]; decide)
 rw [hp2] at HNm
 have HNm := hJQ (show Calls Tryz.prog 8 #[.agg #[.int .i64 12, .int .i64 0, .string ⟨#[]⟩, .slice none 0 0, .slice none 0 0, .slice (some ⟨w2.heap.size, 0, none⟩) 2 2]] ((w2.alloc (.cells #[.int .i64 xop, .int .i64 xn, .string xs, .slice xka xkn xkc, .slice xna xns.length xnc, .slice xa xl.length xcc, .int .i64 5, .int .i64 0, .string ⟨#[]⟩, .slice none 0 0, .slice none 0 0, .slice none 0 0] 28)).alloc (.cells #[.int .i64 12, .int .i64 0, .string ⟨#[]⟩, .slice none 0 0, .slice none 0 0, .slice (some ⟨w2.heap.size, 0, none⟩) 2 2] 28)) _ from HNm)
 obtain ⟨p0, p1, p2, p3, p4, p5⟩ := cnQ k2
 have HK1b := hJQ k1
 have HK2 := hJQ k2
 have HI2 := hJQ (show IsCon (fun _ => True) ((w2.alloc (.cells #[.int .i64 xop, .int .i64 xn, .string xs, .slice xka xkn xkc, .slice xna xns.length xnc, .slice xa xl.length xcc, .int .i64 5, .int .i64 0, .string ⟨#[]⟩, .slice none 0 0, .slice none 0 0, .slice none 0 0] 28)).alloc (.cells #[.int .i64 12, .int .i64 0, .string ⟨#[]⟩, .slice none 0 0, .slice none 0 0, .slice (some ⟨w2.heap.size, 0, none⟩) 2 2] 28)) (ConD.mk 12 0 ⟨#[]⟩ (.mk (.slice none 0 0) []) (.slice none 0 0) [] (.slice (some ⟨w2.heap.size, 0, none⟩) 2 2) [(ConD.mk xop xn xs xk (.slice xna xns.length xnc) xns (.slice xa xl.length xcc) xl), (leafD 5)])/\pC (ConD.mk 12 0 ⟨#[]⟩ (.mk (.slice none 0 0) []) (.slice none 0 0) [] (.slice (some ⟨w2.heap.size, 0, none⟩) 2 2) [(ConD.mk xop xn xs xk (.slice xna xns.length xnc) xns (.slice xa xl.length xcc) xl), (leafD 5)]) = exApp from ⟨i2, hp2⟩)
 have HB3 := hJQ hbw
 clear g1 g2 s1 kS gg k2 k1 hbw i2 hp2 hdl hpl hxk henx hb2 HK1 HBW HLm hsz
 go_wp2_with fail
 clear p0 p1 p2 p3 p4 p5
 generalize ((w2.alloc (.cells #[.int .i64 xop, .int .i64 xn, .string xs, .slice xka xkn xkc, .slice xna xns.length xnc, .slice xa xl.length xcc, .int .i64 5, .int .i64 0, .string ⟨#[]⟩, .slice none 0 0, .slice none 0 0, .slice none 0 0] 28)).alloc (.cells #[.int .i64 12, .int .i64 0, .string ⟨#[]⟩, .slice none 0 0, .slice none 0 0, .slice (some ⟨w2.heap.size, 0, none⟩) 2 2] 28)) = V3 at *
 refine HNm.out.mono ?_
 rintro e w4 ⟨dn, er, rfl, hdn, hb4, _, _, hyes⟩
 obtain ⟨hpn, rfl⟩ := hyes ex_val.1 _ _ ex_tame
 obtain ⟨zop, zn, zs, zk, zns, zl, zka, zkn, zkc, zna, znc, za, zcc, rfl, hzk, _⟩ := cSQ hdn
 rw [show conV (ConD.mk zop zn zs zk (.slice zna zns.length znc) zns (.slice za zl.length zcc) zl) = .agg #[.int .i64 zop, .int .i64 zn, .string zs, .slice zka zkn zkc, .slice zna zns.length znc, .slice za zl.length zcc] from cVQ hzk]
 have HNV : Hid (conV (ConD.mk zop zn zs zk (.slice zna zns.length znc) zns (.slice za zl.length zcc) zl) = .agg #[.int .i64 zop, .int .i64 zn, .string zs, .slice zka zkn zkc, .slice zna zns.length znc, .slice za zl.length zcc]) := cVQ hzk
 have g1 := gAQ w4 (.cells #[.int .i64 zop, .int .i64 zn, .string zs, .slice zka zkn zkc, .slice zna zns.length znc, .slice za zl.length zcc] 28)
 have k1 := (g1.block _ (hLQ ((hb4.block _ (hLQ HK1b.out)).trans HK1b.out)) (by nofun)).trans ((hb4.block _ (hLQ HK1b.out)).trans HK1b.out)
 have k2 := (g1.block _ (hLQ ((hb4.block _ (hLQ HK2.out)).trans HK2.out)) (by nofun)).trans ((hb4.block _ (hLQ HK2.out)).trans HK2.out)
 have k3 := nHQ w4 (.cells #[.int .i64 zop, .int .i64 zn, .string zs, .slice zka zkn zkc, .slice zna zns.length znc, .slice za zl.length zcc] 28)
 have hbw4 := HB3.out.trans (hb4.mono HB3.out.size)
 have hbw := hbw4.trans (gUQ (B := w.heap.size) g1 hbw4.size (by nofun))
 have i2 := (iBQ HI2.out.1 hb4).grown g1 (by nofun)
 have i3 := (hdn.mono (Q := (fun _ => True)) (fun _ _ _ => trivial)).grown g1 (by nofun)
 have HTx := textEx_any (fun _ => True) (ConD.mk zop zn zs zk (.slice zna zns.length znc) zns (.slice za zl.length zcc) zl) (w4.alloc (.cells #[.int .i64 zop, .int .i64 zn, .string zs, .slice zka zkn zkc, .slice zna zns.length znc, .slice za zl.length zcc] 28)) (HE.out.below hbw) i3 hpn
 rw [HNV.out, show (⟨exL.toArray⟩ : ByteArray) = ⟨#[40, 116, 101, 120, 116, 32, 45, 62, 32, 105, 110, 116, 41]⟩ from rfl] at HTx
 have HTx := hJQ HTx
 obtain ⟨p0, p1, p2, p3, p4, p5⟩ := cnQ k3
 have HK1c := hJQ k1
 have HK2c := hJQ k2
 have HK3 := hJQ k3
 have HI2c := hJQ (show IsCon (fun _ => True) (w4.alloc (.cells #[.int .i64 zop, .int .i64 zn, .string zs, .slice zka zkn zkc, .slice zna zns.length znc, .slice za zl.length zcc] 28)) (ConD.mk 12 0 ⟨#[]⟩ (.mk (.slice none 0 0) []) (.slice none 0 0) [] (.slice (some ⟨w2.heap.size, 0, none⟩) 2 2) [(ConD.mk xop xn xs xk (.slice xna xns.length xnc) xns (.slice xa xl.length xcc) xl), (leafD 5)])/\pC (ConD.mk 12 0 ⟨#[]⟩ (.mk (.slice none 0 0) []) (.slice none 0 0) [] (.slice (some ⟨w2.heap.size, 0, none⟩) 2 2) [(ConD.mk xop xn xs xk (.slice xna xns.length xnc) xns (.slice xa xl.length xcc) xl), (leafD 5)]) = exApp from ⟨i2, HI2.out.2⟩)
 have HI3 := hJQ (show IsCon (fun _ => True) (w4.alloc (.cells #[.int .i64 zop, .int .i64 zn, .string zs, .slice zka zkn zkc, .slice zna zns.length znc, .slice za zl.length zcc] 28)) (ConD.mk zop zn zs zk (.slice zna zns.length znc) zns (.slice za zl.length zcc) zl)/\pC (ConD.mk zop zn zs zk (.slice zna zns.length znc) zns (.slice za zl.length zcc) zl) = exArrow from ⟨i3, hpn⟩)
 have HB5 := hJQ hbw
 clear g1 k1 k2 k3 hbw hbw4 i2 i3 hdn hpn hyes hzk hb4 HK1b HK2 HI2 HB3 HNm
 go_wp2_with fail
 clear p0 p1 p2 p3 p4 p5
 generalize w4.alloc (.cells #[.int .i64 zop, .int .i64 zn, .string zs, .slice zka zkn zkc, .slice zna zns.length znc, .slice za zl.length zcc] 28) = V5 at *
 refine HTx.out.mono ?_
 rintro e w6 ⟨rfl, hb6⟩
 have g1 := gAQ w6 (.cells #[.slice none 0 0, .slice none 0 0] 24)
 have g2 := gAQ (w6.alloc (.cells #[.slice none 0 0, .slice none 0 0] 24)) (.cells #[.int .i64 2, .int .i64 0, .string ⟨#[65, 46, 49]⟩, .slice (some ⟨w6.heap.size, 0, none⟩) 2 2, .slice none 0 0, .slice none 0 0] 28)
 have g3 := gAQ ((w6.alloc (.cells #[.slice none 0 0, .slice none 0 0] 24)).alloc (.cells #[.int .i64 2, .int .i64 0, .string ⟨#[65, 46, 49]⟩, .slice (some ⟨w6.heap.size, 0, none⟩) 2 2, .slice none 0 0, .slice none 0 0] 28)) (.cells #[.int .i64 2, .int .i64 0, .string ⟨#[65, 46, 49]⟩, .slice (some ⟨w6.heap.size, 0, none⟩) 2 2, .slice none 0 0, .slice none 0 0, .int .i64 1, .int .i64 0, .string ⟨#[]⟩, .slice none 0 0, .slice none 0 0, .slice none 0 0] 28)
 have s1 : (w6.alloc (.cells #[.slice none 0 0, .slice none 0 0] 24)).heap.size = w6.heap.size + 1 := by simp
 have s2 : ((w6.alloc (.cells #[.slice none 0 0, .slice none 0 0] 24)).alloc (.cells #[.int .i64 2, .int .i64 0, .string ⟨#[65, 46, 49]⟩, .slice (some ⟨w6.heap.size, 0, none⟩) 2 2, .slice none 0 0, .slice none 0 0] 28)).heap.size = w6.heap.size + 2 := by simp
 have k1 := (hb6.block _ (hLQ HK1c.out)).trans HK1c.out
 have k2 := (hb6.block _ (hLQ HK2c.out)).trans HK2c.out
 have k3 := (hb6.block _ (hLQ HK3.out)).trans HK3.out
 have gg := gBQ g1 g2
 have k1 := (gg.block _ (hLQ k1) (by nofun)).trans k1
 have k2 := (gg.block _ (hLQ k2) (by nofun)).trans k2
 have k3 := (gg.block _ (hLQ k3) (by nofun)).trans k3
 have kK := (g2.block w6.heap.size (by omega) (by nofun)).trans (nHQ w6 (.cells #[.slice none 0 0, .slice none 0 0] 24))
 have k7 : ((w6.alloc (.cells #[.slice none 0 0, .slice none 0 0] 24)).alloc (.cells #[.int .i64 2, .int .i64 0, .string ⟨#[65, 46, 49]⟩, .slice (some ⟨w6.heap.size, 0, none⟩) 2 2, .slice none 0 0, .slice none 0 0] 28)).heap[w6.heap.size + 1]? = _ := (congrArg _ s1.symm).trans (nHQ (w6.alloc (.cells #[.slice none 0 0, .slice none 0 0] 24)) (.cells #[.int .i64 2, .int .i64 0, .string ⟨#[65, 46, 49]⟩, .slice (some ⟨w6.heap.size, 0, none⟩) 2 2, .slice none 0 0, .slice none 0 0] 28))
 have kS : (((w6.alloc (.cells #[.slice none 0 0, .slice none 0 0] 24)).alloc (.cells #[.int .i64 2, .int .i64 0, .string ⟨#[65, 46, 49]⟩, .slice (some ⟨w6.heap.size, 0, none⟩) 2 2, .slice none 0 0, .slice none 0 0] 28)).alloc (.cells #[.int .i64 2, .int .i64 0, .string ⟨#[65, 46, 49]⟩, .slice (some ⟨w6.heap.size, 0, none⟩) 2 2, .slice none 0 0, .slice none 0 0, .int .i64 1, .int .i64 0, .string ⟨#[]⟩, .slice none 0 0, .slice none 0 0, .slice none 0 0] 28)).heap[w6.heap.size + 2]? = _ := (congrArg _ s2.symm).trans (nHQ ((w6.alloc (.cells #[.slice none 0 0, .slice none 0 0] 24)).alloc (.cells #[.int .i64 2, .int .i64 0, .string ⟨#[65, 46, 49]⟩, .slice (some ⟨w6.heap.size, 0, none⟩) 2 2, .slice none 0 0, .slice none 0 0] 28)) (.cells #[.int .i64 2, .int .i64 0, .string ⟨#[65, 46, 49]⟩, .slice (some ⟨w6.heap.size, 0, none⟩) 2 2, .slice none 0 0, .slice none 0 0, .int .i64 1, .int .i64 0, .string ⟨#[]⟩, .slice none 0 0, .slice none 0 0, .slice none 0 0] 28))
 have hbw6 := HB5.out.trans (hb6.mono HB5.out.size)
 have hbw7 := hbw6.trans (gUQ (B := w.heap.size) gg hbw6.size (by nofun))
 have hbw := hbw7.trans (gUQ (B := w.heap.size) g3 hbw7.size (by nofun))
 have i7 : IsCon (fun _ => True) ((w6.alloc (.cells #[.slice none 0 0, .slice none 0 0] 24)).alloc (.cells #[.int .i64 2, .int .i64 0, .string ⟨#[65, 46, 49]⟩, .slice (some ⟨w6.heap.size, 0, none⟩) 2 2, .slice none 0 0, .slice none 0 0] 28)) (ConD.mk 2 0 ⟨#[65, 46, 49]⟩ (.mk (.slice (some ⟨w6.heap.size, 0, none⟩) 2 2) [.mk (.slice none 0 0) [], .mk (.slice none 0 0) []]) (.slice none 0 0) [] (.slice none 0 0) []) := by
  refine IsCon.mk (IsKind.mk ?_ (by show 2<=maxLen; decide) (fun y hy => ?_)) (RowP.nil _ _) (Nat.zero_le maxLen) (RowP.nil _ _) (Nat.zero_le maxLen) (fun y hy => by cases hy)
  ·exact rHQ kK trivial _ rfl 2 2 (nLQ _)
  ·have : y = .mk (.slice none 0 0) [] := by
    rcases List.mem_cons.1 hy with rfl | hy
    ·rfl
    ·exact List.mem_singleton.1 hy
   rw [this]; exact kind_nil _ _
 have hp7 : pC (ConD.mk 2 0 ⟨#[65, 46, 49]⟩ (.mk (.slice (some ⟨w6.heap.size, 0, none⟩) 2 2) [.mk (.slice none 0 0) [], .mk (.slice none 0 0) []]) (.slice none 0 0) [] (.slice none 0 0) []) = exA := by rw [pMQ, pureK_mk]; simp only [List.map_cons, List.map_nil, pureK_mk]; rfl
 have iA : IsCon (fun _ => True) (((w6.alloc (.cells #[.slice none 0 0, .slice none 0 0] 24)).alloc (.cells #[.int .i64 2, .int .i64 0, .string ⟨#[65, 46, 49]⟩, .slice (some ⟨w6.heap.size, 0, none⟩) 2 2, .slice none 0 0, .slice none 0 0] 28)).alloc (.cells #[.int .i64 2, .int .i64 0, .string ⟨#[65, 46, 49]⟩, .slice (some ⟨w6.heap.size, 0, none⟩) 2 2, .slice none 0 0, .slice none 0 0, .int .i64 1, .int .i64 0, .string ⟨#[]⟩, .slice none 0 0, .slice none 0 0, .slice none 0 0] 28)) (ConD.mk 12 0 ⟨#[]⟩ (.mk (.slice none 0 0) []) (.slice none 0 0) [] (.slice (some ⟨w6.heap.size + 2, 0, none⟩) 2 2) [(ConD.mk 2 0 ⟨#[65, 46, 49]⟩ (.mk (.slice (some ⟨w6.heap.size, 0, none⟩) 2 2) [.mk (.slice none 0 0) [], .mk (.slice none 0 0) []]) (.slice none 0 0) [] (.slice none 0 0) []), (leafD 1)]) := two_con 12 kS rfl (i7.grown g3 (by nofun)) (leafD_con _ _ _)
 have HLm := hJQ (show Calls Tryz.prog 20 #[.agg #[.int .i64 12, .int .i64 0, .string ⟨#[]⟩, .slice none 0 0, .slice none 0 0, .slice (some ⟨w6.heap.size + 2, 0, none⟩) 2 2]] (((w6.alloc (.cells #[.slice none 0 0, .slice none 0 0] 24)).alloc (.cells #[.int .i64 2, .int .i64 0, .string ⟨#[65, 46, 49]⟩, .slice (some ⟨w6.heap.size, 0, none⟩) 2 2, .slice none 0 0, .slice none 0 0] 28)).alloc (.cells #[.int .i64 2, .int .i64 0, .string ⟨#[65, 46, 49]⟩, .slice (some ⟨w6.heap.size, 0, none⟩) 2 2, .slice none 0 0, .slice none 0 0, .int .i64 1, .int .i64 0, .string ⟨#[]⟩, .slice none 0 0, .slice none 0 0, .slice none 0 0] 28)) _ from lam_any (ConD.mk 12 0 ⟨#[]⟩ (.mk (.slice none 0 0) []) (.slice none 0 0) [] (.slice (some ⟨w6.heap.size + 2, 0, none⟩) 2 2) [(ConD.mk 2 0 ⟨#[65, 46, 49]⟩ (.mk (.slice (some ⟨w6.heap.size, 0, none⟩) 2 2) [.mk (.slice none 0 0) [], .mk (.slice none 0 0) []]) (.slice none 0 0) [] (.slice none 0 0) []), (leafD 1)]) (((w6.alloc (.cells #[.slice none 0 0, .slice none 0 0] 24)).alloc (.cells #[.int .i64 2, .int .i64 0, .string ⟨#[65, 46, 49]⟩, .slice (some ⟨w6.heap.size, 0, none⟩) 2 2, .slice none 0 0, .slice none 0 0] 28)).alloc (.cells #[.int .i64 2, .int .i64 0, .string ⟨#[65, 46, 49]⟩, .slice (some ⟨w6.heap.size, 0, none⟩) 2 2, .slice none 0 0, .slice none 0 0, .int .i64 1, .int .i64 0, .string ⟨#[]⟩, .slice none 0 0, .slice none 0 0, .slice none 0 0] 28)) iA)
 have hpA : pC (ConD.mk 12 0 ⟨#[]⟩ (.mk (.slice none 0 0) []) (.slice none 0 0) [] (.slice (some ⟨w6.heap.size + 2, 0, none⟩) 2 2) [(ConD.mk 2 0 ⟨#[65, 46, 49]⟩ (.mk (.slice (some ⟨w6.heap.size, 0, none⟩) 2 2) [.mk (.slice none 0 0) [], .mk (.slice none 0 0) []]) (.slice none 0 0) [] (.slice none 0 0) []), (leafD 1)]) = appN exA (leafN 1) := by rw [two_pure, hp7, leafD_pure]; rfl
 have HPA := hJQ hpA
 have i2 := (iBQ HI2c.out.1 hb6).grown gg (by nofun)
 have i3 := (iBQ HI3.out.1 hb6).grown gg (by nofun)
 have HK1d := hJQ ((g3.block _ (hLQ k1) (by nofun)).trans k1)
 have HK2d := hJQ ((g3.block _ (hLQ k2) (by nofun)).trans k2)
 have HK3d := hJQ ((g3.block _ (hLQ k3) (by nofun)).trans k3)
 have HK7d := hJQ ((g3.block _ (hLQ k7) (by nofun)).trans k7)
 have HI2d := hJQ (show IsCon (fun _ => True) (((w6.alloc (.cells #[.slice none 0 0, .slice none 0 0] 24)).alloc (.cells #[.int .i64 2, .int .i64 0, .string ⟨#[65, 46, 49]⟩, .slice (some ⟨w6.heap.size, 0, none⟩) 2 2, .slice none 0 0, .slice none 0 0] 28)).alloc (.cells #[.int .i64 2, .int .i64 0, .string ⟨#[65, 46, 49]⟩, .slice (some ⟨w6.heap.size, 0, none⟩) 2 2, .slice none 0 0, .slice none 0 0, .int .i64 1, .int .i64 0, .string ⟨#[]⟩, .slice none 0 0, .slice none 0 0, .slice none 0 0] 28)) (ConD.mk 12 0 ⟨#[]⟩ (.mk (.slice none 0 0) []) (.slice none 0 0) [] (.slice (some ⟨w2.heap.size, 0, none⟩) 2 2) [(ConD.mk xop xn xs xk (.slice xna xns.length xnc) xns (.slice xa xl.length xcc) xl), (leafD 5)])/\pC (ConD.mk 12 0 ⟨#[]⟩ (.mk (.slice none 0 0) []) (.slice none 0 0) [] (.slice (some ⟨w2.heap.size, 0, none⟩) 2 2) [(ConD.mk xop xn xs xk (.slice xna xns.length xnc) xns (.slice xa xl.length xcc) xl), (leafD 5)]) = exApp from ⟨i2.grown g3 (by nofun), HI2c.out.2⟩)
 have HI3d := hJQ (show IsCon (fun _ => True) (((w6.alloc (.cells #[.slice none 0 0, .slice none 0 0] 24)).alloc (.cells #[.int .i64 2, .int .i64 0, .string ⟨#[65, 46, 49]⟩, .slice (some ⟨w6.heap.size, 0, none⟩) 2 2, .slice none 0 0, .slice none 0 0] 28)).alloc (.cells #[.int .i64 2, .int .i64 0, .string ⟨#[65, 46, 49]⟩, .slice (some ⟨w6.heap.size, 0, none⟩) 2 2, .slice none 0 0, .slice none 0 0, .int .i64 1, .int .i64 0, .string ⟨#[]⟩, .slice none 0 0, .slice none 0 0, .slice none 0 0] 28)) (ConD.mk zop zn zs zk (.slice zna zns.length znc) zns (.slice za zl.length zcc) zl)/\pC (ConD.mk zop zn zs zk (.slice zna zns.length znc) zns (.slice za zl.length zcc) zl) = exArrow from ⟨i3.grown g3 (by nofun), HI3.out.2⟩)
 have HI7d := hJQ (show IsCon (fun _ => True) (((w6.alloc (.cells #[.slice none 0 0, .slice none 0 0] 24)).alloc (.cells #[.int .i64 2, .int .i64 0, .string ⟨#[65, 46, 49]⟩, .slice (some ⟨w6.heap.size, 0, none⟩) 2 2, .slice none 0 0, .slice none 0 0] 28)).alloc (.cells #[.int .i64 2, .int .i64 0, .string ⟨#[65, 46, 49]⟩, .slice (some ⟨w6.heap.size, 0, none⟩) 2 2, .slice none 0 0, .slice none 0 0, .int .i64 1, .int .i64 0, .string ⟨#[]⟩, .slice none 0 0, .slice none 0 0, .slice none 0 0] 28)) (ConD.mk 2 0 ⟨#[65, 46, 49]⟩ (.mk (.slice (some ⟨w6.heap.size, 0, none⟩) 2 2) [.mk (.slice none 0 0) [], .mk (.slice none 0 0) []]) (.slice none 0 0) [] (.slice none 0 0) [])/\pC (ConD.mk 2 0 ⟨#[65, 46, 49]⟩ (.mk (.slice (some ⟨w6.heap.size, 0, none⟩) 2 2) [.mk (.slice none 0 0) [], .mk (.slice none 0 0) []]) (.slice none 0 0) [] (.slice none 0 0) []) = exA from ⟨i7.grown g3 (by nofun), hp7⟩)
 have HB8 := hJQ hbw
 obtain ⟨p0, p1, p2, p3, p4, p5⟩ := cnQ k1
 obtain ⟨q0, q1, q2, q3, q4, q5⟩ := cnQ k7
 have HS2 := hJQ s2
 clear g1 g2 g3 s1 s2 k1 k2 k3 gg kK k7 kS hbw6 hbw7 hbw i7 hp7 iA hpA i2 i3 hb6 HK1c HK2c HK3 HI2c HI3 HB5 HTx
 go_wp2_with fail
 clear p0 p1 p2 p3 p4 p5 q0 q1 q2 q3 q4 q5
 generalize (((w6.alloc (.cells #[.slice none 0 0, .slice none 0 0] 24)).alloc (.cells #[.int .i64 2, .int .i64 0, .string ⟨#[65, 46, 49]⟩, .slice (some ⟨w6.heap.size, 0, none⟩) 2 2, .slice none 0 0, .slice none 0 0] 28)).alloc (.cells #[.int .i64 2, .int .i64 0, .string ⟨#[65, 46, 49]⟩, .slice (some ⟨w6.heap.size, 0, none⟩) 2 2, .slice none 0 0, .slice none 0 0, .int .i64 1, .int .i64 0, .string ⟨#[]⟩, .slice none 0 0, .slice none 0 0, .slice none 0 0] 28)) = V8 at *
 refine HLm.out.mono ?_
 rintro e w9 ⟨⟨dl, rfl, hdl, hpl⟩, hb9⟩
 rw [HPA.out] at hpl
 obtain ⟨yop, yn, ys, yk, yns, yl, yka, ykn, ykc, yna, ync, ya, ycc, rfl, hyk, _⟩ := cSQ hdl
 have HYV : Hid (conV (ConD.mk yop yn ys yk (.slice yna yns.length ync) yns (.slice ya yl.length ycc) yl) = .agg #[.int .i64 yop, .int .i64 yn, .string ys, .slice yka ykn ykc, .slice yna yns.length ync, .slice ya yl.length ycc]) := cVQ hyk
 rw [HYV.out]
 have hbw9 := HB8.out.trans (hb9.mono HB8.out.size)
 have hple : pC (ConD.mk yop yn ys yk (.slice yna yns.length ync) yns (.slice ya yl.length ycc) yl) = exEta := hpl
 have HNm := normal_any (fun _ => True) (ConD.mk yop yn ys yk (.slice yna yns.length ync) yns (.slice ya yl.length ycc) yl) w9 (HE.out.below hbw9) hdl (by rw [hple]; exact ex_bnd.2.1) (by rw [hple]; decide)
 rw [hple, HYV.out] at HNm
 have HNm := hJQ HNm
 have HHb9 := hJQ hb9
 have HBw9 := hJQ hbw9
 clear hdl hpl hple hyk hb9 hbw9 HLm HPA
 go_wp2_with fail
 refine HNm.out.mono ?_
 rintro e w10 ⟨dm, er, rfl, hdm, hb10, _, _, hyes⟩
 obtain ⟨hpm, rfl⟩ := hyes ex_val.2.1 _ _ ex_eta
 obtain ⟨mop, mn, ms, mk, mns, ml, mka, mkn, mkc, mna, mnc, ma, mcc, rfl, hmk, _⟩ := cSQ hdm
 have HMV : Hid (conV (ConD.mk mop mn ms mk (.slice mna mns.length mnc) mns (.slice ma ml.length mcc) ml) = .agg #[.int .i64 mop, .int .i64 mn, .string ms, .slice mka mkn mkc, .slice mna mns.length mnc, .slice ma ml.length mcc]) := cVQ hmk
 rw [HMV.out]
 have hb8 := HHb9.out.trans (hb10.mono HHb9.out.size)
 have g1 := gAQ w10 (.cells #[.int .i64 mop, .int .i64 mn, .string ms, .slice mka mkn mkc, .slice mna mns.length mnc, .slice ma ml.length mcc] 28)
 have hbX : Below V8.heap.size V8 (w10.alloc (.cells #[.int .i64 mop, .int .i64 mn, .string ms, .slice mka mkn mkc, .slice mna mns.length mnc, .slice ma ml.length mcc] 28)) := hb8.trans (gUQ g1 hb8.size (by nofun))
 have k2 := (hbX.block _ (hLQ HK2d.out)).trans HK2d.out
 have k3 := (hbX.block _ (hLQ HK3d.out)).trans HK3d.out
 have k7 := (hbX.block _ (hLQ HK7d.out)).trans HK7d.out
 have k8 := nHQ w10 (.cells #[.int .i64 mop, .int .i64 mn, .string ms, .slice mka mkn mkc, .slice mna mns.length mnc, .slice ma ml.length mcc] 28)
 have hbw := HB8.out.trans (hbX.mono HB8.out.size)
 have i2 := iBQ HI2d.out.1 hbX
 have i3 := iBQ HI3d.out.1 hbX
 have i7 := iBQ HI7d.out.1 hbX
 have i8 := (hdm.mono (Q := (fun _ => True)) (fun _ _ _ => trivial)).grown g1 (by nofun)
 have HSm := same_yes (ConD.mk mop mn ms mk (.slice mna mns.length mnc) mns (.slice ma ml.length mcc) ml) (ConD.mk 2 0 ⟨#[65, 46, 49]⟩ (.mk (.slice (some ⟨w6.heap.size, 0, none⟩) 2 2) [.mk (.slice none 0 0) [], .mk (.slice none 0 0) []]) (.slice none 0 0) [] (.slice none 0 0) []) (w10.alloc (.cells #[.int .i64 mop, .int .i64 mn, .string ms, .slice mka mkn mkc, .slice mna mns.length mnc, .slice ma ml.length mcc] 28)) i8 i7 (by rw [hpm, HI7d.out.2])
 rw [HMV.out] at HSm
 have HSm := hJQ (show Calls Tryz.prog 13 #[.agg #[.int .i64 mop, .int .i64 mn, .string ms, .slice mka mkn mkc, .slice mna mns.length mnc, .slice ma ml.length mcc], .agg #[.int .i64 2, .int .i64 0, .string ⟨#[65, 46, 49]⟩, .slice (some ⟨w6.heap.size, 0, none⟩) 2 2, .slice none 0 0, .slice none 0 0]] (w10.alloc (.cells #[.int .i64 mop, .int .i64 mn, .string ms, .slice mka mkn mkc, .slice mna mns.length mnc, .slice ma ml.length mcc] 28)) _ from HSm)
 have HK2e := hJQ k2
 have HK3e := hJQ k3
 have HI2e := hJQ i2
 have HI3e := hJQ i3
 have HBe := hJQ hbw
 obtain ⟨p0, p1, p2, p3, p4, p5⟩ := cnQ k8
 obtain ⟨q0, q1, q2, q3, q4, q5⟩ := cnQ k7
 clear hb8 g1 hbX k2 k3 k7 k8 hbw i2 i3 i7 i8 hdm hpm hyes hmk hb10 HHb9 HBw9 HK1d HK2d HK3d HK7d HB8 HNm HS2
 go_wp2_with fail
 clear p0 p1 p2 p3 p4 p5 q0 q1 q2 q3 q4 q5
 generalize w10.alloc (.cells #[.int .i64 mop, .int .i64 mn, .string ms, .slice mka mkn mkc, .slice mna mns.length mnc, .slice ma ml.length mcc] 28) = V10 at *
 refine HSm.out.mono ?_
 rintro e w11 ⟨rfl, hb11⟩
 have k2 := (hb11.block _ (hLQ HK2e.out)).trans HK2e.out
 have k3 := (hb11.block _ (hLQ HK3e.out)).trans HK3e.out
 have hbw := HBe.out.trans (hb11.mono HBe.out.size)
 have HIs3 := is_any (fun _ => True) (ConD.mk zop zn zs zk (.slice zna zns.length znc) zns (.slice za zl.length zcc) zl) w11 (iBQ HI3e.out hb11) (by rw [HI3d.out.2]; exact ex_bnd.2.2) (HE.out.below hbw) (by rw [HI3d.out.2]; decide)
 rw [HI3d.out.2, HNV.out, ex_val.2.2.1, ex_val.2.2.2.1] at HIs3
 have HIs3 := hJQ HIs3
 have HK2f := hJQ k2
 have HI2f := hJQ (iBQ HI2e.out hb11)
 have HBf := hJQ hbw
 obtain ⟨p0, p1, p2, p3, p4, p5⟩ := cnQ k3
 clear k2 k3 hbw hb11 HSm HK2e HK3e HI2e HI3e HBe
 go_wp2_with fail
 clear p0 p1 p2 p3 p4 p5
 refine HIs3.out.mono ?_
 rintro e w12 ⟨rfl, hb12⟩
 have k2 := (hb12.block _ (hLQ HK2f.out)).trans HK2f.out
 have hbw := HBf.out.trans (hb12.mono HBf.out.size)
 have HIs2 := is_any (fun _ => True) (ConD.mk 12 0 ⟨#[]⟩ (.mk (.slice none 0 0) []) (.slice none 0 0) [] (.slice (some ⟨w2.heap.size, 0, none⟩) 2 2) [(ConD.mk xop xn xs xk (.slice xna xns.length xnc) xns (.slice xa xl.length xcc) xl), (leafD 5)]) w12 (iBQ HI2f.out hb12) (by rw [HI2d.out.2]; exact ex_bnd.1) (HE.out.below hbw) (by rw [HI2d.out.2]; decide)
 rw [HI2d.out.2, ex_val.1, ex_val.2.2.2.2] at HIs2
 have HIs2 := hJQ (show Calls Tryz.prog 9 #[.agg #[.int .i64 12, .int .i64 0, .string ⟨#[]⟩, .slice none 0 0, .slice none 0 0, .slice (some ⟨w2.heap.size, 0, none⟩) 2 2]] w12 _ from HIs2)
 obtain ⟨p0, p1, p2, p3, p4, p5⟩ := cnQ k2
 clear k2 hb12 HIs3 HK2f HI2f HBf
 go_wp2_with fail
 clear p0 p1 p2 p3 p4 p5
 refine HIs2.out.mono ?_
 rintro e w13 ⟨rfl, hb13⟩
 have hbz := hbw.trans (hb13.mono hbw.size)
 clear HIs2
 go_wp2_with fail
 go_ret
 exact ⟨rfl, hbz⟩
end Go.Proofs.YtkiffgdinmpljaaGreatDoor
