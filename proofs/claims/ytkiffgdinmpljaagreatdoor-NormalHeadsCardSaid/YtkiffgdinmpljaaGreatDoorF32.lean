/- The reference's Tame. Printed by gen_rtame.py, expanded by mac.py. normal.Text at the example, the law's lam. Printed by gen_nt4.py, expanded by mac.py. Head forms and unrollings: what is answered; an application made anew, in memory. Expanded by mac.py. -/
import Derived.Test.YtkiffgdinmpljaaGreatDoorF31
import Derived.Test.YtkiffgdinmpljaaGreatDoorF22
import Derived.Test.YtkiffgdinmpljaaGreatDoorF25
import Derived.Test.YtkiffgdinmpljaaGreatDoorF16
import Derived.Test.YtkiffgdinmpljaaGreatDoorF17
import Derived.Test.YtkiffgdinmpljaaGreatDoorF14
import Derived.Test.YtkiffgdinmpljaaGreatDoorF5
import Derived.Laws.ResultCell
set_option linter.unusedVariables false
set_option linter.unusedSimpArgs false
namespace Go.Proofs.YtkiffgdinmpljaaGreatDoor
open Go Go.RowKit
set_option maxHeartbeats 8000000
set_option maxRecDepth 100000
theorem rnorm_all : ∀ (F : Nat) (x : ConD), RNormAll F x
 | 0, x => by
   intro P w left _ _ _ _ _ hfu _ _
   exfalso
   have : 1<=dCQ (pC x) := by cases x; rw [pMQ, depthC_mk]; omega
   omega
 | F + 1, x => rnorm_step F (fun y => rnorm_all F y) x
def RTameOk (P : Nat->Prop) (x : Cn) (w : World) (e : Ending) (w' : World) : Prop :=
 ∃ (d : ConD) (b : Bool), e = .returned (.tuple #[conV d, .bool b])/\IsCon P w' d/\Below w.heap.size w w'/\(valC x = false->b = false)/\(valC x = true->tameN x = none->b = false)/\(valC x = true->∀ y m, tameN x = some (y, m)->b = true/\pC d = y)
theorem rtame_any (P : Nat->Prop) (x : ConD) (w : World) (hP : ∀ b, w.heap.size<=b->P b) (h : IsCon P w x) (hb : bndC (pC x)) :
 Calls Tryz.prog 11 #[conV x] w (RTameOk P (pC x) w) := by
 obtain ⟨op, n, s, k, nv, ns, lv, l⟩ := x
 obtain ⟨ka, kc, kn, na, nc, a, c, rfl, _, rfl, _, hks, hcv, hll, hnn, hb0, gC, hsz0, HP, HC0, c0, c1, c2, c3, c4, c5⟩ := open_box h
 rw [hcv]
 clear hcv
 have hPW := cVQ (op := op) (n := n) (s := s) (nv := .slice na ns.length nc) (lv := .slice a l.length c) (ns := ns) (l := l) hks
 have g1 := gAQ (w.alloc (.cells #[.int .i64 op, .int .i64 n, .string s, .slice ka kn kc, .slice na ns.length nc, .slice a l.length c] 28)) (.cells #[.int .i64 0, .int .i64 0, .string ⟨#[]⟩, .slice none 0 0, .slice none 0 0, .slice none 0 0] 28)
 have s1 : ((w.alloc (.cells #[.int .i64 op, .int .i64 n, .string s, .slice ka kn kc, .slice na ns.length nc, .slice a l.length c] 28)).alloc (.cells #[.int .i64 0, .int .i64 0, .string ⟨#[]⟩, .slice none 0 0, .slice none 0 0, .slice none 0 0] 28)).heap.size = w.heap.size + 1 + 1 := by simp
 have kR : ((w.alloc (.cells #[.int .i64 op, .int .i64 n, .string s, .slice ka kn kc, .slice na ns.length nc, .slice a l.length c] 28)).alloc (.cells #[.int .i64 0, .int .i64 0, .string ⟨#[]⟩, .slice none 0 0, .slice none 0 0, .slice none 0 0] 28)).heap[w.heap.size + 1]? = _ := (congrArg _ hsz0.symm).trans (nHQ (w.alloc (.cells #[.int .i64 op, .int .i64 n, .string s, .slice ka kn kc, .slice na ns.length nc, .slice a l.length c] 28)) (.cells #[.int .i64 0, .int .i64 0, .string ⟨#[]⟩, .slice none 0 0, .slice none 0 0, .slice none 0 0] 28))
 have kB := (g1.block w.heap.size (by omega) (by nofun)).trans gC
 have hbW := gUQ (B := w.heap.size) (gBQ (gAQ w (.cells #[.int .i64 op, .int .i64 n, .string s, .slice ka kn kc, .slice na ns.length nc, .slice a l.length c] 28)) g1) (nLQ _) (by nofun)
 have HV := rvalid_any P _ _ (iBQ h hbW) hb
 rw [hPW] at HV
 have HV := hJQ HV
 have HT : Hid (valC (pC (.mk op n s k (.slice na ns.length nc) ns (.slice a l.length c) l)) = true->∀ U, Below w.heap.size w U->w.heap.size + 2<=U.heap.size->Calls Tryz.prog 30 #[(.agg #[.int .i64 op, .int .i64 n, .string s, .slice ka kn kc, .slice na ns.length nc, .slice a l.length c]), .int .i64 10000] U (RNOk (fun b => P b/\b ≠ w.heap.size + 1) (tameN (pC (.mk op n s k (.slice na ns.length nc) ns (.slice a l.length c) l))) U)) := fun hv U hU hzU => by
  obtain ⟨hv1, hv2, hv3⟩ := val_iff.1 hv
  have := rnorm_all deepF (.mk op n s k (.slice na ns.length nc) ns (.slice a l.length c) l) (fun b => P b/\b ≠ w.heap.size + 1) U 10000 (fun b hb => ⟨hP b (by omega), by omega⟩) (iBQ (h.lt.mono (fun b hb _ => ⟨hb.1, by have := hb.2; omega⟩)) hU) hv3 hb (nLQ _) (by unfold deepF; omega) hv2 hv1
  rw [hPW] at this
  exact this
 clear h hks hPW g1 gC HP HC0 hb0 hsz0 c0 c1 c2 c3 c4 c5 hb hP
 generalize pC (.mk op n s k (.slice na ns.length nc) ns (.slice a l.length c) l) = px at *
 go_enter Tryz.func11, Tryz.ntmps11
 go_upto_region 1 with fail
 generalize ((w.alloc (.cells #[.int .i64 op, .int .i64 n, .string s, .slice ka kn kc, .slice na ns.length nc, .slice a l.length c] 28)).alloc (.cells #[.int .i64 0, .int .i64 0, .string ⟨#[]⟩, .slice none 0 0, .slice none 0 0, .slice none 0 0] 28)) = W at *
 obtain ⟨c0, c1, c2, c3, c4, c5⟩ := cnQ kB
 go_wp2_with fail
 refine HV.out.mono ?_
 rintro e w2 ⟨rfl, hb2⟩
 have hbw2 := hbW.trans (hb2.mono hbW.size)
 have kR2 := (hb2.block _ (hLQ kR)).trans kR
 have kB2 := (hb2.block _ (hLQ kB)).trans kB
 have hs2 := hb2.size
 obtain ⟨vb, hvb⟩ : ∃ b, valC px = b := ⟨_, rfl⟩
 rw [hvb]
 have HVB := hJQ hvb
 clear hvb HV c0 c1 c2 c3 c4 c5 kR kB hb2
 cases vb
 ·clear HT
  have hrow := gRQ w2 (w.heap.size + 1) #[.int .i64 0, .int .i64 0, .string ⟨#[]⟩, .slice none 0 0, .slice none 0 0, .slice none 0 0]
  have HRF := hJQ (setRow_heap w2 (w.heap.size + 1) _ #[.int .i64 0, .int .i64 0, .string ⟨#[]⟩, .slice none 0 0, .slice none 0 0, .slice none 0 0] _ _ kR2)
  have HBF := hJQ (hbw2.trans (gUQ (B := w.heap.size) hrow (by have := hbw2.size; omega) (fun q hq => by have e2 : (w.heap.size + 1) = q := oJQ hq; omega)))
  have HCF : Hid (IsCon P (w2.setRow (w.heap.size + 1) #[.int .i64 0, .int .i64 0, .string ⟨#[]⟩, .slice none 0 0, .slice none 0 0, .slice none 0 0]) zeroD) := zero_con _ _
  clear hrow
  go_wp2_with (refine wpList_store_row rfl 28 _ _ rfl (w.heap.size + 1) _ rfl rfl 28 _ kR2 cIQ rfl (all_one _ rfl) ?_)
  refine bodyPost_ret (v := .tuple #[.agg #[.int .i64 0, .int .i64 0, .string ⟨#[]⟩, .slice none 0 0, .slice none 0 0, .slice none 0 0], .bool false]) ?_ rfl ⟨zeroD, false, rfl, HCF.out, HBF.out, fun _ => rfl, (fun h => by rw [HVB.out] at h; cases h), (fun h => by rw [HVB.out] at h; cases h)⟩
  rw [results_cell_tmp (p := 2) (u := 3) (ty := 28) rfl]
  simp [asAddr, run_loadVar_row _ _ _ _ _ _ _ HRF.out Tryz.underlying28 rfl cIQ, Result.andThen]
 ·have HT2 := hJQ (HT.out HVB.out w2 hbw2 (by omega))
  clear HT
  obtain ⟨c0, c1, c2, c3, c4, c5⟩ := cnQ kB2
  go_wp2_with fail
  refine HT2.out.mono ?_
  rintro e w3 ⟨d, r, rfl, hdd, hb3, hno, hyes⟩
  obtain ⟨zop, zn, zs, zk, zns, zl, zka, zkn, zkc, zna, znc, za, zc, rfl, hzk, _⟩ := cSQ hdd
  have hzv := cVQ (op := zop) (n := zn) (s := zs) (nv := .slice zna zns.length znc) (lv := .slice za zl.length zc) (ns := zns) (l := zl) hzk
  rw [hzv]
  have hs3 := hb3.size
  have hbw3 := hbw2.trans (hb3.mono hbw2.size)
  have kR3 := (hb3.block _ (hLQ kR2)).trans kR2
  have hltR := hLQ kR3
  have hga := gAQ w3 (.cells #[.int .i64 0, .int .i64 0, .string ⟨#[]⟩, .slice none 0 0, .slice none 0 0, .slice none 0 0] 28)
  have hrw := gRQ (w3.alloc (.cells #[.int .i64 0, .int .i64 0, .string ⟨#[]⟩, .slice none 0 0, .slice none 0 0, .slice none 0 0] 28)) w3.heap.size #[.int .i64 zop, .int .i64 zn, .string zs, .slice zka zkn zkc, .slice zna zns.length znc, .slice za zl.length zc]
  have kO := setRow_heap (w3.alloc (.cells #[.int .i64 0, .int .i64 0, .string ⟨#[]⟩, .slice none 0 0, .slice none 0 0, .slice none 0 0] 28)) w3.heap.size _ #[.int .i64 zop, .int .i64 zn, .string zs, .slice zka zkn zkc, .slice zna zns.length znc, .slice za zl.length zc] _ _ (nHQ w3 (.cells #[.int .i64 0, .int .i64 0, .string ⟨#[]⟩, .slice none 0 0, .slice none 0 0, .slice none 0 0] 28))
  have kRV := (hrw.block (w.heap.size + 1) (by simp; omega) (fun e => by have e2 : w.heap.size + 1 = w3.heap.size := oJQ e; omega)).trans ((hga.block (w.heap.size + 1) (by omega) (by nofun)).trans kR3)
  have hbV := (hbw3.trans (gUQ (B := w.heap.size) hga (by omega) (by nofun))).trans (gUQ (B := w.heap.size) hrw (by simp; omega) (fun q hq => by have e2 : w3.heap.size = q := oJQ hq; omega))
  have hdV := (hdd.lt.grown hga (by nofun)).grown hrw (fun q hq hp => by have e2 : w3.heap.size = q := oJQ hq; have := hp.2; omega)
  have HKO := hJQ kO
  have HKR := hJQ kRV
  have HBV := hJQ hbV
  have HDV := hJQ hdV
  have HZV := hJQ hzv
  have HNo := hJQ hno
  have HYes := hJQ hyes
  have kN := nHQ w3 (.cells #[.int .i64 0, .int .i64 0, .string ⟨#[]⟩, .slice none 0 0, .slice none 0 0, .slice none 0 0] 28)
  clear HT2 hga hrw kO kRV hbV hdd hdV hzv hzk hno hyes kR3 kR2 kB2 hbw3 c0 c1 c2 c3 c4 c5
  go_upto_region 4 with (refine wpList_store_row rfl 28 _ _ rfl w3.heap.size _ rfl rfl 28 _ kN cIQ rfl (all_one _ rfl) ?_)
  clear kN
  have hsV : ((w3.alloc (.cells #[.int .i64 0, .int .i64 0, .string ⟨#[]⟩, .slice none 0 0, .slice none 0 0, .slice none 0 0] 28)).setRow w3.heap.size #[.int .i64 zop, .int .i64 zn, .string zs, .slice zka zkn zkc, .slice zna zns.length znc, .slice za zl.length zc]).heap.size = w3.heap.size + 1 := by rw [size_setRow]; simp
  generalize ((w3.alloc (.cells #[.int .i64 0, .int .i64 0, .string ⟨#[]⟩, .slice none 0 0, .slice none 0 0, .slice none 0 0] 28)).setRow w3.heap.size #[.int .i64 zop, .int .i64 zn, .string zs, .slice zka zkn zkc, .slice zna zns.length znc, .slice za zl.length zc]) = V at *
  obtain ⟨x0, x1, x2, x3, x4, x5⟩ := cnQ HKO.out
  have hbV := HBV.out
  have kRV := HKR.out
  have hdV := HDV.out
  obtain ⟨bb, hbb, HPo⟩ : ∃ bb : Bool, Hid (decide (r ≥ 0) = bb)/\Hid ((tameN px = none->bb = false)/\(∀ y m, tameN px = some (y, m)->bb = true/\pC (ConD.mk zop zn zs zk (.slice zna zns.length znc) zns (.slice za zl.length zc) zl) = y)) := by
   refine ⟨decide (r ≥ 0), rfl, ?_, ?_⟩
   ·intro ht
    rw [HNo.out ht]; rfl
   ·intro y m ht
    obtain ⟨h1, h2⟩ := HYes.out y m ht
    exact ⟨by rw [h2]; exact decide_eq_true (by omega), h1⟩
  have hr2 : (0<=r) = (bb = true) := by rw [← hbb.out]; simp
  clear HNo HYes HKO HBV HKR HDV
  cases bb
  ·have hr3 : ¬ (0<=r) := by rw [hr2]; decide
   clear hr2
   have hrow := gRQ V (w.heap.size + 1) #[.int .i64 zop, .int .i64 zn, .string zs, .slice zka zkn zkc, .slice zna zns.length znc, .slice za zl.length zc]
   have HRF := hJQ (setRow_heap V (w.heap.size + 1) _ #[.int .i64 zop, .int .i64 zn, .string zs, .slice zka zkn zkc, .slice zna zns.length znc, .slice za zl.length zc] _ _ kRV)
   have HBF := hJQ (hbV.trans (gUQ (B := w.heap.size) hrow (by have := hbV.size; omega) (fun q hq => by have e2 : (w.heap.size + 1) = q := oJQ hq; omega)))
   have HCF : Hid (IsCon P (V.setRow (w.heap.size + 1) #[.int .i64 zop, .int .i64 zn, .string zs, .slice zka zkn zkc, .slice zna zns.length znc, .slice za zl.length zc]) (ConD.mk zop zn zs zk (.slice zna zns.length znc) zns (.slice za zl.length zc) zl)) := (hdV.grown hrow (fun q hq hp => by have e2 : w.heap.size + 1 = q := oJQ hq; exact hp.1.2 e2.symm)).mono (fun b hb _ => hb.1.1)
   clear hrow
   go_wp2_with (refine wpList_store_row rfl 28 _ _ rfl (w.heap.size + 1) _ rfl rfl 28 _ kRV cIQ rfl (all_one _ rfl) ?_)
   refine bodyPost_ret (v := .tuple #[.agg #[.int .i64 zop, .int .i64 zn, .string zs, .slice zka zkn zkc, .slice zna zns.length znc, .slice za zl.length zc], .bool false]) ?_ rfl ⟨_, false, by rw [HZV.out], HCF.out, HBF.out, (fun _ => rfl), (fun _ _ => rfl), (fun _ y m ht => HPo.out.2 y m ht)⟩
   rw [results_cell_tmp (p := 2) (u := 3) (ty := 28) rfl]
   simp [asAddr, run_loadVar_row _ _ _ _ _ _ _ HRF.out Tryz.underlying28 rfl cIQ, Result.andThen]
  ·have hr3 : 0<=r := by rw [hr2]
   clear hr2
   have hrow := gRQ V (w.heap.size + 1) #[.int .i64 zop, .int .i64 zn, .string zs, .slice zka zkn zkc, .slice zna zns.length znc, .slice za zl.length zc]
   have HRF := hJQ (setRow_heap V (w.heap.size + 1) _ #[.int .i64 zop, .int .i64 zn, .string zs, .slice zka zkn zkc, .slice zna zns.length znc, .slice za zl.length zc] _ _ kRV)
   have HBF := hJQ (hbV.trans (gUQ (B := w.heap.size) hrow (by have := hbV.size; omega) (fun q hq => by have e2 : (w.heap.size + 1) = q := oJQ hq; omega)))
   have HCF : Hid (IsCon P (V.setRow (w.heap.size + 1) #[.int .i64 zop, .int .i64 zn, .string zs, .slice zka zkn zkc, .slice zna zns.length znc, .slice za zl.length zc]) (ConD.mk zop zn zs zk (.slice zna zns.length znc) zns (.slice za zl.length zc) zl)) := (hdV.grown hrow (fun q hq hp => by have e2 : w.heap.size + 1 = q := oJQ hq; exact hp.1.2 e2.symm)).mono (fun b hb _ => hb.1.1)
   clear hrow
   go_wp2_with (refine wpList_store_row rfl 28 _ _ rfl (w.heap.size + 1) _ rfl rfl 28 _ kRV cIQ rfl (all_one _ rfl) ?_)
   refine bodyPost_ret (v := .tuple #[.agg #[.int .i64 zop, .int .i64 zn, .string zs, .slice zka zkn zkc, .slice zna zns.length znc, .slice za zl.length zc], .bool true]) ?_ rfl ⟨_, true, by rw [HZV.out], HCF.out, HBF.out, (fun h => by rw [HVB.out] at h; cases h), (fun _ ht => HPo.out.1 ht), (fun _ y m ht => ⟨rfl, (HPo.out.2 y m ht).2⟩)⟩
   rw [results_cell_tmp (p := 2) (u := 3) (ty := 28) rfl]
   simp [asAddr, run_loadVar_row _ _ _ _ _ _ _ HRF.out Tryz.underlying28 rfl cIQ, Result.andThen]
theorem rHQ {P : Nat->Prop} {w : World} {b : Nat} {cs : Array Value} {t : TypeId} {z : Nat × Nat} (h : w.heap[b]? = some (.cells cs t z)) (hp : P b) (xs : List Value) (hx : cs.toList = xs) (n c : Nat) (hnc : n<=c) : RowP P w (.slice (some ⟨b, 0, none⟩) n c) n xs := by
 refine ⟨_, _, rfl, hnc, fun _ => ⟨b, 0, rfl, hp, hLQ h, fun j hj => ?_⟩⟩
 subst hx
 rw [Nat.zero_add, Lib.cell_of_heap h]
 rw [Array.length_toList] at hj
 simp [List.getD, hj]
def exL : List UInt8 := [40, 116, 101, 120, 116, 32, 45, 62, 32, 105, 110, 116, 41]
theorem exL_cells : ([] : List Value) ++ Lib.strCells txOpen ++ Lib.strCells txText ++ Lib.strCells txTo ++ Lib.strCells txInt ++ Lib.strCells txClose = Lib.byteCells exL := by rfl
theorem textEx_any (P : Nat->Prop) (x : ConD) (w : World) (hE : EnvN w) (h : IsCon P w x) (hx : pC x = exArrow) :
 Calls Tryz.prog 21 #[conV x] w fun e w' => e = .returned (.tuple #[.string ⟨exL.toArray⟩, .int .i64 0])/\Below w.heap.size w w' := by
 have hv := valid_any P x (w.alloc (.cells #[.int .i64 x.op, .int .i64 x.n, .string x.s, x.k.v, x.nv, x.lv] 28)) (hE.below ((Below.refl _ _).alloc (nLQ _) _)) (iBQ h ((Below.refl _ _).alloc (nLQ _) _)) (by rw [hx]; exact ex_bnd.2.2) (by rw [hx]; decide)
 rw [hx, ex_val.2.2.1] at hv
 obtain ⟨op, n, s, k, nv, ns, lv, l⟩ := x
 rw [pMQ] at hx
 obtain ⟨fd, gd, hl⟩ : ∃ fd gd, l = [fd, gd] := by
  have h1 : (l.map pC).length = 2 := by rw [show l.map pC = [leafN 5, leafN 4] from congrArg Cn.l hx]; rfl
  rw [List.length_map] at h1
  match l, h1 with
  | [fd, gd], _ => exact ⟨fd, gd, rfl⟩
 subst hl
 have hop : op = 6 := congrArg Cn.op hx
 have hns : ns = [] := congrArg Cn.ns hx
 have hfg : [pC fd, pC gd] = [leafN 5, leafN 4] := congrArg Cn.l hx
 have hf : pC fd = leafN 5 := by injection hfg
 have hg : pC gd = leafN 4 := by injection hfg with _ h2; injection h2
 have hfo : fd.op = 5 := by rw [← ConD.op_pure, hf]; rfl
 have hgo : gd.op = 4 := by rw [← ConD.op_pure, hg]; rfl
 subst hop
 clear hx hfg hf hg hns
 obtain ⟨ka, kc, kn, hks⟩ := iKQ h.parts.kind
 obtain ⟨na, nc, rfl, _⟩ := rSQ h.parts.names
 have hrow := h.parts.row
 obtain ⟨a, c, rfl, _⟩ := rSQ hrow
 have hfc := h.parts.all fd (by simp)
 have hgc := h.parts.all gd (by simp)
 obtain ⟨q, off, rfl, ⟨_, hql⟩, u0, u1, u2, u3, u4, u5⟩ := part_0 (x := fd) (l := [gd]) hrow
 obtain ⟨v0, v1, v2, v3, v4, v5⟩ := part_1 (x := fd) (y := gd) (l := []) hrow
 obtain ⟨fop, fn, fs, fk, fns, fl, fka, fkn, fkc, fna, fnc, fa, fcc, rfl, hfk, _⟩ := cSQ hfc
 obtain ⟨gop, gn, gs, gk, gns, gl, gka, gkn, gkc, gna, gnc, ga, gcc, rfl, hgk, _⟩ := cSQ hgc
 have hfo : fop = 5 := hfo
 have hgo : gop = 4 := hgo
 subst hfo
 subst hgo
 simp only [ConD.op, ConD.n, ConD.s, ConD.k, ConD.nv, ConD.lv, hfk] at u0 u1 u2 u3 u4 u5
 simp only [ConD.op, ConD.n, ConD.s, ConD.k, ConD.nv, ConD.lv, hgk] at v0 v1 v2 v3 v4 v5
 simp only [ConD.op, ConD.n, ConD.s, ConD.k, ConD.nv, ConD.lv, hks] at hv
 rw [cVQ hks] at hv ⊢
 have gC := nHQ w (.cells #[.int .i64 6, .int .i64 n, .string s, .slice ka kn kc, .slice na ns.length nc, .slice (some ⟨q, off, none⟩) 2 c] 28)
 have hb0 : Below w.heap.size w (w.alloc (.cells #[.int .i64 6, .int .i64 n, .string s, .slice ka kn kc, .slice na ns.length nc, .slice (some ⟨q, off, none⟩) 2 c] 28)) := (Below.refl _ _).alloc (nLQ _) _
 have HV := hJQ hv
 have HY : Hid (∀ W, Below w.heap.size w W->W.cell? ⟨q, off, none⟩ = some (.int .i64 5)/\W.cell? ⟨q, off + 1, none⟩ = some (.int .i64 fn)/\W.cell? ⟨q, off + 2, none⟩ = some (.string fs)/\W.cell? ⟨q, off + 3, none⟩ = some (.slice fka fkn fkc)/\W.cell? ⟨q, off + 4, none⟩ = some (.slice fna fns.length fnc)/\W.cell? ⟨q, off + 5, none⟩ = some (.slice fa fl.length fcc)/\W.cell? ⟨q, off + 6, none⟩ = some (.int .i64 4)/\W.cell? ⟨q, off + 6 + 1, none⟩ = some (.int .i64 gn)/\W.cell? ⟨q, off + 6 + 2, none⟩ = some (.string gs)/\W.cell? ⟨q, off + 6 + 3, none⟩ = some (.slice gka gkn gkc)/\W.cell? ⟨q, off + 6 + 4, none⟩ = some (.slice gna gns.length gnc)/\W.cell? ⟨q, off + 6 + 5, none⟩ = some (.slice ga gl.length gcc)) := fun W hW => by
  have hc : ∀ (o : Nat) (v : Value), w.cell? ⟨q, o, none⟩ = some v->W.cell? ⟨q, o, none⟩ = some v := fun o v hc => (World.cell?_of_block (a := ⟨q, o, none⟩) (hW.block q hql)).trans hc
  exact ⟨hc _ _ u0, hc _ _ u1, hc _ _ u2, hc _ _ u3, hc _ _ u4, hc _ _ u5, hc _ _ v0, hc _ _ v1, hc _ _ v2, hc _ _ v3, hc _ _ v4, hc _ _ v5⟩
 clear h hks hrow hfc hgc hfk hgk u0 u1 u2 u3 u4 u5 v0 v1 v2 v3 v4 v5 hv hE
 obtain ⟨c0, c1, c2, c3, c4, c5⟩ := cnQ gC
 go_enter Tryz.func21, Tryz.ntmps21
 go_wp2_with fail
 refine HV.out.mono ?_
 rintro e w2 ⟨rfl, hb2⟩
 have hbw2 := hb0.trans (hb2.mono hb0.size)
 have g2 := (hb2.block _ (hLQ gC)).trans gC
 have hga := gAQ w2 (.cells #[.pointer none, .slice none 0 0] 64)
 have hsz := hbw2.size
 have g3 := (hga.block _ (hLQ g2) (by nofun)).trans g2
 have hb3 := hbw2.trans (gUQ (B := w.heap.size) hga hsz (by nofun))
 have hWr : WrB w2.heap.size w2.heap.size [] (w2.alloc (.cells #[.pointer none, .slice none 0 0] 64)) := .inl ⟨Nat.le_refl _, .slice none 0 0, nHQ w2 (.cells #[.pointer none, .slice none 0 0] 64), ⟨rfl, .inl ⟨rfl, rfl⟩⟩, by nofun⟩
 obtain ⟨y0, y1, y2, y3, y4, y5, y6, y7, y8, y9, y10, y11⟩ := HY.out _ hb3
 have HC := conArrow_any w2.heap.size w2.heap.size q off n s ka na kn kc ns.length nc c fn gn fs gs fka fna fa gka gna ga fkn fkc fns.length fnc fl.length fcc gkn gkc gns.length gnc gl.length gcc (w2.alloc (.cells #[.pointer none, .slice none 0 0] 64)) hWr (by simp) (by omega) y0 y1 y2 y3 y4 y5 y6 y7 y8 y9 y10 y11
 rw [exL_cells] at HC
 have HC := hJQ HC
 clear c0 c1 c2 c3 c4 c5 HV HY hga g2 gC hWr y0 y1 y2 y3 y4 y5 y6 y7 y8 y9 y10 y11 hb0
 obtain ⟨c0, c1, c2, c3, c4, c5⟩ := cnQ g3
 go_wp2_with fail
 refine HC.out.mono ?_
 rintro e w4 ⟨rfl, hw4, hb4⟩
 have hbw4 := hb3.trans (hb4.mono hsz)
 have HL := hJQ (wr_Len _ _ _ _ hw4)
 have HS := hJQ (wr_String _ _ exL _ hw4 (by decide))
 have hlen : (Lib.byteCells exL).length = 13 := rfl
 rw [hlen] at HL
 clear HC c0 c1 c2 c3 c4 c5 hw4 hlen g3
 go_wp2_with fail
 refine HL.out.mono ?_
 rintro e w5 ⟨rfl, rfl⟩
 clear HL
 go_wp2_with fail
 refine HS.out.mono ?_
 rintro e w6 ⟨rfl, hb6⟩
 have hbw6 := hbw4.trans (hb6.mono hsz)
 clear HS
 go_wp2_with fail
 go_ret2
 exact ⟨rfl, hbw6⟩
theorem lam_any (x : ConD) (w : World) (h : IsCon (fun _ => True) w x) :
 Calls Tryz.prog 20 #[conV x] w fun e w' => ConOut (fun _ => True) (.mk 11 0 ⟨#[]⟩ (.mk []) [] [pC x]) e w'/\Below w.heap.size w w' := by
 obtain ⟨op, n, s, k, nv, ns, lv, l⟩ := x
 obtain ⟨ka, kc, kn, na, nc, a, c, rfl, _, rfl, _, hks, hcv, hll, hnn, hb0, gC, hsz0, HP, HC0, c0, c1, c2, c3, c4, c5⟩ := open_box h
 rw [hcv]
 clear hcv
 have hg1 := gAQ (w.alloc (.cells #[.int .i64 op, .int .i64 n, .string s, .slice ka kn kc, .slice na ns.length nc, .slice a l.length c] 28)) (.cells #[.int .i64 0, .int .i64 0, .string ⟨#[]⟩, .slice none 0 0, .slice none 0 0, .slice none 0 0] 28)
 have s1 : ((w.alloc (.cells #[.int .i64 op, .int .i64 n, .string s, .slice ka kn kc, .slice na ns.length nc, .slice a l.length c] 28)).alloc (.cells #[.int .i64 0, .int .i64 0, .string ⟨#[]⟩, .slice none 0 0, .slice none 0 0, .slice none 0 0] 28)).heap.size = w.heap.size + 2 := by simp
 have kR : ((w.alloc (.cells #[.int .i64 op, .int .i64 n, .string s, .slice ka kn kc, .slice na ns.length nc, .slice a l.length c] 28)).alloc (.cells #[.int .i64 0, .int .i64 0, .string ⟨#[]⟩, .slice none 0 0, .slice none 0 0, .slice none 0 0] 28)).heap[w.heap.size + 1]? = _ := (congrArg _ hsz0.symm).trans (nHQ (w.alloc (.cells #[.int .i64 op, .int .i64 n, .string s, .slice ka kn kc, .slice na ns.length nc, .slice a l.length c] 28)) (.cells #[.int .i64 0, .int .i64 0, .string ⟨#[]⟩, .slice none 0 0, .slice none 0 0, .slice none 0 0] 28))
 have kB := (hg1.block w.heap.size (by omega) (by nofun)).trans gC
 have hbW := gUQ (B := w.heap.size) (gBQ (gAQ w (.cells #[.int .i64 op, .int .i64 n, .string s, .slice ka kn kc, .slice na ns.length nc, .slice a l.length c] 28)) hg1) (nLQ _) (by nofun)
 have HX := hJQ h
 have henc : cEQ (.mk op n s k (.slice na ns.length nc) ns (.slice a l.length c) l) = [.int .i64 op, .int .i64 n, .string s, .slice ka kn kc, .slice na ns.length nc, .slice a l.length c] := by show [_, _, _, k.v, _, _] = _; rw [hks]; rfl
 clear c0 c1 c2 c3 c4 c5 hb0 gC HP HC0 hsz0 hg1 hks h
 go_enter Tryz.func20, Tryz.ntmps20
 go_upto_region 1 with fail
 generalize (w.alloc (.cells #[.int .i64 op, .int .i64 n, .string s, .slice ka kn kc, .slice na ns.length nc, .slice a l.length c] 28)).alloc (.cells #[.int .i64 0, .int .i64 0, .string ⟨#[]⟩, .slice none 0 0, .slice none 0 0, .slice none 0 0] 28) = W at *
 obtain ⟨c0, c1, c2, c3, c4, c5⟩ := cnQ kB
 have hga := gAQ W (.cells #[.int .i64 op, .int .i64 n, .string s, .slice ka kn kc, .slice na ns.length nc, .slice a l.length c] 28)
 have kS := nHQ W (.cells #[.int .i64 op, .int .i64 n, .string s, .slice ka kn kc, .slice na ns.length nc, .slice a l.length c] 28)
 have kR2 := (hga.block _ (hLQ kR) (by nofun)).trans kR
 rw [s1] at kS
 have hrow := gRQ (W.alloc (.cells #[.int .i64 op, .int .i64 n, .string s, .slice ka kn kc, .slice na ns.length nc, .slice a l.length c] 28)) (w.heap.size + 1) #[.int .i64 11, .int .i64 0, .string ⟨#[]⟩, .slice none 0 0, .slice none 0 0, .slice (some ⟨w.heap.size + 2, 0, none⟩) 1 1]
 have HRF := hJQ (setRow_heap (W.alloc (.cells #[.int .i64 op, .int .i64 n, .string s, .slice ka kn kc, .slice na ns.length nc, .slice a l.length c] 28)) (w.heap.size + 1) _ #[.int .i64 11, .int .i64 0, .string ⟨#[]⟩, .slice none 0 0, .slice none 0 0, .slice (some ⟨w.heap.size + 2, 0, none⟩) 1 1] _ _ kR2)
 have kS2 := (hrow.block (w.heap.size + 2) (hLQ kS) (fun e => by have e2 : w.heap.size + 2 = w.heap.size + 1 := oJQ e; omega)).trans kS
 have hbF := (hbW.trans (gUQ (B := w.heap.size) hga (by omega) (by nofun))).trans (gUQ (B := w.heap.size) hrow (by simp; omega) (fun q hq => by have e2 : w.heap.size + 1 = q := oJQ hq; omega))
 have HBF := hJQ hbF
 have HCF : Hid (IsCon (fun _ => True) ((W.alloc (.cells #[.int .i64 op, .int .i64 n, .string s, .slice ka kn kc, .slice na ns.length nc, .slice a l.length c] 28)).setRow (w.heap.size + 1) #[.int .i64 11, .int .i64 0, .string ⟨#[]⟩, .slice none 0 0, .slice none 0 0, .slice (some ⟨w.heap.size + 2, 0, none⟩) 1 1]) (.mk 11 0 ⟨#[]⟩ (.mk (.slice none 0 0) []) (.slice none 0 0) [] (.slice (some ⟨w.heap.size + 2, 0, none⟩) 1 1) [.mk op n s k (.slice na ns.length nc) ns (.slice a l.length c) l])) := by
  refine IsCon.mk (kind_nil _ _) (RowP.nil _ _) (Nat.zero_le maxLen) ?_ (by show 1<=maxLen; decide) (fun y hy => ?_)
  ·have : cCQ [ConD.mk op n s k (.slice na ns.length nc) ns (.slice a l.length c) l] = _ := one_enc _
   rw [this, henc]
   exact rHQ kS2 trivial _ rfl 1 1 (nLQ _)
  ·rw [List.mem_singleton.1 hy]; exact iBQ HX.out hbF
 clear hrow kS2 hbF hga
 go_wp2_with (refine wpList_store_row rfl 28 _ _ rfl (w.heap.size + 1) _ rfl rfl 28 _ kR2 cIQ rfl (all_one _ rfl) ?_)
 refine bodyPost_ret (results_cell_row rfl _ _ (w.heap.size + 1) 28 #[.int .i64 11, .int .i64 0, .string ⟨#[]⟩, .slice none 0 0, .slice none 0 0, .slice (some ⟨w.heap.size + 2, 0, none⟩) 1 1] (0, 0) _ rfl HRF.out Tryz.underlying28 rfl cIQ) rfl ?_
 exact ⟨⟨_, rfl, HCF.out, by rw [pMQ, pureK_mk]; rfl⟩, HBF.out⟩
def zeroN : Cn := .mk 0 0 ⟨#[]⟩ (.mk []) [] []
theorem zeroD_pure : pC zeroD = zeroN := by unfold zeroD zeroN; rw [pMQ, pureK_mk]; rfl
theorem zeroD_con (P : Nat->Prop) (w : World) : IsCon P w zeroD := .mk (kind_nil P w) (RowP.nil P w) (Nat.zero_le _) (RowP.nil P w) (Nat.zero_le _) (fun y hy => by cases hy)
def PairOk (P : Nat->Prop) (r : Cn × Int) (w : World) (e : Ending) (w' : World) : Prop := ∃ d : ConD, e = .returned (.tuple #[conV d, .int .i64 r.2])/\IsCon P w' d/\pC d = r.1/\Below w.heap.size w w'
def orBudget : Option Cn->Cn × Int
 | none => (zeroN, 27)
 | some y => (y, 0)
def headR (c : Cn) : Cn × Int := if valC c = true then orBudget (headF 10000 c) else (zeroN, 1)
theorem app_con {P : Nat->Prop} {w : World} {x y : ConD} {g : Nat} {t : TypeId} {z : Nat × Nat} (hx : IsCon P w x) (hy : IsCon P w y) (hP : P g) (hk : w.heap[g]? = some (.cells (cEQ x ++ cEQ y).toArray t z)) :
 IsCon P w (.mk 12 0 ⟨#[]⟩ (.mk (.slice none 0 0) []) (.slice none 0 0) [] (.slice (some ⟨g, 0, none⟩) 2 2) [x, y]) := by
 refine .mk (kind_nil P w) (RowP.nil P w) (Nat.zero_le _) ?_ (by show 2<=maxLen; decide) (fun z hz => ?_)
 ·have e : cCQ [x, y] = cEQ x ++ cEQ y := by simp [cCQ]
  rw [e]
  exact rHQ hk hP _ rfl 2 2 (nLQ _)
 ·rcases List.mem_cons.1 hz with rfl | hz
  ·exact hx
  ·rw [List.mem_singleton.1 hz]; exact hy
theorem app_pure (x y : ConD) (g : Nat) : pC (.mk 12 0 ⟨#[]⟩ (.mk (.slice none 0 0) []) (.slice none 0 0) [] (.slice (some ⟨g, 0, none⟩) 2 2) [x, y]) = appC (pC x) (pC y) := by
 rw [pMQ, pureK_mk]; rfl
theorem rowP_one {P : Nat->Prop} {w : World} {a : Option Addr} {n c : Nat} {x : ConD} {r : List ConD} (h : RowP P w (.slice a n c) n (cCQ (x :: r))) (hn : 0 < n) : RowP P w (.slice a 1 c) 1 (cCQ [x]) := by
 obtain ⟨a', c', hv, hlc, hl⟩ := h
 obtain ⟨rfl, _, rfl⟩ := Value.slice.inj hv
 obtain ⟨b, off, ha, hp, hlt, hc⟩ := hl hn
 refine ⟨a, c, rfl, by omega, fun _ => ⟨b, off, ha, hp, hlt, fun j hj => ?_⟩⟩
 have e : cCQ (x :: r) = cEQ x ++ cCQ r := rfl
 have e1 : cCQ [x] = cEQ x := by simp [cCQ]
 rw [e1] at hj ⊢
 rw [hc j (by rw [e, List.length_append]; omega), e]
 simp [List.getD, List.getElem?_append_left hj]
theorem rowP_tail {P : Nat->Prop} {w : World} {g off off' n c c' : Nat} {x : ConD} {r : List ConD} (h : RowP P w (.slice (some ⟨g, off, none⟩) (n + 1) c) (n + 1) (cCQ (x :: r))) (ho : off' = off + 6) (hc' : n<=c') : RowP P w (.slice (some ⟨g, off', none⟩) n c') n (cCQ r) := by
 obtain ⟨a', d', hv, hlc, hl⟩ := h
 obtain ⟨rfl, _, rfl⟩ := Value.slice.inj hv
 obtain ⟨b, o2, ha, hp, hlt, hc⟩ := hl (Nat.succ_pos _)
 injection ha with ha
 injection ha with h1 h2 h3
 subst h1; subst h2; subst ho
 refine ⟨_, _, rfl, hc', fun _ => ⟨g, off + 6, rfl, hp, hlt, fun j hj => ?_⟩⟩
 have e : cCQ (x :: r) = cEQ x ++ cCQ r := rfl
 have el : (cEQ x).length = 6 := rfl
 have := hc (6 + j) (by rw [e, List.length_append, el]; omega)
 rw [← Nat.add_assoc] at this
 rw [this, e]
 simp only [List.getD]
 rw [List.getElem?_append_right (by rw [el]; omega), el, Nat.add_sub_cancel_left]
theorem LsC.addr {P : Nat->Prop} {V : World} {B : Nat} {a : Option Addr} {n c : Nat} {ds : List ConD} (h : LsC P V B (.slice a n c) ds) (hn : 0 < ds.length) : ∃ g, a = some ⟨g, 0, none⟩/\ds.length<=c/\B<=g/\g < V.heap.size := by
 obtain ⟨_, h2⟩ := h.own
 rcases h2 with ⟨_, h0⟩ | ⟨g, cap, cur, hv, hb, hh, hn, _⟩
 ·omega
 ·obtain ⟨rfl, _, rfl⟩ := Value.slice.inj hv
  exact ⟨g, rfl, hn, hb, hLQ hh⟩
theorem fold_take (f : Cn->Cn->Cn) (t : Cn) (rd : List ConD) (j : Nat) (hj : j < rd.length) : ((rd.take (j + 1)).map pC).foldl f t = f (((rd.take j).map pC).foldl f t) (pC (rd.getD j default)) := by
 rw [List.take_add_one, List.map_append, List.foldl_append]
 simp [List.getD, List.getElem?_eq_getElem hj]
theorem fresh_put (w : World) (cs : Array Value) : w.grownBy (w.alloc (.cells #[.int .i64 0, .int .i64 0, .string ⟨#[]⟩, .slice none 0 0, .slice none 0 0, .slice none 0 0] 28)) none/\(w.alloc (.cells #[.int .i64 0, .int .i64 0, .string ⟨#[]⟩, .slice none 0 0, .slice none 0 0, .slice none 0 0] 28)).heap[w.heap.size]? = some (.cells #[.int .i64 0, .int .i64 0, .string ⟨#[]⟩, .slice none 0 0, .slice none 0 0, .slice none 0 0] 28 (0, 0))/\(w.alloc (.cells #[.int .i64 0, .int .i64 0, .string ⟨#[]⟩, .slice none 0 0, .slice none 0 0, .slice none 0 0] 28)).grownBy ((w.alloc (.cells #[.int .i64 0, .int .i64 0, .string ⟨#[]⟩, .slice none 0 0, .slice none 0 0, .slice none 0 0] 28)).setRow w.heap.size cs) (some w.heap.size)/\((w.alloc (.cells #[.int .i64 0, .int .i64 0, .string ⟨#[]⟩, .slice none 0 0, .slice none 0 0, .slice none 0 0] 28)).setRow w.heap.size cs).heap[w.heap.size]? = some (.cells cs 28 (0, 0))/\Below w.heap.size w ((w.alloc (.cells #[.int .i64 0, .int .i64 0, .string ⟨#[]⟩, .slice none 0 0, .slice none 0 0, .slice none 0 0] 28)).setRow w.heap.size cs) := by
 have g := gAQ w (.cells #[.int .i64 0, .int .i64 0, .string ⟨#[]⟩, .slice none 0 0, .slice none 0 0, .slice none 0 0] 28)
 have k := nHQ w (.cells #[.int .i64 0, .int .i64 0, .string ⟨#[]⟩, .slice none 0 0, .slice none 0 0, .slice none 0 0] 28)
 have hr := gRQ (w.alloc (.cells #[.int .i64 0, .int .i64 0, .string ⟨#[]⟩, .slice none 0 0, .slice none 0 0, .slice none 0 0] 28)) w.heap.size cs
 exact ⟨g, k, hr, setRow_heap _ _ _ cs _ _ k, (gUQ g (nLQ _) (by nofun)).trans (gUQ (B := w.heap.size) hr (by simp) (fun q hq => by have e2 : w.heap.size = q := oJQ hq; omega))⟩
theorem put_res {w W : World} {old : Array Value} (hB : Below w.heap.size w W) (k : W.heap[w.heap.size + 1]? = some (.cells old 28 (0, 0))) (cs : Array Value) : Hid ((W.setRow (w.heap.size + 1) cs).heap[w.heap.size + 1]? = some (.cells cs 28 (0, 0)))/\Hid (Below w.heap.size w (W.setRow (w.heap.size + 1) cs)) :=
 ⟨setRow_heap W _ _ cs _ _ k, hB.trans (gUQ (B := w.heap.size) (gRQ W (w.heap.size + 1) cs) hB.size (fun q hq => by have e2 : w.heap.size + 1 = q := oJQ hq; omega))⟩
theorem res2 {fn : Func} {p u : Tmp} {tmps : Array Value} {w : World} {R : Nat} {x a b c d e f : Value} (h : fn.results = #[.cell p 28, .tmp u]) (hp : tmps.getD p undef = .pointer (some ⟨R, 0, none⟩)) (hu : tmps.getD u undef = x) (hk : w.heap[R]? = some (.cells #[a, b, c, d, e, f] 28 (0, 0))) : (results fn tmps).run Tryz.prog w = .ok (.tuple #[.agg #[a, b, c, d, e, f], x]) w := by
 rw [results_cell_tmp h, hp, hu]
 simp [asAddr, run_loadVar_row _ _ _ _ _ _ _ hk Tryz.underlying28 rfl cIQ, Result.andThen]
theorem step_none {c : Cn} (h : (spineC c).1.op ≠ 11 ∨ (spineC c).2 = []) : stepC c = none := by
 unfold stepC
 by_cases h1 : (spineC c).1.op = 11
 ·rw [if_pos h1, h.resolve_left (fun k => k h1)]
 ·rw [if_neg h1]
theorem step_cons {c a : Cn} {r : List Cn} (h : (spineC c).1.op = 11) (hl : (spineC c).2 = a :: r) : stepC c = some (r.foldl appC (sC9 [a] 0 ((spineC c).1.l.getD 0 default))) := by
 unfold stepC
 rw [if_pos h, hl]
end Go.Proofs.YtkiffgdinmpljaaGreatDoor
