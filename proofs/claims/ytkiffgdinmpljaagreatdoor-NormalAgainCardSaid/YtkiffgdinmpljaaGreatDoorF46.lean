/- The reference's Tame. Printed by gen_rtame.py, expanded by mac.py. -/
import Derived.Test.YtkiffgdinmpljaaGreatDoorF45
import Derived.Test.YtkiffgdinmpljaaGreatDoorF34
set_option linter.unusedVariables false
set_option linter.unusedSimpArgs false
namespace Go.Proofs.YtkiffgdinmpljaaGreatDoor
open Go Go.RowKit
set_option maxHeartbeats 8000000
set_option maxRecDepth 100000
theorem rnorm_all : ∀ (F : Nat) (x : ConD), RNormAll F x
 | 0, x => by
   intro P w left _ _ _ _ _ hfu _ _
   exfalso
   have : 1<=dCQ (pC x) := by cases x; rw [pMQ, depthC_mk]; omega
   omega
 | F + 1, x => rnorm_step F (fun y => rnorm_all F y) x
def RTameOk (P : Nat->Prop) (x : Cn) (w : World) (e : Ending) (w' : World) : Prop :=
 ∃ (d : ConD) (b : Bool), e = .returned (.tuple #[conV d, .bool b])/\IsCon P w' d/\Below w.heap.size w w'/\(valC x = false->b = false)/\(valC x = true->tameN x = none->b = false)/\(valC x = true->∀ y m, tameN x = some (y, m)->b = true/\pC d = y)
theorem rtame_any (P : Nat->Prop) (x : ConD) (w : World) (hP : ∀ b, w.heap.size<=b->P b) (h : IsCon P w x) (hb : bndC (pC x)) :
 Calls Tryz.prog 11 #[conV x] w (RTameOk P (pC x) w) := by
 obtain ⟨op, n, s, k, nv, ns, lv, l⟩ := x
 obtain ⟨ka, kc, kn, hks⟩ := iKQ h.parts.kind
 obtain ⟨na, nc, rfl, _⟩ := rSQ h.parts.names
 obtain ⟨a, c, rfl, _⟩ := rSQ h.parts.row
 rw [cVQ hks]
 have hll : l.length<=9223372036854775807 := by have h1 := h.parts.llen; have : maxLen = 9223372036854775807 := (by decide); omega
 have hnn : ns.length<=9223372036854775807 := by have h1 := h.parts.nlen; have : maxLen = 9223372036854775807 := (by decide); omega
 have hb0 : Below w.heap.size w (w.alloc (.cells #[.int .i64 op, .int .i64 n, .string s, .slice ka kn kc, .slice na ns.length nc, .slice a l.length c] 28)) := (Below.refl _ _).alloc (Nat.le_refl _) _
 have gC := nHQ w (.cells #[.int .i64 op, .int .i64 n, .string s, .slice ka kn kc, .slice na ns.length nc, .slice a l.length c] 28)
 have hsz0 : (w.alloc (.cells #[.int .i64 op, .int .i64 n, .string s, .slice ka kn kc, .slice na ns.length nc, .slice a l.length c] 28)).heap.size = w.heap.size + 1 := by simp
 obtain ⟨c0, c1, c2, c3, c4, c5⟩ := cnQ gC
 have HP := hJQ (iBQ h hb0).parts
 have HC0 := hJQ (iBQ h hb0)
 have hPW := cVQ (op := op) (n := n) (s := s) (nv := .slice na ns.length nc) (lv := .slice a l.length c) (ns := ns) (l := l) hks
 have g1 := gAQ (w.alloc (.cells #[.int .i64 op, .int .i64 n, .string s, .slice ka kn kc, .slice na ns.length nc, .slice a l.length c] 28)) (.cells #[.int .i64 0, .int .i64 0, .string ⟨#[]⟩, .slice none 0 0, .slice none 0 0, .slice none 0 0] 28)
 have s1 : ((w.alloc (.cells #[.int .i64 op, .int .i64 n, .string s, .slice ka kn kc, .slice na ns.length nc, .slice a l.length c] 28)).alloc (.cells #[.int .i64 0, .int .i64 0, .string ⟨#[]⟩, .slice none 0 0, .slice none 0 0, .slice none 0 0] 28)).heap.size = w.heap.size + 1 + 1 := by simp
 have kR : ((w.alloc (.cells #[.int .i64 op, .int .i64 n, .string s, .slice ka kn kc, .slice na ns.length nc, .slice a l.length c] 28)).alloc (.cells #[.int .i64 0, .int .i64 0, .string ⟨#[]⟩, .slice none 0 0, .slice none 0 0, .slice none 0 0] 28)).heap[w.heap.size + 1]? = _ := (congrArg _ hsz0.symm).trans (nHQ (w.alloc (.cells #[.int .i64 op, .int .i64 n, .string s, .slice ka kn kc, .slice na ns.length nc, .slice a l.length c] 28)) (.cells #[.int .i64 0, .int .i64 0, .string ⟨#[]⟩, .slice none 0 0, .slice none 0 0, .slice none 0 0] 28))
 have kB := (g1.block w.heap.size (by omega) (by nofun)).trans gC
 have hbW := gUQ (B := w.heap.size) (gBQ (gAQ w (.cells #[.int .i64 op, .int .i64 n, .string s, .slice ka kn kc, .slice na ns.length nc, .slice a l.length c] 28)) g1) (Nat.le_refl _) (by nofun)
 have HV := rvalid_any P _ _ (iBQ h hbW) hb
 rw [hPW] at HV
 have HV := hJQ HV
 have HT : Hid (valC (pC (.mk op n s k (.slice na ns.length nc) ns (.slice a l.length c) l)) = true->∀ U, Below w.heap.size w U->w.heap.size + 2<=U.heap.size->Calls Tryz.prog 30 #[(.agg #[.int .i64 op, .int .i64 n, .string s, .slice ka kn kc, .slice na ns.length nc, .slice a l.length c]), .int .i64 10000] U (RNOk (fun b => P b/\b ≠ w.heap.size + 1) (tameN (pC (.mk op n s k (.slice na ns.length nc) ns (.slice a l.length c) l))) U)) := fun hv U hU hzU => by
  obtain ⟨hv1, hv2, hv3⟩ := val_iff.1 hv
  have := rnorm_all deepF (.mk op n s k (.slice na ns.length nc) ns (.slice a l.length c) l) (fun b => P b/\b ≠ w.heap.size + 1) U 10000 (fun b hb => ⟨hP b (by omega), by omega⟩) (iBQ (h.lt.mono (fun b hb _ => ⟨hb.1, by have := hb.2; omega⟩)) hU) hv3 hb (Nat.le_refl _) (by unfold deepF; omega) hv2 hv1
  rw [hPW] at this
  exact this
 clear h hks hPW g1 gC HP HC0 hb0 hsz0 c0 c1 c2 c3 c4 c5 hb hP
 generalize pC (.mk op n s k (.slice na ns.length nc) ns (.slice a l.length c) l) = px at *
 go_enter Tryz.func11, Tryz.ntmps11
 go_upto_region 1 with fail
 generalize ((w.alloc (.cells #[.int .i64 op, .int .i64 n, .string s, .slice ka kn kc, .slice na ns.length nc, .slice a l.length c] 28)).alloc (.cells #[.int .i64 0, .int .i64 0, .string ⟨#[]⟩, .slice none 0 0, .slice none 0 0, .slice none 0 0] 28)) = W at *
 obtain ⟨c0, c1, c2, c3, c4, c5⟩ := cnQ kB
 go_wp2_with fail
 refine HV.out.mono ?_
 rintro e w2 ⟨rfl, hb2⟩
 have hbw2 := hbW.trans (hb2.mono hbW.size)
 have kR2 := (hb2.block _ (hLQ kR)).trans kR
 have kB2 := (hb2.block _ (hLQ kB)).trans kB
 have hs2 := hb2.size
 obtain ⟨vb, hvb⟩ : ∃ b, valC px = b := ⟨_, rfl⟩
 rw [hvb]
 have HVB := hJQ hvb
 clear hvb HV c0 c1 c2 c3 c4 c5 kR kB hb2
 cases vb
 ·clear HT
  have hrow := gRQ w2 (w.heap.size + 1) #[.int .i64 0, .int .i64 0, .string ⟨#[]⟩, .slice none 0 0, .slice none 0 0, .slice none 0 0]
  have HRF := hJQ (setRow_heap w2 (w.heap.size + 1) _ #[.int .i64 0, .int .i64 0, .string ⟨#[]⟩, .slice none 0 0, .slice none 0 0, .slice none 0 0] _ _ kR2)
  have HBF := hJQ (hbw2.trans (gUQ (B := w.heap.size) hrow (by have := hbw2.size; omega) (fun q hq => by have e2 : (w.heap.size + 1) = q := oJQ hq; omega)))
  have HCF : Hid (IsCon P (w2.setRow (w.heap.size + 1) #[.int .i64 0, .int .i64 0, .string ⟨#[]⟩, .slice none 0 0, .slice none 0 0, .slice none 0 0]) zeroD) := zero_con _ _
  clear hrow
  go_wp2_with (refine wpList_store_row rfl 28 _ _ rfl (w.heap.size + 1) _ rfl rfl 28 _ kR2 cIQ rfl (all_one _ rfl) ?_)
  refine bodyPost_ret (v := .tuple #[.agg #[.int .i64 0, .int .i64 0, .string ⟨#[]⟩, .slice none 0 0, .slice none 0 0, .slice none 0 0], .bool false]) ?_ rfl ⟨zeroD, false, rfl, HCF.out, HBF.out, fun _ => rfl, (fun h => by rw [HVB.out] at h; cases h), (fun h => by rw [HVB.out] at h; cases h)⟩
  rw [results_cell_tmp (p := 2) (u := 3) (ty := 28) rfl]
  simp [asAddr, run_loadVar_row _ _ _ _ _ _ _ HRF.out Tryz.underlying28 rfl cIQ, Result.andThen]
 ·have HT2 := hJQ (HT.out HVB.out w2 hbw2 (by omega))
  clear HT
  obtain ⟨c0, c1, c2, c3, c4, c5⟩ := cnQ kB2
  go_wp2_with fail
  refine HT2.out.mono ?_
  rintro e w3 ⟨d, r, rfl, hdd, hb3, hno, hyes⟩
  obtain ⟨zop, zn, zs, zk, zns, zl, zka, zkn, zkc, zna, znc, za, zc, rfl, hzk, _⟩ := cSQ hdd
  have hzv := cVQ (op := zop) (n := zn) (s := zs) (nv := .slice zna zns.length znc) (lv := .slice za zl.length zc) (ns := zns) (l := zl) hzk
  rw [hzv]
  have hs3 := hb3.size
  have hbw3 := hbw2.trans (hb3.mono hbw2.size)
  have kR3 := (hb3.block _ (hLQ kR2)).trans kR2
  have hltR := hLQ kR3
  have hga := gAQ w3 (.cells #[.int .i64 0, .int .i64 0, .string ⟨#[]⟩, .slice none 0 0, .slice none 0 0, .slice none 0 0] 28)
  have hrw := gRQ (w3.alloc (.cells #[.int .i64 0, .int .i64 0, .string ⟨#[]⟩, .slice none 0 0, .slice none 0 0, .slice none 0 0] 28)) w3.heap.size #[.int .i64 zop, .int .i64 zn, .string zs, .slice zka zkn zkc, .slice zna zns.length znc, .slice za zl.length zc]
  have kO := setRow_heap (w3.alloc (.cells #[.int .i64 0, .int .i64 0, .string ⟨#[]⟩, .slice none 0 0, .slice none 0 0, .slice none 0 0] 28)) w3.heap.size _ #[.int .i64 zop, .int .i64 zn, .string zs, .slice zka zkn zkc, .slice zna zns.length znc, .slice za zl.length zc] _ _ (nHQ w3 (.cells #[.int .i64 0, .int .i64 0, .string ⟨#[]⟩, .slice none 0 0, .slice none 0 0, .slice none 0 0] 28))
  have kRV := (hrw.block (w.heap.size + 1) (by simp; omega) (fun e => by have e2 : w.heap.size + 1 = w3.heap.size := oJQ e; omega)).trans ((hga.block (w.heap.size + 1) (by omega) (by nofun)).trans kR3)
  have hbV := (hbw3.trans (gUQ (B := w.heap.size) hga (by omega) (by nofun))).trans (gUQ (B := w.heap.size) hrw (by simp; omega) (fun q hq => by have e2 : w3.heap.size = q := oJQ hq; omega))
  have hdV := (hdd.lt.grown hga (by nofun)).grown hrw (fun q hq hp => by have e2 : w3.heap.size = q := oJQ hq; have := hp.2; omega)
  have HKO := hJQ kO
  have HKR := hJQ kRV
  have HBV := hJQ hbV
  have HDV := hJQ hdV
  have HZV := hJQ hzv
  have HNo := hJQ hno
  have HYes := hJQ hyes
  have kN := nHQ w3 (.cells #[.int .i64 0, .int .i64 0, .string ⟨#[]⟩, .slice none 0 0, .slice none 0 0, .slice none 0 0] 28)
  clear HT2 hga hrw kO kRV hbV hdd hdV hzv hzk hno hyes kR3 kR2 kB2 hbw3 c0 c1 c2 c3 c4 c5
  go_upto_region 4 with (refine wpList_store_row rfl 28 _ _ rfl w3.heap.size _ rfl rfl 28 _ kN cIQ rfl (all_one _ rfl) ?_)
  clear kN
  have hsV : ((w3.alloc (.cells #[.int .i64 0, .int .i64 0, .string ⟨#[]⟩, .slice none 0 0, .slice none 0 0, .slice none 0 0] 28)).setRow w3.heap.size #[.int .i64 zop, .int .i64 zn, .string zs, .slice zka zkn zkc, .slice zna zns.length znc, .slice za zl.length zc]).heap.size = w3.heap.size + 1 := by rw [size_setRow]; simp
  generalize ((w3.alloc (.cells #[.int .i64 0, .int .i64 0, .string ⟨#[]⟩, .slice none 0 0, .slice none 0 0, .slice none 0 0] 28)).setRow w3.heap.size #[.int .i64 zop, .int .i64 zn, .string zs, .slice zka zkn zkc, .slice zna zns.length znc, .slice za zl.length zc]) = V at *
  obtain ⟨x0, x1, x2, x3, x4, x5⟩ := cnQ HKO.out
  have hbV := HBV.out
  have kRV := HKR.out
  have hdV := HDV.out
  obtain ⟨bb, hbb, HPo⟩ : ∃ bb : Bool, Hid (decide (r ≥ 0) = bb)/\Hid ((tameN px = none->bb = false)/\(∀ y m, tameN px = some (y, m)->bb = true/\pC (ConD.mk zop zn zs zk (.slice zna zns.length znc) zns (.slice za zl.length zc) zl) = y)) := by
   refine ⟨decide (r ≥ 0), rfl, ?_, ?_⟩
   ·intro ht
    rw [HNo.out ht]; rfl
   ·intro y m ht
    obtain ⟨h1, h2⟩ := HYes.out y m ht
    exact ⟨by rw [h2]; exact decide_eq_true (by omega), h1⟩
  have hr2 : (0<=r) = (bb = true) := by rw [← hbb.out]; simp
  clear HNo HYes HKO HBV HKR HDV
  cases bb
  ·have hr3 : ¬ (0<=r) := by rw [hr2]; decide
   clear hr2
   have hrow := gRQ V (w.heap.size + 1) #[.int .i64 zop, .int .i64 zn, .string zs, .slice zka zkn zkc, .slice zna zns.length znc, .slice za zl.length zc]
   have HRF := hJQ (setRow_heap V (w.heap.size + 1) _ #[.int .i64 zop, .int .i64 zn, .string zs, .slice zka zkn zkc, .slice zna zns.length znc, .slice za zl.length zc] _ _ kRV)
   have HBF := hJQ (hbV.trans (gUQ (B := w.heap.size) hrow (by have := hbV.size; omega) (fun q hq => by have e2 : (w.heap.size + 1) = q := oJQ hq; omega)))
   have HCF : Hid (IsCon P (V.setRow (w.heap.size + 1) #[.int .i64 zop, .int .i64 zn, .string zs, .slice zka zkn zkc, .slice zna zns.length znc, .slice za zl.length zc]) (ConD.mk zop zn zs zk (.slice zna zns.length znc) zns (.slice za zl.length zc) zl)) := (hdV.grown hrow (fun q hq hp => by have e2 : w.heap.size + 1 = q := oJQ hq; exact hp.1.2 e2.symm)).mono (fun b hb _ => hb.1.1)
   clear hrow
   go_wp2_with (refine wpList_store_row rfl 28 _ _ rfl (w.heap.size + 1) _ rfl rfl 28 _ kRV cIQ rfl (all_one _ rfl) ?_)
   refine bodyPost_ret (v := .tuple #[.agg #[.int .i64 zop, .int .i64 zn, .string zs, .slice zka zkn zkc, .slice zna zns.length znc, .slice za zl.length zc], .bool false]) ?_ rfl ⟨_, false, by rw [HZV.out], HCF.out, HBF.out, (fun _ => rfl), (fun _ _ => rfl), (fun _ y m ht => HPo.out.2 y m ht)⟩
   rw [results_cell_tmp (p := 2) (u := 3) (ty := 28) rfl]
   simp [asAddr, run_loadVar_row _ _ _ _ _ _ _ HRF.out Tryz.underlying28 rfl cIQ, Result.andThen]
  ·have hr3 : 0<=r := by rw [hr2]
   clear hr2
   have hrow := gRQ V (w.heap.size + 1) #[.int .i64 zop, .int .i64 zn, .string zs, .slice zka zkn zkc, .slice zna zns.length znc, .slice za zl.length zc]
   have HRF := hJQ (setRow_heap V (w.heap.size + 1) _ #[.int .i64 zop, .int .i64 zn, .string zs, .slice zka zkn zkc, .slice zna zns.length znc, .slice za zl.length zc] _ _ kRV)
   have HBF := hJQ (hbV.trans (gUQ (B := w.heap.size) hrow (by have := hbV.size; omega) (fun q hq => by have e2 : (w.heap.size + 1) = q := oJQ hq; omega)))
   have HCF : Hid (IsCon P (V.setRow (w.heap.size + 1) #[.int .i64 zop, .int .i64 zn, .string zs, .slice zka zkn zkc, .slice zna zns.length znc, .slice za zl.length zc]) (ConD.mk zop zn zs zk (.slice zna zns.length znc) zns (.slice za zl.length zc) zl)) := (hdV.grown hrow (fun q hq hp => by have e2 : w.heap.size + 1 = q := oJQ hq; exact hp.1.2 e2.symm)).mono (fun b hb _ => hb.1.1)
   clear hrow
   go_wp2_with (refine wpList_store_row rfl 28 _ _ rfl (w.heap.size + 1) _ rfl rfl 28 _ kRV cIQ rfl (all_one _ rfl) ?_)
   refine bodyPost_ret (v := .tuple #[.agg #[.int .i64 zop, .int .i64 zn, .string zs, .slice zka zkn zkc, .slice zna zns.length znc, .slice za zl.length zc], .bool true]) ?_ rfl ⟨_, true, by rw [HZV.out], HCF.out, HBF.out, (fun h => by rw [HVB.out] at h; cases h), (fun _ ht => HPo.out.1 ht), (fun _ y m ht => ⟨rfl, (HPo.out.2 y m ht).2⟩)⟩
   rw [results_cell_tmp (p := 2) (u := 3) (ty := 28) rfl]
   simp [asAddr, run_loadVar_row _ _ _ _ _ _ _ HRF.out Tryz.underlying28 rfl cIQ, Result.andThen]
end Go.Proofs.YtkiffgdinmpljaaGreatDoor
