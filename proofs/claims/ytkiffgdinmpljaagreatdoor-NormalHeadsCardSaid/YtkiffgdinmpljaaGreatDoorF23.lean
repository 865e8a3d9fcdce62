/- normal.tame, normal.Normal. Printed by gen_normal.py, expanded by mac.py. -/
import Derived.Test.YtkiffgdinmpljaaGreatDoorF22
set_option linter.unusedVariables false
set_option linter.unusedSimpArgs false
namespace Go.Proofs.YtkiffgdinmpljaaGreatDoor
open Go Go.RowKit
set_option maxHeartbeats 8000000
set_option maxRecDepth 100000
def TameOk (P : Nat->Prop) (res : Option (Cn × Nat)) (w : World) (e : Ending) (w' : World) : Prop :=
 ∃ (d : ConD) (b : Bool), e = .returned (.tuple #[conV d, .bool b])/\IsCon P w' d/\Below w.heap.size w w'/\sizeC (pC d)<=20000/\(res = none->b = false)/\(∀ y m, res = some (y, m)->b = true/\pC d = y)
theorem tame_any (P : Nat->Prop) (x : ConD) (w : World) (hE : EnvN w) (hP : ∀ b, w.heap.size<=b->P b) (h : IsCon P w x) (hv : valC (pC x) = true) (hb : bndC (pC x)) :
 Calls Tryz.prog 26 #[conV x] w (TameOk P (tameN (pC x)) w) := by
 obtain ⟨hv1, hv2, hv3⟩ := val_iff.1 hv
 have hlt := h.lt
 obtain ⟨op, n, s, k, nv, ns, lv, l⟩ := x
 obtain ⟨ka, kc, kn, na, nc, a, c, rfl, _, rfl, _, hks, hcv, hll, hnn, hb0, gC, hsz0, HP, HC0, c0, c1, c2, c3, c4, c5⟩ := open_box h
 rw [hcv]
 clear hcv
 have hPW := cVQ (op := op) (n := n) (s := s) (nv := .slice na ns.length nc) (lv := .slice a l.length c) (ns := ns) (l := l) hks
 have g1 := gAQ (w.alloc (.cells #[.int .i64 op, .int .i64 n, .string s, .slice ka kn kc, .slice na ns.length nc, .slice a l.length c] 28)) (.cells #[.int .i64 0, .int .i64 0, .string ⟨#[]⟩, .slice none 0 0, .slice none 0 0, .slice none 0 0] 28)
 have g2 := gAQ ((w.alloc (.cells #[.int .i64 op, .int .i64 n, .string s, .slice ka kn kc, .slice na ns.length nc, .slice a l.length c] 28)).alloc (.cells #[.int .i64 0, .int .i64 0, .string ⟨#[]⟩, .slice none 0 0, .slice none 0 0, .slice none 0 0] 28)) (.cells #[.int .i64 0, .bool false] 75)
 have s1 : ((w.alloc (.cells #[.int .i64 op, .int .i64 n, .string s, .slice ka kn kc, .slice na ns.length nc, .slice a l.length c] 28)).alloc (.cells #[.int .i64 0, .int .i64 0, .string ⟨#[]⟩, .slice none 0 0, .slice none 0 0, .slice none 0 0] 28)).heap.size = w.heap.size + 1 + 1 := by simp
 have s2 : (((w.alloc (.cells #[.int .i64 op, .int .i64 n, .string s, .slice ka kn kc, .slice na ns.length nc, .slice a l.length c] 28)).alloc (.cells #[.int .i64 0, .int .i64 0, .string ⟨#[]⟩, .slice none 0 0, .slice none 0 0, .slice none 0 0] 28)).alloc (.cells #[.int .i64 0, .bool false] 75)).heap.size = w.heap.size + 3 := by simp
 have kR1 : ((w.alloc (.cells #[.int .i64 op, .int .i64 n, .string s, .slice ka kn kc, .slice na ns.length nc, .slice a l.length c] 28)).alloc (.cells #[.int .i64 0, .int .i64 0, .string ⟨#[]⟩, .slice none 0 0, .slice none 0 0, .slice none 0 0] 28)).heap[w.heap.size + 1]? = _ := (congrArg _ hsz0.symm).trans (nHQ (w.alloc (.cells #[.int .i64 op, .int .i64 n, .string s, .slice ka kn kc, .slice na ns.length nc, .slice a l.length c] 28)) (.cells #[.int .i64 0, .int .i64 0, .string ⟨#[]⟩, .slice none 0 0, .slice none 0 0, .slice none 0 0] 28))
 have kR := (g2.block (w.heap.size + 1) (by omega) (by nofun)).trans kR1
 have kB := (g2.block w.heap.size (by omega) (by nofun)).trans ((g1.block w.heap.size (by omega) (by nofun)).trans gC)
 have kC : CtAt (((w.alloc (.cells #[.int .i64 op, .int .i64 n, .string s, .slice ka kn kc, .slice na ns.length nc, .slice a l.length c] 28)).alloc (.cells #[.int .i64 0, .int .i64 0, .string ⟨#[]⟩, .slice none 0 0, .slice none 0 0, .slice none 0 0] 28)).alloc (.cells #[.int .i64 0, .bool false] 75)) (w.heap.size + 1 + 1) 0 false := by
  have := nHQ ((w.alloc (.cells #[.int .i64 op, .int .i64 n, .string s, .slice ka kn kc, .slice na ns.length nc, .slice a l.length c] 28)).alloc (.cells #[.int .i64 0, .int .i64 0, .string ⟨#[]⟩, .slice none 0 0, .slice none 0 0, .slice none 0 0] 28)) (.cells #[.int .i64 0, .bool false] 75)
  rw [s1] at this
  exact this
 have hgW := gBQ (gBQ (gAQ w (.cells #[.int .i64 op, .int .i64 n, .string s, .slice ka kn kc, .slice na ns.length nc, .slice a l.length c] 28)) g1) g2
 have hbW := gUQ (B := w.heap.size) hgW (nLQ _) (by nofun)
 have hEK : EnvK (((w.alloc (.cells #[.int .i64 op, .int .i64 n, .string s, .slice ka kn kc, .slice na ns.length nc, .slice a l.length c] 28)).alloc (.cells #[.int .i64 0, .int .i64 0, .string ⟨#[]⟩, .slice none 0 0, .slice none 0 0, .slice none 0 0] 28)).alloc (.cells #[.int .i64 0, .bool false] 75)) (w.heap.size + 1 + 1) := fun U hU => hE.below (hbW.trans (gUQ hU (by omega) (fun q hq => by have e2 : w.heap.size + 1 + 1 = q := oJQ hq; omega)))
 have HN := norm_all (w.heap.size + 1 + 1) deepF (.mk op n s k (.slice na ns.length nc) ns (.slice a l.length c) l) (fun b => P b/\b ≠ w.heap.size + 1/\b ≠ w.heap.size + 1 + 1) (((w.alloc (.cells #[.int .i64 op, .int .i64 n, .string s, .slice ka kn kc, .slice na ns.length nc, .slice a l.length c] 28)).alloc (.cells #[.int .i64 0, .int .i64 0, .string ⟨#[]⟩, .slice none 0 0, .slice none 0 0, .slice none 0 0] 28)).alloc (.cells #[.int .i64 0, .bool false] 75)) 10000 hEK ((hlt.keep hbW.size (fun b _ hlt => hbW.block b hlt)).mono (fun b hb _ => ⟨hb.1, by have := hb.2; omega, by have := hb.2; omega⟩)) (fun hp => hp.2.2 rfl) (fun b hb => ⟨hP b (by omega), by omega, by omega⟩) hv3 hb kC (nLQ _) (by unfold deepF; omega) hv2 hv1
 rw [hPW] at HN
 have HN := hJQ HN
 clear h hks hPW g1 g2 s1 kR1 gC HP HC0 hb0 hsz0 c0 c1 c2 c3 c4 c5 hE hv hv1 hv2 hv3 hb hlt hgW hEK kC hP
 rw [show nrmN deepF (pC (.mk op n s k (.slice na ns.length nc) ns (.slice a l.length c) l)) 10000 = tameN (pC (.mk op n s k (.slice na ns.length nc) ns (.slice a l.length c) l)) from rfl] at HN
 generalize tameN (pC (.mk op n s k (.slice na ns.length nc) ns (.slice a l.length c) l)) = res at *
 go_enter Tryz.func26, Tryz.ntmps26
 go_upto_region 2 with fail
 generalize (((w.alloc (.cells #[.int .i64 op, .int .i64 n, .string s, .slice ka kn kc, .slice na ns.length nc, .slice a l.length c] 28)).alloc (.cells #[.int .i64 0, .int .i64 0, .string ⟨#[]⟩, .slice none 0 0, .slice none 0 0, .slice none 0 0] 28)).alloc (.cells #[.int .i64 0, .bool false] 75)) = W at *
 obtain ⟨c0, c1, c2, c3, c4, c5⟩ := cnQ kB
 go_wp2_with fail
 refine HN.out.mono ?_
 rintro e w2 ⟨d, ov, st, rfl, hct, hgr, hdd, hds, hno, hyes⟩
 obtain ⟨zop, zn, zs, zk, zns, zl, zka, zkn, zkc, zna, znc, za, zc, rfl, hzk, _⟩ := cSQ hdd
 have hzv := cVQ (op := zop) (n := zn) (s := zs) (nv := .slice zna zns.length znc) (lv := .slice za zl.length zc) (ns := zns) (l := zl) hzk
 rw [hzv]
 have hs2 := hgr.size
 have hb2 := hbW.trans (gUQ hgr (by omega) (fun q hq => by have e2 : w.heap.size + 1 + 1 = q := oJQ hq; omega))
 have kR2 := (hgr.block (w.heap.size + 1) (by omega) (fun e => by have e2 : w.heap.size + 1 = w.heap.size + 1 + 1 := oJQ e; omega)).trans kR
 have hga := gAQ w2 (.cells #[.int .i64 0, .int .i64 0, .string ⟨#[]⟩, .slice none 0 0, .slice none 0 0, .slice none 0 0] 28)
 have hrw := gRQ (w2.alloc (.cells #[.int .i64 0, .int .i64 0, .string ⟨#[]⟩, .slice none 0 0, .slice none 0 0, .slice none 0 0] 28)) w2.heap.size #[.int .i64 zop, .int .i64 zn, .string zs, .slice zka zkn zkc, .slice zna zns.length znc, .slice za zl.length zc]
 have kO := setRow_heap (w2.alloc (.cells #[.int .i64 0, .int .i64 0, .string ⟨#[]⟩, .slice none 0 0, .slice none 0 0, .slice none 0 0] 28)) w2.heap.size _ #[.int .i64 zop, .int .i64 zn, .string zs, .slice zka zkn zkc, .slice zna zns.length znc, .slice za zl.length zc] _ _ (nHQ w2 (.cells #[.int .i64 0, .int .i64 0, .string ⟨#[]⟩, .slice none 0 0, .slice none 0 0, .slice none 0 0] 28))
 have kCV : CtAt ((w2.alloc (.cells #[.int .i64 0, .int .i64 0, .string ⟨#[]⟩, .slice none 0 0, .slice none 0 0, .slice none 0 0] 28)).setRow w2.heap.size #[.int .i64 zop, .int .i64 zn, .string zs, .slice zka zkn zkc, .slice zna zns.length znc, .slice za zl.length zc]) (w.heap.size + 1 + 1) st ov := (hct.grown hga (by nofun)).grown hrw (fun e => by have e2 : w2.heap.size = w.heap.size + 1 + 1 := oJQ e; omega)
 have kRV := (hrw.block (w.heap.size + 1) (by simp; omega) (fun e => by have e2 : w.heap.size + 1 = w2.heap.size := oJQ e; omega)).trans ((hga.block (w.heap.size + 1) (by omega) (by nofun)).trans kR2)
 have hbV := (hb2.trans (gUQ (B := w.heap.size) hga (by omega) (by nofun))).trans (gUQ (B := w.heap.size) hrw (by simp; omega) (fun q hq => by have e2 : w2.heap.size = q := oJQ hq; omega))
 have hdV := ((hdd.lt).grown hga (by nofun)).grown hrw (fun q hq hp => by have e2 : w2.heap.size = q := oJQ hq; have := hp.2; omega)
 have HDV := hJQ hdV
 have HZV := hJQ hzv
 have HNo := hJQ hno
 have HYes := hJQ hyes
 have kN := nHQ w2 (.cells #[.int .i64 0, .int .i64 0, .string ⟨#[]⟩, .slice none 0 0, .slice none 0 0, .slice none 0 0] 28)
 have HKO := hJQ kO
 have HKC := hJQ kCV
 have HKR := hJQ kRV
 have HBV := hJQ hbV
 clear HN hga hrw kO kCV kRV hbV hdd hdV hzv hzk hno hyes hct hgr kR2 kR kB hb2 c0 c1 c2 c3 c4 c5
 go_upto_region 3 with (refine wpList_store_row rfl 28 _ _ rfl w2.heap.size _ rfl rfl 28 _ kN cIQ rfl (all_one _ rfl) ?_)
 clear kN
 have hsV : ((w2.alloc (.cells #[.int .i64 0, .int .i64 0, .string ⟨#[]⟩, .slice none 0 0, .slice none 0 0, .slice none 0 0] 28)).setRow w2.heap.size #[.int .i64 zop, .int .i64 zn, .string zs, .slice zka zkn zkc, .slice zna zns.length znc, .slice za zl.length zc]).heap.size = w2.heap.size + 1 := by rw [size_setRow]; simp
 generalize ((w2.alloc (.cells #[.int .i64 0, .int .i64 0, .string ⟨#[]⟩, .slice none 0 0, .slice none 0 0, .slice none 0 0] 28)).setRow w2.heap.size #[.int .i64 zop, .int .i64 zn, .string zs, .slice zka zkn zkc, .slice zna zns.length znc, .slice za zl.length zc]) = V at *
 have hrow := gRQ V (w.heap.size + 1) #[.int .i64 zop, .int .i64 zn, .string zs, .slice zka zkn zkc, .slice zna zns.length znc, .slice za zl.length zc]
 have kR3 := setRow_heap V (w.heap.size + 1) _ #[.int .i64 zop, .int .i64 zn, .string zs, .slice zka zkn zkc, .slice zna zns.length znc, .slice za zl.length zc] _ _ HKR.out
 have kO3 := (hrow.block w2.heap.size (by omega) (fun e => by have e2 : w2.heap.size = w.heap.size + 1 := oJQ e; omega)).trans HKO.out
 have kC3 : CtAt (V.setRow (w.heap.size + 1) #[.int .i64 zop, .int .i64 zn, .string zs, .slice zka zkn zkc, .slice zna zns.length znc, .slice za zl.length zc]) (w.heap.size + 1 + 1) st ov := HKC.out.grown hrow (fun e => by have e2 : w.heap.size + 1 = w.heap.size + 1 + 1 := oJQ e; omega)
 have HB3 := hJQ (HBV.out.trans (gUQ (B := w.heap.size) hrow (by omega) (fun q hq => by have e2 : w.heap.size + 1 = q := oJQ hq; omega)))
 have HD3 := hJQ ((HDV.out.grown hrow (fun q hq hp => by have e2 : w.heap.size + 1 = q := oJQ hq; exact hp.1.2.1 e2.symm)).mono (Q := P) (fun b hb _ => hb.1.1))
 have kOd : V.drew.heap[w2.heap.size]? = _ := HKO.out
 have kCd : CtAt V.drew (w.heap.size + 1 + 1) st ov := HKC.out
 have kRd : V.drew.heap[w.heap.size + 1]? = _ := HKR.out
 have S0 : (fun w9 => w9.cell? ⟨w2.heap.size, 0, none⟩ = some (.int .i64 zop)/\w9.cell? ⟨w2.heap.size, 1, none⟩ = some (.int .i64 zn)/\w9.cell? ⟨w2.heap.size, 2, none⟩ = some (.string zs)/\w9.cell? ⟨w2.heap.size, 3, none⟩ = some (.slice zka zkn zkc)/\w9.cell? ⟨w2.heap.size, 4, none⟩ = some (.slice zna zns.length znc)/\w9.cell? ⟨w2.heap.size, 5, none⟩ = some (.slice za zl.length zc)/\w9.cell? ⟨w.heap.size + 1 + 1, 1, none⟩ = some (.bool ov)) V.drew := ⟨(cnQ kOd).1, (cnQ kOd).2.1, (cnQ kOd).2.2.1, (cnQ kOd).2.2.2.1, (cnQ kOd).2.2.2.2.1, (cnQ kOd).2.2.2.2.2, kCd.cells.2.1⟩
 have S3 : (fun w9 => w9.cell? ⟨w2.heap.size, 0, none⟩ = some (.int .i64 zop)/\w9.cell? ⟨w2.heap.size, 1, none⟩ = some (.int .i64 zn)/\w9.cell? ⟨w2.heap.size, 2, none⟩ = some (.string zs)/\w9.cell? ⟨w2.heap.size, 3, none⟩ = some (.slice zka zkn zkc)/\w9.cell? ⟨w2.heap.size, 4, none⟩ = some (.slice zna zns.length znc)/\w9.cell? ⟨w2.heap.size, 5, none⟩ = some (.slice za zl.length zc)/\w9.cell? ⟨w.heap.size + 1 + 1, 1, none⟩ = some (.bool ov)) (V.setRow (w.heap.size + 1) #[.int .i64 zop, .int .i64 zn, .string zs, .slice zka zkn zkc, .slice zna zns.length znc, .slice za zl.length zc]) := ⟨(cnQ kO3).1, (cnQ kO3).2.1, (cnQ kO3).2.2.1, (cnQ kO3).2.2.2.1, (cnQ kO3).2.2.2.2.1, (cnQ kO3).2.2.2.2.2, kC3.cells.2.1⟩
 have kR4 : (V.drew.setRow (w.heap.size + 1) #[.int .i64 zop, .int .i64 zn, .string zs, .slice zka zkn zkc, .slice zna zns.length znc, .slice za zl.length zc]).heap[w.heap.size + 1]? = _ := kR3
 have HR4 := hJQ kR4
 have hrow4 := gRQ V.drew (w.heap.size + 1) #[.int .i64 zop, .int .i64 zn, .string zs, .slice zka zkn zkc, .slice zna zns.length znc, .slice za zl.length zc]
 have HB4 := hJQ (HBV.out.drew.trans (gUQ (B := w.heap.size) hrow4 (by show w.heap.size<=V.heap.size; omega) (fun q hq => by have e2 : w.heap.size + 1 = q := oJQ hq; omega)))
 have HD4 := hJQ (((HDV.out.grown (gDQ V) (by nofun)).grown hrow4 (fun q hq hp => by have e2 : w.heap.size + 1 = q := oJQ hq; exact hp.1.2.1 e2.symm)).mono (Q := P) (fun b hb _ => hb.1.1))
 refine wp_region_held_drew (S := (fun w9 => w9.cell? ⟨w2.heap.size, 0, none⟩ = some (.int .i64 zop)/\w9.cell? ⟨w2.heap.size, 1, none⟩ = some (.int .i64 zn)/\w9.cell? ⟨w2.heap.size, 2, none⟩ = some (.string zs)/\w9.cell? ⟨w2.heap.size, 3, none⟩ = some (.slice zka zkn zkc)/\w9.cell? ⟨w2.heap.size, 4, none⟩ = some (.slice zna zns.length znc)/\w9.cell? ⟨w2.heap.size, 5, none⟩ = some (.slice za zl.length zc)/\w9.cell? ⟨w.heap.size + 1 + 1, 1, none⟩ = some (.bool ov))) (by kernel_rfl) S0 (fun hHeld => ?_)
 refine tks (b := ?_) (by kernel_rfl) (fun _ _ _ _ _ h => h) S0 6 [0, 1, 2, 3, 4, 5] (by kernel_rfl) ?_ ?_
 rotate_left
 ·iterate 6 (refine yc (v := ?_) rfl rfl (by rfl) (fun w9 hSw => ?_) ?_; rotate_left; (focus go_simp; try rfl); simp only [Act.put, l1Q, l2Q, l3Q])
  exact rfl
 refine held_store 6 (by kernel_rfl) (by rfl) (by rfl) (by rfl) 28 _ _ (by rfl) (w.heap.size + 1) #[.int .i64 zop, .int .i64 zn, .string zs, .slice zka zkn zkc, .slice zna zns.length znc, .slice za zl.length zc] (by rfl) (by rfl) 28 _ kRd cIQ rfl (all_one _ rfl) S3 ?_
 refine tks (b := ?_) (by kernel_rfl) (fun _ _ _ _ _ h => h) S3 1 [7] (by kernel_rfl) ?_ ?_
 rotate_left
 ·refine yc (v := ?_) rfl rfl (by rfl) (fun w9 hSw => ?_) ?_; rotate_left; (focus go_simp; try rfl); simp only [Act.put, l1Q, l2Q, l3Q]
  exact rfl
 refine wpAnyH_done (by kernel_rfl) ?_ _
 clear S0 S3 kR3 kR4 kO3 kC3 kOd kCd kRd hrow hrow4 HB3 HD3 HKO HKC HKR HBV HDV
 go_wp2_with fail
 refine bodyPost_ret (v := .tuple #[.agg #[.int .i64 zop, .int .i64 zn, .string zs, .slice zka zkn zkc, .slice zna zns.length znc, .slice za zl.length zc], .bool (!ov)]) ?_ rfl ⟨_, (!ov), by rw [HZV.out], HD4.out, HB4.out, hds, fun hr => by rw [HNo.out hr]; rfl, fun y m hr => ⟨by rw [(HYes.out y m hr).1]; rfl, (HYes.out y m hr).2.1⟩⟩
 rw [results_cell_tmp (p := 2) (u := 3) (ty := 28) rfl]
 simp [asAddr, run_loadVar_row _ _ _ _ _ _ _ HR4.out Tryz.underlying28 rfl cIQ, Result.andThen]
def NormalOk (x : Cn) (w : World) (e : Ending) (w' : World) : Prop :=
 ∃ (d : ConD) (er : Int), e = .returned (.tuple #[conV d, .int .i64 er])/\IsCon (fun b => w.heap.size<=b) w' d/\Below w.heap.size w w'/\(valC x = false->d.op = 0/\er = 1)/\(valC x = true->tameN x = none->d.op = 0/\er = 27)/\(valC x = true->∀ y m, tameN x = some (y, m)->pC d = y/\er = 0)
theorem normal_any (P : Nat->Prop) (x : ConD) (w : World) (hE : EnvN w) (h : IsCon P w x) (hb : bndC (pC x)) (hsz : sizeC (pC x)<=1000000000) :
 Calls Tryz.prog 8 #[conV x] w (NormalOk (pC x) w) := by
 have h : IsCon (fun b => P b ∨ w.heap.size<=b) w x := h.mono (fun b hp _ => .inl hp)
 have hfr : ∀ y m, valC (pC x) = true->tameN (pC x) = some (y, m)->frmC y = true := fun y m hv ht => (norm_form cstB labsB deepF (pC x) 10000 y m (val_iff.1 hv).2.2 ht).1
 obtain ⟨op, n, s, k, nv, ns, lv, l⟩ := x
 obtain ⟨ka, kc, kn, na, nc, a, c, rfl, _, rfl, _, hks, hcv, hll, hnn, hb0, gC, hsz0, HP, HC0, c0, c1, c2, c3, c4, c5⟩ := open_box h
 rw [hcv]
 clear hcv
 have hPW := cVQ (op := op) (n := n) (s := s) (nv := .slice na ns.length nc) (lv := .slice a l.length c) (ns := ns) (l := l) hks
 have g1 := gAQ (w.alloc (.cells #[.int .i64 op, .int .i64 n, .string s, .slice ka kn kc, .slice na ns.length nc, .slice a l.length c] 28)) (.cells #[.int .i64 0, .int .i64 0, .string ⟨#[]⟩, .slice none 0 0, .slice none 0 0, .slice none 0 0] 28)
 have s1 : ((w.alloc (.cells #[.int .i64 op, .int .i64 n, .string s, .slice ka kn kc, .slice na ns.length nc, .slice a l.length c] 28)).alloc (.cells #[.int .i64 0, .int .i64 0, .string ⟨#[]⟩, .slice none 0 0, .slice none 0 0, .slice none 0 0] 28)).heap.size = w.heap.size + 1 + 1 := by simp
 have kR : ((w.alloc (.cells #[.int .i64 op, .int .i64 n, .string s, .slice ka kn kc, .slice na ns.length nc, .slice a l.length c] 28)).alloc (.cells #[.int .i64 0, .int .i64 0, .string ⟨#[]⟩, .slice none 0 0, .slice none 0 0, .slice none 0 0] 28)).heap[w.heap.size + 1]? = _ := (congrArg _ hsz0.symm).trans (nHQ (w.alloc (.cells #[.int .i64 op, .int .i64 n, .string s, .slice ka kn kc, .slice na ns.length nc, .slice a l.length c] 28)) (.cells #[.int .i64 0, .int .i64 0, .string ⟨#[]⟩, .slice none 0 0, .slice none 0 0, .slice none 0 0] 28))
 have kB := (g1.block w.heap.size (by omega) (by nofun)).trans gC
 have hbW := gUQ (B := w.heap.size) (gBQ (gAQ w (.cells #[.int .i64 op, .int .i64 n, .string s, .slice ka kn kc, .slice na ns.length nc, .slice a l.length c] 28)) g1) (nLQ _) (by nofun)
 have HV := valid_any _ _ _ (hE.below hbW) (iBQ h hbW) hb hsz
 rw [hPW] at HV
 have HV := hJQ HV
 have HT : Hid (valC (pC (.mk op n s k (.slice na ns.length nc) ns (.slice a l.length c) l)) = true->∀ U, Below w.heap.size w U->Calls Tryz.prog 26 #[(.agg #[.int .i64 op, .int .i64 n, .string s, .slice ka kn kc, .slice na ns.length nc, .slice a l.length c])] U (TameOk (fun b => P b ∨ w.heap.size<=b) (tameN (pC (.mk op n s k (.slice na ns.length nc) ns (.slice a l.length c) l))) U)) := fun hv U hU => by
  have := tame_any _ _ U (hE.below hU) (fun b hb => .inr (by have := hU.size; omega)) (iBQ h hU) hv hb
  rw [hPW] at this
  exact this
 have HFr := hJQ hfr
 clear h hks hPW g1 gC HP HC0 hb0 hsz0 c0 c1 c2 c3 c4 c5 hE hb hsz hfr
 generalize pC (.mk op n s k (.slice na ns.length nc) ns (.slice a l.length c) l) = px at *
 go_enter Tryz.func8, Tryz.ntmps8
 go_upto_region 1 with fail
 generalize ((w.alloc (.cells #[.int .i64 op, .int .i64 n, .string s, .slice ka kn kc, .slice na ns.length nc, .slice a l.length c] 28)).alloc (.cells #[.int .i64 0, .int .i64 0, .string ⟨#[]⟩, .slice none 0 0, .slice none 0 0, .slice none 0 0] 28)) = W at *
 obtain ⟨c0, c1, c2, c3, c4, c5⟩ := cnQ kB
 go_wp2_with fail
 refine HV.out.mono ?_
 rintro e w2 ⟨rfl, hb2⟩
 have hbw2 := hbW.trans (hb2.mono hbW.size)
 have kR2 := (hb2.block _ (hLQ kR)).trans kR
 have kB2 := (hb2.block _ (hLQ kB)).trans kB
 have hs2 := hb2.size
 obtain ⟨vb, hvb⟩ : ∃ b, valC px = b := ⟨_, rfl⟩
 rw [hvb]
 have HVB := hJQ hvb
 clear hvb HV c0 c1 c2 c3 c4 c5 kR kB hb2
 cases vb
 ·clear HT HFr
  have hrow := gRQ w2 (w.heap.size + 1) #[.int .i64 0, .int .i64 0, .string ⟨#[]⟩, .slice none 0 0, .slice none 0 0, .slice none 0 0]
  have HRF := hJQ (setRow_heap w2 (w.heap.size + 1) _ #[.int .i64 0, .int .i64 0, .string ⟨#[]⟩, .slice none 0 0, .slice none 0 0, .slice none 0 0] _ _ kR2)
  have HBF := hJQ (hbw2.trans (gUQ (B := w.heap.size) hrow (by have := hbw2.size; omega) (fun q hq => by have e2 : w.heap.size + 1 = q := oJQ hq; omega)))
  have HCF : Hid (IsCon (fun b => w.heap.size<=b) (w2.setRow (w.heap.size + 1) #[.int .i64 0, .int .i64 0, .string ⟨#[]⟩, .slice none 0 0, .slice none 0 0, .slice none 0 0]) (ConD.mk 0 0 ⟨#[]⟩ (.mk (.slice none 0 0) []) (.slice none 0 0) [] (.slice none 0 0) [])) := .mk (kind_nil _ _) (RowP.nil _ _) (Nat.zero_le maxLen) (RowP.nil _ _) (Nat.zero_le maxLen) (fun y hy => by cases hy)
  clear hrow
  go_wp2_with (refine wpList_store_row rfl 28 _ _ rfl (w.heap.size + 1) _ rfl rfl 28 _ kR2 cIQ rfl (all_one _ rfl) ?_)
  refine bodyPost_ret (v := .tuple #[.agg #[.int .i64 0, .int .i64 0, .string ⟨#[]⟩, .slice none 0 0, .slice none 0 0, .slice none 0 0], .int .i64 1]) ?_ rfl ⟨(ConD.mk 0 0 ⟨#[]⟩ (.mk (.slice none 0 0) []) (.slice none 0 0) [] (.slice none 0 0) []), 1, rfl, HCF.out, HBF.out, fun _ => ⟨rfl, rfl⟩, (fun h => by rw [HVB.out] at h; cases h), (fun h => by rw [HVB.out] at h; cases h)⟩
  rw [results_cell_tmp (p := 2) (u := 3) (ty := 28) rfl]
  simp [asAddr, run_loadVar_row _ _ _ _ _ _ _ HRF.out Tryz.underlying28 rfl cIQ, Result.andThen]
 ·have HT2 := hJQ (HT.out HVB.out w2 hbw2)
  clear HT
  obtain ⟨c0, c1, c2, c3, c4, c5⟩ := cnQ kB2
  go_wp2_with fail
  refine HT2.out.mono ?_
  rintro e w3 ⟨d, b, rfl, hdd, hb3, hds, hno, hyes⟩
  obtain ⟨zop, zn, zs, zk, zns, zl, zka, zkn, zkc, zna, znc, za, zc, rfl, hzk, _⟩ := cSQ hdd
  have hzv := cVQ (op := zop) (n := zn) (s := zs) (nv := .slice zna zns.length znc) (lv := .slice za zl.length zc) (ns := zns) (l := zl) hzk
  rw [hzv]
  have hs3 := hb3.size
  have hbw3 := hbw2.trans (hb3.mono hbw2.size)
  have kR3 := (hb3.block _ (hLQ kR2)).trans kR2
  have hltR := hLQ kR3
  have hga := gAQ w3 (.cells #[.int .i64 0, .int .i64 0, .string ⟨#[]⟩, .slice none 0 0, .slice none 0 0, .slice none 0 0] 28)
  have hrw := gRQ (w3.alloc (.cells #[.int .i64 0, .int .i64 0, .string ⟨#[]⟩, .slice none 0 0, .slice none 0 0, .slice none 0 0] 28)) w3.heap.size #[.int .i64 zop, .int .i64 zn, .string zs, .slice zka zkn zkc, .slice zna zns.length znc, .slice za zl.length zc]
  have kO := setRow_heap (w3.alloc (.cells #[.int .i64 0, .int .i64 0, .string ⟨#[]⟩, .slice none 0 0, .slice none 0 0, .slice none 0 0] 28)) w3.heap.size _ #[.int .i64 zop, .int .i64 zn, .string zs, .slice zka zkn zkc, .slice zna zns.length znc, .slice za zl.length zc] _ _ (nHQ w3 (.cells #[.int .i64 0, .int .i64 0, .string ⟨#[]⟩, .slice none 0 0, .slice none 0 0, .slice none 0 0] 28))
  have kRV := (hrw.block (w.heap.size + 1) (by simp; omega) (fun e => by have e2 : w.heap.size + 1 = w3.heap.size := oJQ e; omega)).trans ((hga.block (w.heap.size + 1) (by omega) (by nofun)).trans kR3)
  have hbV := (hbw3.trans (gUQ (B := w.heap.size) hga (by omega) (by nofun))).trans (gUQ (B := w.heap.size) hrw (by simp; omega) (fun q hq => by have e2 : w3.heap.size = q := oJQ hq; omega))
  have hdV := (hdd.lt.grown hga (by nofun)).grown hrw (fun q hq hp => by have e2 : w3.heap.size = q := oJQ hq; have := hp.2; omega)
  have HKO := hJQ kO
  have HKR := hJQ kRV
  have HBV := hJQ hbV
  have HDV := hJQ hdV
  have HZV := hJQ hzv
  have HNo := hJQ hno
  have HYes := hJQ hyes
  have kN := nHQ w3 (.cells #[.int .i64 0, .int .i64 0, .string ⟨#[]⟩, .slice none 0 0, .slice none 0 0, .slice none 0 0] 28)
  clear HT2 hga hrw kO kRV hbV hdd hdV hzv hzk hno hyes kR3 kR2 kB2 hbw3 c0 c1 c2 c3 c4 c5
  go_upto_region 4 with (refine wpList_store_row rfl 28 _ _ rfl w3.heap.size _ rfl rfl 28 _ kN cIQ rfl (all_one _ rfl) ?_)
  clear kN
  have hsV : ((w3.alloc (.cells #[.int .i64 0, .int .i64 0, .string ⟨#[]⟩, .slice none 0 0, .slice none 0 0, .slice none 0 0] 28)).setRow w3.heap.size #[.int .i64 zop, .int .i64 zn, .string zs, .slice zka zkn zkc, .slice zna zns.length znc, .slice za zl.length zc]).heap.size = w3.heap.size + 1 := by rw [size_setRow]; simp
  generalize ((w3.alloc (.cells #[.int .i64 0, .int .i64 0, .string ⟨#[]⟩, .slice none 0 0, .slice none 0 0, .slice none 0 0] 28)).setRow w3.heap.size #[.int .i64 zop, .int .i64 zn, .string zs, .slice zka zkn zkc, .slice zna zns.length znc, .slice za zl.length zc]) = V at *
  have hbV := HBV.out
  have kRV := HKR.out
  cases b
  ·have HTn : Hid (tameN px = none) := by
    show _ = _
    cases ht : tameN px with
    | none => rfl
    | some q => exact absurd (HYes.out q.1 q.2 ht).1 (by decide)
   clear HYes HNo HDV HZV HFr HKO HBV HKR
   have hrow := gRQ V (w.heap.size + 1) #[.int .i64 0, .int .i64 0, .string ⟨#[]⟩, .slice none 0 0, .slice none 0 0, .slice none 0 0]
   have HRF := hJQ (setRow_heap V (w.heap.size + 1) _ #[.int .i64 0, .int .i64 0, .string ⟨#[]⟩, .slice none 0 0, .slice none 0 0, .slice none 0 0] _ _ kRV)
   have HBF := hJQ (hbV.trans (gUQ (B := w.heap.size) hrow (by have := hbV.size; omega) (fun q hq => by have e2 : w.heap.size + 1 = q := oJQ hq; omega)))
   have HCF : Hid (IsCon (fun b => w.heap.size<=b) (V.setRow (w.heap.size + 1) #[.int .i64 0, .int .i64 0, .string ⟨#[]⟩, .slice none 0 0, .slice none 0 0, .slice none 0 0]) (ConD.mk 0 0 ⟨#[]⟩ (.mk (.slice none 0 0) []) (.slice none 0 0) [] (.slice none 0 0) [])) := .mk (kind_nil _ _) (RowP.nil _ _) (Nat.zero_le maxLen) (RowP.nil _ _) (Nat.zero_le maxLen) (fun y hy => by cases hy)
   clear hrow
   go_wp2_with (refine wpList_store_row rfl 28 _ _ rfl (w.heap.size + 1) _ rfl rfl 28 _ kRV cIQ rfl (all_one _ rfl) ?_)
   refine bodyPost_ret (v := .tuple #[.agg #[.int .i64 0, .int .i64 0, .string ⟨#[]⟩, .slice none 0 0, .slice none 0 0, .slice none 0 0], .int .i64 27]) ?_ rfl ⟨(ConD.mk 0 0 ⟨#[]⟩ (.mk (.slice none 0 0) []) (.slice none 0 0) [] (.slice none 0 0) []), 27, rfl, HCF.out, HBF.out, (fun h => by rw [HVB.out] at h; cases h), (fun _ _ => ⟨rfl, rfl⟩), (fun _ y m ht => by rw [HTn.out] at ht; cases ht)⟩
   rw [results_cell_tmp (p := 2) (u := 3) (ty := 28) rfl]
   simp [asAddr, run_loadVar_row _ _ _ _ _ _ _ HRF.out Tryz.underlying28 rfl cIQ, Result.andThen]
  ·have HTs : Hid (∃ m, tameN px = some (pC (.mk zop zn zs zk (.slice zna zns.length znc) zns (.slice za zl.length zc) zl), m)) := by
    show ∃ m, _
    cases ht : tameN px with
    | none => exact absurd (HNo.out ht) (by decide)
    | some q => exact ⟨q.2, by rw [(HYes.out q.1 q.2 ht).2]⟩
   have HFm : Hid (frmC (pC (.mk zop zn zs zk (.slice zna zns.length znc) zns (.slice za zl.length zc) zl)) = true) := by
    obtain ⟨m, ht⟩ := HTs.out
    exact HFr.out _ m HVB.out ht
   have HCp := copied_any _ (.mk zop zn zs zk (.slice zna zns.length znc) zns (.slice za zl.length zc) zl) V HDV.out HFm.out (by omega)
   rw [HZV.out] at HCp
   have HCp := hJQ HCp
   obtain ⟨c0, c1, c2, c3, c4, c5⟩ := cnQ HKO.out
   clear HYes HNo HDV HZV HFr HKO HBV HKR HFm
   go_wp2_with fail
   refine HCp.out.mono ?_
   rintro e w4 ⟨⟨d, rfl, hd4, hp4⟩, hb4⟩
   obtain ⟨xop, xn, xs, xk, xns, xl, xka, xkn, xkc, xna, xnc, xa, xc, rfl, hxk, _⟩ := cSQ hd4
   have hxv := cVQ (op := xop) (n := xn) (s := xs) (nv := .slice xna xns.length xnc) (lv := .slice xa xl.length xc) (ns := xns) (l := xl) hxk
   rw [hxv]
   have HXV := hJQ hxv
   have HP4 := hJQ hp4
   have hbw4 := hbV.trans (hb4.mono hbV.size)
   have kR4 := (hb4.block _ (hLQ kRV)).trans kRV
   have hltV := hLQ kRV
   clear HCp hxk hxv hp4 c0 c1 c2 c3 c4 c5 hbV kRV
   have hrow := gRQ w4 (w.heap.size + 1) #[.int .i64 xop, .int .i64 xn, .string xs, .slice xka xkn xkc, .slice xna xns.length xnc, .slice xa xl.length xc]
   have HRF := hJQ (setRow_heap w4 (w.heap.size + 1) _ #[.int .i64 xop, .int .i64 xn, .string xs, .slice xka xkn xkc, .slice xna xns.length xnc, .slice xa xl.length xc] _ _ kR4)
   have HBF := hJQ (hbw4.trans (gUQ (B := w.heap.size) hrow (by have := hbw4.size; omega) (fun q hq => by have e2 : w.heap.size + 1 = q := oJQ hq; omega)))
   have HCF : Hid (IsCon (fun b => w.heap.size<=b) (w4.setRow (w.heap.size + 1) #[.int .i64 xop, .int .i64 xn, .string xs, .slice xka xkn xkc, .slice xna xns.length xnc, .slice xa xl.length xc]) (.mk xop xn xs xk (.slice xna xns.length xnc) xns (.slice xa xl.length xc) xl)) := ((hd4.grown hrow (fun q hq hp => by have e2 : w.heap.size + 1 = q := oJQ hq; have hp : V.heap.size<=q := hp; omega))).mono (fun b hb _ => by have hb : V.heap.size<=b := hb; show w.heap.size<=b; omega)
   clear hrow
   go_wp2_with (refine wpList_store_row rfl 28 _ _ rfl (w.heap.size + 1) _ rfl rfl 28 _ kR4 cIQ rfl (all_one _ rfl) ?_)
   refine bodyPost_ret (v := .tuple #[.agg #[.int .i64 xop, .int .i64 xn, .string xs, .slice xka xkn xkc, .slice xna xns.length xnc, .slice xa xl.length xc], .int .i64 0]) ?_ rfl ⟨_, 0, by rw [HXV.out], HCF.out, HBF.out, (fun h => by rw [HVB.out] at h; cases h), (fun _ ht => by obtain ⟨m, h2⟩ := HTs.out; rw [ht] at h2; cases h2), (fun _ y m ht => by obtain ⟨m2, h2⟩ := HTs.out; rw [ht] at h2; rw [HP4.out]; exact ⟨(congrArg (fun q => (q.getD (default, 0)).1) h2).symm, rfl⟩)⟩
   rw [results_cell_tmp (p := 2) (u := 3) (ty := 28) rfl]
   simp [asAddr, run_loadVar_row _ _ _ _ _ _ _ HRF.out Tryz.underlying28 rfl cIQ, Result.andThen]
end Go.Proofs.YtkiffgdinmpljaaGreatDoor
