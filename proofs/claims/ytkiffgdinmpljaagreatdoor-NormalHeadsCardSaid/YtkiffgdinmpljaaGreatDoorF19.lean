/- (*counter).beta. Printed by gen_beta.py, expanded by mac.py. -/
import Derived.Test.YtkiffgdinmpljaaGreatDoorF17
import Derived.Test.YtkiffgdinmpljaaGreatDoorF18
set_option linter.unusedVariables false
set_option linter.unusedSimpArgs false
namespace Go.Proofs.YtkiffgdinmpljaaGreatDoor
open Go Go.RowKit
set_option maxHeartbeats 8000000
set_option maxRecDepth 100000
def BetaOk (kb : Nat) (T : Cn) (steps : Int) (w : World) (e : Ending) (w' : World) : Prop :=
 ∃ (d : ConD) (ov : Bool), e = .returned (conV d)/\CtAt w' kb (steps + 1) ov/\w.grownBy w' (some kb)/\ov = !(decide (steps < 10000) && valC T)/\(ov = false->IsCon (fun b => w.heap.size<=b) w' d/\pC d = T)/\(ov = true->d = zeroD)
def EnvK (w : World) (kb : Nat) : Prop := ∀ U, w.grownBy U (some kb)->EnvN U
theorem EnvK.grown {w w' : World} {kb : Nat} (h : EnvK w kb) (hg : w.grownBy w' (some kb)) : EnvK w' kb := fun U hU => h U (gBQ hg hU)
theorem beta_any (P : Nat->Prop) (kb : Nat) (n : Int) (s : ByteArray) (k : KindD) (nv : Value) (ns : List ByteArray) (lv : Value) (y ax : ConD) (steps : Int) (w : World) (hE : EnvK w kb) (hf : IsCon P w (.mk 11 n s k nv ns lv [y])) (ha : IsCon P w ax) (hP : ¬ P kb) (hvy : valC (pC y) = true) (hva : valC (pC ax) = true) (hby : bndC (pC y)) (hba : bndC (pC ax)) (hC : CtAt w kb steps false) (hs0 : 0<=steps) (hs1 : steps<=10000) :
 Calls Tryz.prog 96 #[.pointer (some ⟨kb, 0, none⟩), conV (.mk 11 n s k nv ns lv [y]), conV ax] w (BetaOk kb (sC9 [pC ax] 0 (pC y)) steps w) := by
 have hbT := bnd_subst [pC ax] (fun x hx => by rw [List.mem_singleton.1 hx]; exact hba) (pC y) 0 hby
 obtain ⟨ka, kn, kc, na, nc, b, off, c, hks, rfl, rfl, hcv, ⟨hPb, hbl⟩, hyc, y0, y1, y2, y3, y4, y5⟩ := open_11 hf
 rw [hcv]
 obtain ⟨aop, an, ass, ak, ans, al, aka, akn, akc, ana, anc, aa, ac, rfl, hak, _⟩ := cSQ ha
 obtain ⟨yop, yn, ys, yk, yns, yl, yka, ykn, ykc, yna, ync, pa, pc, rfl, hyk, _⟩ := cSQ hyc
 simp only [ConD.op, ConD.n, ConD.s, ConD.k, ConD.nv, ConD.lv, hyk] at y0 y1 y2 y3 y4 y5
 have hPa := cVQ (op := aop) (n := an) (s := ass) (nv := .slice ana ans.length anc) (lv := .slice aa al.length ac) (ns := ans) (l := al) hak
 have hPy := cVQ (op := yop) (n := yn) (s := ys) (nv := .slice yna yns.length ync) (lv := .slice pa yl.length pc) (ns := yns) (l := yl) hyk
 rw [hPa]
 have g1 := gAQ (w.alloc (.cells #[.int .i64 11, .int .i64 n, .string s, .slice ka kn kc, .slice na ns.length nc, .slice (some ⟨b, off, none⟩) 1 c] 28)) (.cells #[.int .i64 aop, .int .i64 an, .string ass, .slice aka akn akc, .slice ana ans.length anc, .slice aa al.length ac] 28)
 have g2 := gAQ ((w.alloc (.cells #[.int .i64 11, .int .i64 n, .string s, .slice ka kn kc, .slice na ns.length nc, .slice (some ⟨b, off, none⟩) 1 c] 28)).alloc (.cells #[.int .i64 aop, .int .i64 an, .string ass, .slice aka akn akc, .slice ana ans.length anc, .slice aa al.length ac] 28)) (.cells #[.int .i64 0, .int .i64 0, .string ⟨#[]⟩, .slice none 0 0, .slice none 0 0, .slice none 0 0] 28)
 have s0 : (w.alloc (.cells #[.int .i64 11, .int .i64 n, .string s, .slice ka kn kc, .slice na ns.length nc, .slice (some ⟨b, off, none⟩) 1 c] 28)).heap.size = w.heap.size + 1 := by simp
 have s1 : ((w.alloc (.cells #[.int .i64 11, .int .i64 n, .string s, .slice ka kn kc, .slice na ns.length nc, .slice (some ⟨b, off, none⟩) 1 c] 28)).alloc (.cells #[.int .i64 aop, .int .i64 an, .string ass, .slice aka akn akc, .slice ana ans.length anc, .slice aa al.length ac] 28)).heap.size = w.heap.size + 2 := by simp
 have s2 : (((w.alloc (.cells #[.int .i64 11, .int .i64 n, .string s, .slice ka kn kc, .slice na ns.length nc, .slice (some ⟨b, off, none⟩) 1 c] 28)).alloc (.cells #[.int .i64 aop, .int .i64 an, .string ass, .slice aka akn akc, .slice ana ans.length anc, .slice aa al.length ac] 28)).alloc (.cells #[.int .i64 0, .int .i64 0, .string ⟨#[]⟩, .slice none 0 0, .slice none 0 0, .slice none 0 0] 28)).heap.size = w.heap.size + 3 := by simp
 have k0 := nHQ w (.cells #[.int .i64 11, .int .i64 n, .string s, .slice ka kn kc, .slice na ns.length nc, .slice (some ⟨b, off, none⟩) 1 c] 28)
 have k1 : ((w.alloc (.cells #[.int .i64 11, .int .i64 n, .string s, .slice ka kn kc, .slice na ns.length nc, .slice (some ⟨b, off, none⟩) 1 c] 28)).alloc (.cells #[.int .i64 aop, .int .i64 an, .string ass, .slice aka akn akc, .slice ana ans.length anc, .slice aa al.length ac] 28)).heap[w.heap.size + 1]? = _ := (congrArg _ s0.symm).trans (nHQ (w.alloc (.cells #[.int .i64 11, .int .i64 n, .string s, .slice ka kn kc, .slice na ns.length nc, .slice (some ⟨b, off, none⟩) 1 c] 28)) (.cells #[.int .i64 aop, .int .i64 an, .string ass, .slice aka akn akc, .slice ana ans.length anc, .slice aa al.length ac] 28))
 have kR : (((w.alloc (.cells #[.int .i64 11, .int .i64 n, .string s, .slice ka kn kc, .slice na ns.length nc, .slice (some ⟨b, off, none⟩) 1 c] 28)).alloc (.cells #[.int .i64 aop, .int .i64 an, .string ass, .slice aka akn akc, .slice ana ans.length anc, .slice aa al.length ac] 28)).alloc (.cells #[.int .i64 0, .int .i64 0, .string ⟨#[]⟩, .slice none 0 0, .slice none 0 0, .slice none 0 0] 28)).heap[w.heap.size + 2]? = _ := (congrArg _ s1.symm).trans (nHQ ((w.alloc (.cells #[.int .i64 11, .int .i64 n, .string s, .slice ka kn kc, .slice na ns.length nc, .slice (some ⟨b, off, none⟩) 1 c] 28)).alloc (.cells #[.int .i64 aop, .int .i64 an, .string ass, .slice aka akn akc, .slice ana ans.length anc, .slice aa al.length ac] 28)) (.cells #[.int .i64 0, .int .i64 0, .string ⟨#[]⟩, .slice none 0 0, .slice none 0 0, .slice none 0 0] 28))
 have kF := (g2.block w.heap.size (by omega) (by nofun)).trans ((g1.block w.heap.size (by omega) (by nofun)).trans k0)
 have kA := (g2.block (w.heap.size + 1) (by omega) (by nofun)).trans k1
 have hgW := gBQ (gBQ (gAQ w (.cells #[.int .i64 11, .int .i64 n, .string s, .slice ka kn kc, .slice na ns.length nc, .slice (some ⟨b, off, none⟩) 1 c] 28)) g1) g2
 have kC := hC.grown hgW (by nofun)
 have hlk := hLQ hC
 have HA := hJQ ha
 have HYC := hJQ hyc
 have HE := hJQ hE
 have HPA := hJQ hPa
 have HPY := hJQ hPy
 have HV := hJQ (And.intro (And.intro hvy hva) (And.intro hby hba))
 have HBT := hJQ hbT
 have HCE : Hid (cCQ [(ConD.mk aop an ass ak (.slice ana ans.length anc) ans (.slice aa al.length ac) al)] = [.int .i64 aop, .int .i64 an, .string ass, .slice aka akn akc, .slice ana ans.length anc, .slice aa al.length ac]) := by
  show _ = _
  rw [conCells_one]
  show [_, _, _, ak.v, _, _] = _
  rw [hak]; rfl
 have HYL := hJQ (And.intro hbl (And.intro y0 (And.intro y1 (And.intro y2 (And.intro y3 (And.intro y4 y5))))))
 clear g1 g2 s0 s1 k0 k1 hE hf ha hvy hva hby hba hC hcv hyc hak hyk hks hPa hPy hbT y0 y1 y2 y3 y4 y5
 generalize hT : sC9 [pC (ConD.mk aop an ass ak (.slice ana ans.length anc) ans (.slice aa al.length ac) al)] 0 (pC (ConD.mk yop yn ys yk (.slice yna yns.length ync) yns (.slice pa yl.length pc) yl)) = T at *
 have HT := hJQ hT
 clear hT
 have hwr : IntKind.i64.wrap (steps + 1) = steps + 1 := wrap_ok _ (by omega) (by omega)
 have HZ : Hid (conV zeroD = .agg #[.int .i64 0, .int .i64 0, .string ⟨#[]⟩, .slice none 0 0, .slice none 0 0, .slice none 0 0]) := rfl
 go_enter Tryz.func96, Tryz.ntmps96
 go_upto_region 1 with fail
 generalize (((w.alloc (.cells #[.int .i64 11, .int .i64 n, .string s, .slice ka kn kc, .slice na ns.length nc, .slice (some ⟨b, off, none⟩) 1 c] 28)).alloc (.cells #[.int .i64 aop, .int .i64 an, .string ass, .slice aka akn akc, .slice ana ans.length anc, .slice aa al.length ac] 28)).alloc (.cells #[.int .i64 0, .int .i64 0, .string ⟨#[]⟩, .slice none 0 0, .slice none 0 0, .slice none 0 0] 28)) = W at *
 obtain ⟨m0, m1, fm0, fm1⟩ := kC.cells
 have hS := gSQ W kb 0 (.int .i64 (steps + 1))
 have kC1 := kC.set0 (steps + 1)
 have kF1 := (hS.block w.heap.size (by omega) (fun e => by have e2 : w.heap.size = kb := oJQ e; omega)).trans kF
 have kA1 := (hS.block (w.heap.size + 1) (by omega) (fun e => by have e2 : w.heap.size + 1 = kb := oJQ e; omega)).trans kA
 have kR1 := (hS.block (w.heap.size + 2) (by omega) (fun e => by have e2 : w.heap.size + 2 = kb := oJQ e; omega)).trans kR
 have hg1 := gBQ (fNQ hgW (some kb)) hS
 have hsz1 := hS.size
 clear hS
 obtain ⟨j0, j1, fj0, fj1⟩ := kC1.cells
 by_cases q1 : 10000 < steps + 1
 ·have HO : Hid ((!(decide (steps < 10000) && valC T)) = true) := by show _ = _; rw [decide_eq_false (show ¬ steps < 10000 by omega)]; rfl
  have hS2 := gSQ (W.setCell ⟨kb, 0, none⟩ (.int .i64 (steps + 1))) kb 1 (.bool true)
  have kC2 := kC1.set1 true
  obtain ⟨i0, i1, fi0, fi1⟩ := kC2.cells
  have kR2 := (hS2.block (w.heap.size + 2) (hLQ kR1) (fun e => by have e2 : w.heap.size + 2 = kb := oJQ e; omega)).trans kR1
  have hg2 := gBQ hg1 hS2
  clear hS2
  have hrow := gRQ ((W.setCell ⟨kb, 0, none⟩ (.int .i64 (steps + 1))).setCell ⟨kb, 1, none⟩ (.bool true)) (w.heap.size + 2) #[.int .i64 0, .int .i64 0, .string ⟨#[]⟩, .slice none 0 0, .slice none 0 0, .slice none 0 0]
  have HRF := hJQ (setRow_heap ((W.setCell ⟨kb, 0, none⟩ (.int .i64 (steps + 1))).setCell ⟨kb, 1, none⟩ (.bool true)) (w.heap.size + 2) _ #[.int .i64 0, .int .i64 0, .string ⟨#[]⟩, .slice none 0 0, .slice none 0 0, .slice none 0 0] _ _ kR2)
  have HGF := hJQ (gOQ hg2 hrow (by omega))
  have HCF := hJQ ((kC2).grown hrow (by intro e; have e2 : w.heap.size + 2 = kb := oJQ e; omega))
  clear hrow
  go_wp2_with (refine wpList_store_row rfl 28 _ _ rfl (w.heap.size + 2) _ rfl rfl 28 _ kR2 cIQ rfl (all_one _ rfl) ?_)
  refine bodyPost_ret (results_cell_row rfl _ _ (w.heap.size + 2) 28 #[.int .i64 0, .int .i64 0, .string ⟨#[]⟩, .slice none 0 0, .slice none 0 0, .slice none 0 0] (0, 0) _ rfl HRF.out Tryz.underlying28 rfl cIQ) rfl ?_
  exact ⟨zeroD, true, by rw [HZ.out], HCF.out, HGF.out, HO.out.symm, nofun, fun _ => rfl⟩
 ·have q2 : steps < 10000 := by omega
  go_upto_region 6 with fail
  clear m0 m1 fm0 fm1 j0 j1 fj0 fj1 kC kF kA kR hgW
  have hsV : w.heap.size + 3<=(W.setCell ⟨kb, 0, none⟩ (.int .i64 (steps + 1))).heap.size := by omega
  clear s2 hsz1
  generalize W.setCell ⟨kb, 0, none⟩ (.int .i64 (steps + 1)) = V at *
  have hkb : b ≠ kb := fun e => by rw [e] at hPb; exact hP hPb
  have SALL : ∀ U, w.grownBy U (some kb)->U.heap[w.heap.size]? = some (.cells #[.int .i64 11, .int .i64 n, .string s, .slice ka kn kc, .slice na ns.length nc, .slice (some ⟨b, off, none⟩) 1 c] 28 (0, 0))->U.heap[w.heap.size + 1]? = some (.cells #[.int .i64 aop, .int .i64 an, .string ass, .slice aka akn akc, .slice ana ans.length anc, .slice aa al.length ac] 28 (0, 0))->(fun w9 => w9.cell? ⟨w.heap.size, 5, none⟩ = some (.slice (some ⟨b, off, none⟩) 1 c)/\w9.cell? ⟨b, off, none⟩ = some (.int .i64 yop)/\w9.cell? ⟨b, off + 1, none⟩ = some (.int .i64 yn)/\w9.cell? ⟨b, off + 2, none⟩ = some (.string ys)/\w9.cell? ⟨b, off + 3, none⟩ = some (.slice yka ykn ykc)/\w9.cell? ⟨b, off + 4, none⟩ = some (.slice yna yns.length ync)/\w9.cell? ⟨b, off + 5, none⟩ = some (.slice pa yl.length pc)/\w9.cell? ⟨w.heap.size + 1, 0, none⟩ = some (.int .i64 aop)/\w9.cell? ⟨w.heap.size + 1, 1, none⟩ = some (.int .i64 an)/\w9.cell? ⟨w.heap.size + 1, 2, none⟩ = some (.string ass)/\w9.cell? ⟨w.heap.size + 1, 3, none⟩ = some (.slice aka akn akc)/\w9.cell? ⟨w.heap.size + 1, 4, none⟩ = some (.slice ana ans.length anc)/\w9.cell? ⟨w.heap.size + 1, 5, none⟩ = some (.slice aa al.length ac)) U := fun U hU hF hA => by
   obtain ⟨hbl, y0, y1, y2, y3, y4, y5⟩ := HYL.out
   have cU : ∀ (o : Nat) (v : Value), w.cell? ⟨b, o, none⟩ = some v->U.cell? ⟨b, o, none⟩ = some v := fun o v hc => World.grownBy.cell (a := ⟨b, o, none⟩) hU hc (fun e => hkb (oJQ e))
   obtain ⟨a0, a1, a2, a3, a4, a5⟩ := cnQ hA
   exact ⟨(cnQ hF).2.2.2.2.2, cU _ _ y0, cU _ _ y1, cU _ _ y2, cU _ _ y3, cU _ _ y4, cU _ _ y5, a0, a1, a2, a3, a4, a5⟩
  have HSA := hJQ SALL
  have HG1 := hJQ hg1
  clear SALL hg1
  have hdr := gDQ V
  have S0 := HSA.out V.drew (gBQ HG1.out (fNQ hdr _)) kF1 kA1
  refine wp_region_held_drew (S := (fun w9 => w9.cell? ⟨w.heap.size, 5, none⟩ = some (.slice (some ⟨b, off, none⟩) 1 c)/\w9.cell? ⟨b, off, none⟩ = some (.int .i64 yop)/\w9.cell? ⟨b, off + 1, none⟩ = some (.int .i64 yn)/\w9.cell? ⟨b, off + 2, none⟩ = some (.string ys)/\w9.cell? ⟨b, off + 3, none⟩ = some (.slice yka ykn ykc)/\w9.cell? ⟨b, off + 4, none⟩ = some (.slice yna yns.length ync)/\w9.cell? ⟨b, off + 5, none⟩ = some (.slice pa yl.length pc)/\w9.cell? ⟨w.heap.size + 1, 0, none⟩ = some (.int .i64 aop)/\w9.cell? ⟨w.heap.size + 1, 1, none⟩ = some (.int .i64 an)/\w9.cell? ⟨w.heap.size + 1, 2, none⟩ = some (.string ass)/\w9.cell? ⟨w.heap.size + 1, 3, none⟩ = some (.slice aka akn akc)/\w9.cell? ⟨w.heap.size + 1, 4, none⟩ = some (.slice ana ans.length anc)/\w9.cell? ⟨w.heap.size + 1, 5, none⟩ = some (.slice aa al.length ac))) (by kernel_rfl) S0 (fun hHeld => ?_)
  refine tks (b := ?_) (by kernel_rfl) (fun _ _ _ _ _ h => h) S0 5 [0, 1, 2, 3, 4] (by kernel_rfl) ?_ ?_
  rotate_left
  ·iterate 5 (refine yc (v := ?_) rfl rfl (by rfl) (fun w9 hSw => ?_) ?_; rotate_left; (focus go_simp; try rfl); simp only [Act.put, l1Q, l2Q, l3Q])
   exact rfl
  refine wpAnyH_ready (rs := [5, 10]) (by kernel_rfl) (by simp) (AllReadyH.cons (by rfl) (fun K hK => ?u5) (AllReadyH.cons (by rfl) (fun K hK => ?u10) (AllReadyH.nil)))
  case u5 =>
   go_simp
   have hga := gBQ hdr (gAQ V.drew (.cells #[.int .i64 aop, .int .i64 an, .string ass, .slice aka akn akc, .slice ana ans.length anc, .slice aa al.length ac] 28))
   have Sa := HSA.out (V.drew.alloc (.cells #[.int .i64 aop, .int .i64 an, .string ass, .slice aka akn akc, .slice ana ans.length anc, .slice aa al.length ac] 28)) (gBQ HG1.out (fNQ hga _)) ((hga.block _ (hLQ kF1) (by nofun)).trans kF1) ((hga.block _ (hLQ kA1) (by nofun)).trans kA1)
   refine hK.out _ _ Sa (fun _ => ?_)
   clear hK K
   have kRow : (V.drew.alloc (.cells #[.int .i64 aop, .int .i64 an, .string ass, .slice aka akn akc, .slice ana ans.length anc, .slice aa al.length ac] 28)).heap[V.heap.size]? = some (.cells #[.int .i64 aop, .int .i64 an, .string ass, .slice aka akn akc, .slice ana ans.length anc, .slice aa al.length ac] 28 (0, 0)) := nHQ V.drew (.cells #[.int .i64 aop, .int .i64 an, .string ass, .slice aka akn akc, .slice ana ans.length anc, .slice aa al.length ac] 28)
   have hsW1 : (V.drew.alloc (.cells #[.int .i64 aop, .int .i64 an, .string ass, .slice aka akn akc, .slice ana ans.length anc, .slice aa al.length ac] 28)).heap.size = V.heap.size + 1 := by simp
   refine wpAnyH_ready (rs := [6, 10]) (by kernel_rfl) (by simp) (AllReadyH.cons (by rfl) (fun K hK => ?v6) (AllReadyH.cons (by rfl) (fun K hK => ?v10) (AllReadyH.nil)))
   case v6 =>
    go_simp
    go_at_call 36
    have hgw := gBQ HG1.out (fNQ hga (some kb))
    have hq : ∀ q, some kb = some q->¬ P q := fun q hq => by have e2 : kb = q := oJQ hq; rw [← e2]; exact hP
    have hup : ∀ b, P b->b < (V.drew.alloc (.cells #[.int .i64 aop, .int .i64 an, .string ass, .slice aka akn akc, .slice ana ans.length anc, .slice aa al.length ac] 28)).heap.size->P b ∨ w.heap.size<=b := fun b h _ => .inl h
    have hac := (HA.out.grown hgw hq).mono (Q := fun b => P b ∨ w.heap.size<=b) hup
    have hyc := (HYC.out.grown hgw hq).mono (Q := fun b => P b ∨ w.heap.size<=b) hup
    have hrow : RowP (fun b => P b ∨ w.heap.size<=b) (V.drew.alloc (.cells #[.int .i64 aop, .int .i64 an, .string ass, .slice aka akn akc, .slice ana ans.length anc, .slice aa al.length ac] 28)) (.slice (some ⟨V.heap.size, 0, none⟩) [(ConD.mk aop an ass ak (.slice ana ans.length anc) ans (.slice aa al.length ac) al)].length 1) [(ConD.mk aop an ass ak (.slice ana ans.length anc) ans (.slice aa al.length ac) al)].length (cCQ [(ConD.mk aop an ass ak (.slice ana ans.length anc) ans (.slice aa al.length ac) al)]) := by
     rw [HCE.out]
     refine ⟨_, 1, rfl, Nat.le_refl _, fun _ => ⟨V.heap.size, 0, rfl, .inr (by omega), hLQ kRow, fun j hj => ?_⟩⟩
     simp only [World.cell?, kRow, Nat.zero_add]
     match j, hj with
     | 0, _ => rfl
     | 1, _ => rfl
     | 2, _ => rfl
     | 3, _ => rfl
     | 4, _ => rfl
     | 5, _ => rfl
    have HC := subst_any _ _ (some ⟨V.heap.size, 0, none⟩) 1 [(ConD.mk aop an ass ak (.slice ana ans.length anc) ans (.slice aa al.length ac) al)] (V.drew.alloc (.cells #[.int .i64 aop, .int .i64 an, .string ass, .slice aka akn akc, .slice ana ans.length anc, .slice aa al.length ac] 28)) (HE.out _ hgw) hyc HV.out.1.1 HV.out.2.1 hrow (fun z hz => by rw [List.mem_singleton.1 hz]; exact hac) (fun z hz => by rw [List.mem_singleton.1 hz]; exact ⟨HV.out.1.2, HV.out.2.2⟩) (by simp) (by rw [List.map_cons, List.map_nil, HT.out]; exact HBT.out)
    rw [HPY.out, List.map_cons, List.map_nil, HT.out] at HC
    refine HC.mono ?_
    rintro e w5 ⟨dd, er, rfl, hdd, hb5, hyes, hno⟩
    obtain ⟨xop, xn, xs, xk, xns, xl, xka, xkn, xkc, xna, xnc, xla, xlc, rfl, hxk, _⟩ := cSQ hdd
    have hxv := cVQ (op := xop) (n := xn) (s := xs) (nv := .slice xna xns.length xnc) (lv := .slice xla xl.length xlc) (ns := xns) (l := xl) hxk
    rw [hxv]
    have hgs := gBQ hga (gLQ hb5)
    have Ss := HSA.out w5 (gBQ HG1.out (fNQ hgs _)) ((hgs.block _ (hLQ kF1) (by nofun)).trans kF1) ((hgs.block _ (hLQ kA1) (by nofun)).trans kA1)
    refine hK.out _ _ Ss (fun _ => ?_)
    clear hK K HC hrow hac hyc hup hq
    have hsw5 := hb5.size
    refine tks (b := ?_) (by kernel_rfl) (fun _ _ _ _ _ h => h) Ss 3 [7, 8, 9] (by kernel_rfl) ?_ ?_
    rotate_left
    ·iterate 3 (refine yc (v := ?_) rfl rfl (by rfl) (fun w9 hSw => ?_) ?_; rotate_left; (focus go_simp; try rfl); simp only [Act.put, l1Q, l2Q, l3Q])
     exact rfl
    refine rd1 10 (by kernel_rfl) (by rfl) (fun K hK => ?_)
    go_simp
    have hgl := gBQ hgs (gAQ w5 (.cells #[.int .i64 0, .int .i64 0, .string ⟨#[]⟩, .slice none 0 0, .slice none 0 0, .slice none 0 0] 28))
    have Sl := HSA.out (w5.alloc (.cells #[.int .i64 0, .int .i64 0, .string ⟨#[]⟩, .slice none 0 0, .slice none 0 0, .slice none 0 0] 28)) (gBQ HG1.out (fNQ hgl _)) ((hgl.block _ (hLQ kF1) (by nofun)).trans kF1) ((hgl.block _ (hLQ kA1) (by nofun)).trans kA1)
    refine hK.out _ _ Sl (fun _ => ?_)
    clear hK K
    have kL := nHQ w5 (.cells #[.int .i64 0, .int .i64 0, .string ⟨#[]⟩, .slice none 0 0, .slice none 0 0, .slice none 0 0] 28)
    have hrw := gRQ (w5.alloc (.cells #[.int .i64 0, .int .i64 0, .string ⟨#[]⟩, .slice none 0 0, .slice none 0 0, .slice none 0 0] 28)) (w5.heap.size) #[.int .i64 xop, .int .i64 xn, .string xs, .slice xka xkn xkc, .slice xna xns.length xnc, .slice xla xl.length xlc]
    have hR7 : w.heap.size + 2 < w5.heap.size := by omega
    have kF6 := (hrw.block _ (hLQ ((hgl.block _ (hLQ kF1) (by nofun)).trans kF1)) (fun e => by have e2 : w.heap.size = w5.heap.size := oJQ e; omega)).trans ((hgl.block _ (hLQ kF1) (by nofun)).trans kF1)
    have kA6 := (hrw.block _ (hLQ ((hgl.block _ (hLQ kA1) (by nofun)).trans kA1)) (fun e => by have e2 : w.heap.size + 1 = w5.heap.size := oJQ e; omega)).trans ((hgl.block _ (hLQ kA1) (by nofun)).trans kA1)
    have HG6 := hJQ (gOQ (gBQ HG1.out (fNQ hgl (some kb))) hrw (by omega))
    have Sz := HSA.out _ HG6.out kF6 kA6
    refine held_store 11 (by kernel_rfl) (by rfl) (by rfl) (by rfl) 28 _ _ (by rfl) (w5.heap.size) #[.int .i64 xop, .int .i64 xn, .string xs, .slice xka xkn xkc, .slice xna xns.length xnc, .slice xla xl.length xlc] (by rfl) (by rfl) 28 _ kL cIQ rfl (all_one _ rfl) Sz ?_
    refine tks (b := ?_) (by kernel_rfl) (fun _ _ _ _ _ h => h) Sz 1 [12] (by kernel_rfl) ?_ ?_
    rotate_left
    ·refine yc (v := ?_) rfl rfl (by rfl) (fun w9 hSw => ?_) ?_; rotate_left; (focus go_simp; try rfl); simp only [Act.put, l1Q, l2Q, l3Q]
     exact rfl
    refine wpAnyH_done (by kernel_rfl) ?_ _
    have G6 := hJQ (setRow_heap (w5.alloc (.cells #[.int .i64 0, .int .i64 0, .string ⟨#[]⟩, .slice none 0 0, .slice none 0 0, .slice none 0 0] 28)) (w5.heap.size) _ #[.int .i64 xop, .int .i64 xn, .string xs, .slice xka xkn xkc, .slice xna xns.length xnc, .slice xla xl.length xlc] _ _ kL)
    have C6 := hJQ ((kC1.grown hgl (by nofun)).grown hrw (by intro e; have e2 : w5.heap.size = kb := oJQ e; omega))
    have K6 := hJQ ((hrw.block _ (hLQ ((hgl.block _ (hLQ kR1) (by nofun)).trans kR1)) (fun e => by have e2 : w.heap.size + 2 = w5.heap.size := oJQ e; omega)).trans ((hgl.block _ (hLQ kR1) (by nofun)).trans kR1))
    have D6 : Hid (IsCon (fun b => w.heap.size + 2 < b/\b ≠ w5.heap.size) ((w5.alloc (.cells #[.int .i64 0, .int .i64 0, .string ⟨#[]⟩, .slice none 0 0, .slice none 0 0, .slice none 0 0] 28)).setRow (w5.heap.size) #[.int .i64 xop, .int .i64 xn, .string xs, .slice xka xkn xkc, .slice xna xns.length xnc, .slice xla xl.length xlc]) (.mk xop xn xs xk (.slice xna xns.length xnc) xns (.slice xla xl.length xlc) xl)) := (((hdd.lt.mono (Q := fun b => w.heap.size + 2 < b/\b ≠ w5.heap.size) (fun b hb _ => by have h1 : (V.drew.alloc (.cells #[.int .i64 aop, .int .i64 an, .string ass, .slice aka akn akc, .slice ana ans.length anc, .slice aa al.length ac] 28)).heap.size<=b := hb.1; have h2 := hb.2; exact ⟨by omega, by omega⟩)).grown (gAQ w5 (.cells #[.int .i64 0, .int .i64 0, .string ⟨#[]⟩, .slice none 0 0, .slice none 0 0, .slice none 0 0] 28)) (by nofun))).grown hrw (fun q hq hp => hp.2 (oJQ hq).symm)
    have HY := hJQ hyes
    have HN := hJQ hno
    have HXV := hJQ hxv
    clear hrw kF6 kA6 Sz hdd hyes hno hxv hb5 Sl
    generalize (w5.alloc (.cells #[.int .i64 0, .int .i64 0, .string ⟨#[]⟩, .slice none 0 0, .slice none 0 0, .slice none 0 0] 28)).setRow (w5.heap.size) #[.int .i64 xop, .int .i64 xn, .string xs, .slice xka xkn xkc, .slice xna xns.length xnc, .slice xla xl.length xlc] = V6 at *
    clear kL hgl hgs hga kRow Sa Ss
    obtain ⟨l0, l1, l2, l3, l4, l5⟩ := cnQ G6.out
    obtain ⟨p0, p1, fp0, fp1⟩ := C6.out.cells
    have hs6 := HG6.out.size
    obtain ⟨bv, hbv⟩ : ∃ q9, valC T = q9 := ⟨_, rfl⟩
    have HBV := hJQ hbv
    clear hbv
    cases bv
    ·have her := (HN.out HBV.out).1
     subst her
     have HO : Hid ((!(decide (steps < 10000) && valC T)) = true) := by show _ = _; rw [HBV.out, Bool.and_false]; rfl
     have hS2 := gSQ V6 kb 1 (.bool true)
     have kC2 := C6.out.set1 true
     have kR2 := (hS2.block (w.heap.size + 2) (hLQ K6.out) (fun e => by have e2 : w.heap.size + 2 = kb := oJQ e; omega)).trans K6.out
     have hg2 := gBQ HG6.out hS2
     clear hS2
     have hrow := gRQ (V6.setCell ⟨kb, 1, none⟩ (.bool true)) (w.heap.size + 2) #[.int .i64 0, .int .i64 0, .string ⟨#[]⟩, .slice none 0 0, .slice none 0 0, .slice none 0 0]
     have HRF := hJQ (setRow_heap (V6.setCell ⟨kb, 1, none⟩ (.bool true)) (w.heap.size + 2) _ #[.int .i64 0, .int .i64 0, .string ⟨#[]⟩, .slice none 0 0, .slice none 0 0, .slice none 0 0] _ _ kR2)
     have HGF := hJQ (gOQ hg2 hrow (by omega))
     have HCF := hJQ ((kC2).grown hrow (by intro e; have e2 : w.heap.size + 2 = kb := oJQ e; omega))
     clear hrow
     go_wp2_with (refine wpList_store_row rfl 28 _ _ rfl (w.heap.size + 2) _ rfl rfl 28 _ kR2 cIQ rfl (all_one _ rfl) ?_)
     refine bodyPost_ret (results_cell_row rfl _ _ (w.heap.size + 2) 28 #[.int .i64 0, .int .i64 0, .string ⟨#[]⟩, .slice none 0 0, .slice none 0 0, .slice none 0 0] (0, 0) _ rfl HRF.out Tryz.underlying28 rfl cIQ) rfl ?_
     exact ⟨zeroD, true, by rw [HZ.out], HCF.out, HGF.out, HO.out.symm, nofun, fun _ => rfl⟩
    ·obtain ⟨her, hpd⟩ := HY.out HBV.out
     subst her
     have HO : Hid ((!(decide (steps < 10000) && valC T)) = false) := by show _ = _; rw [HBV.out, decide_eq_true q2]; rfl
     have hvv := val_iff.1 HBV.out
     have hsm : smallC T = true := by show (decide _ && decide _) = true; rw [decide_eq_true hvv.1, decide_eq_true hvv.2.1]; rfl
     have HKp := kept_any _ _ kb (steps + 1) false V6 D6.out C6.out (by rw [hpd]; omega)
     rw [HXV.out] at HKp
     have HKp := hJQ HKp
     go_wp2_with fail
     refine HKp.out.mono ?_
     rintro e w7 ⟨d9, rfl, hc7, hg7, hd9, _⟩
     rw [hpd, hsm] at hc7 hd9
     obtain rfl := hd9 rfl
     rw [HXV.out]
     have hc7 : CtAt w7 kb (steps + 1) false := hc7
     have kR7 := (hg7.block _ (hLQ K6.out) (fun e => by have e2 : w.heap.size + 2 = kb := oJQ e; omega)).trans K6.out
     have HG7 := hJQ (gBQ HG6.out hg7)
     have hrw := gRQ w7 (w.heap.size + 2) #[.int .i64 xop, .int .i64 xn, .string xs, .slice xka xkn xkc, .slice xna xns.length xnc, .slice xla xl.length xlc]
     have HRF := hJQ (setRow_heap w7 (w.heap.size + 2) _ #[.int .i64 xop, .int .i64 xn, .string xs, .slice xka xkn xkc, .slice xna xns.length xnc, .slice xla xl.length xlc] _ _ kR7)
     have HGF := hJQ (gOQ HG7.out hrw (by omega))
     have HCF := hJQ (hc7.grown hrw (by intro e; have e2 : w.heap.size + 2 = kb := oJQ e; omega))
     have HDF := hJQ (((D6.out.grown hg7 (fun q hq hp => by have e2 : kb = q := oJQ hq; have := hp.1; omega)).grown hrw (fun q hq hp => by have e2 : w.heap.size + 2 = q := oJQ hq; have := hp.1; omega)).mono (Q := fun b => w.heap.size<=b) (fun b hb _ => by have := hb.1; show w.heap.size<=b; omega))
     clear hrw HKp
     go_wp2_with (refine wpList_store_row rfl 28 _ _ rfl (w.heap.size + 2) _ rfl rfl 28 _ kR7 cIQ rfl (all_one _ rfl) ?_)
     refine bodyPost_ret (results_cell_row rfl _ _ (w.heap.size + 2) 28 #[.int .i64 xop, .int .i64 xn, .string xs, .slice xka xkn xkc, .slice xna xns.length xnc, .slice xla xl.length xlc] (0, 0) _ rfl HRF.out Tryz.underlying28 rfl cIQ) rfl ?_
     exact ⟨_, false, by rw [HXV.out], HCF.out, HGF.out, HO.out.symm, fun _ => ⟨HDF.out, hpd⟩, nofun⟩
   case v10 =>
    go_simp
    have hgl := gBQ hga (gAQ (V.drew.alloc (.cells #[.int .i64 aop, .int .i64 an, .string ass, .slice aka akn akc, .slice ana ans.length anc, .slice aa al.length ac] 28)) (.cells #[.int .i64 0, .int .i64 0, .string ⟨#[]⟩, .slice none 0 0, .slice none 0 0, .slice none 0 0] 28))
    have Sl := HSA.out ((V.drew.alloc (.cells #[.int .i64 aop, .int .i64 an, .string ass, .slice aka akn akc, .slice ana ans.length anc, .slice aa al.length ac] 28)).alloc (.cells #[.int .i64 0, .int .i64 0, .string ⟨#[]⟩, .slice none 0 0, .slice none 0 0, .slice none 0 0] 28)) (gBQ HG1.out (fNQ hgl _)) ((hgl.block _ (hLQ kF1) (by nofun)).trans kF1) ((hgl.block _ (hLQ kA1) (by nofun)).trans kA1)
    refine hK.out _ _ Sl (fun _ => ?_)
    clear hK K
    have hsW2 : ((V.drew.alloc (.cells #[.int .i64 aop, .int .i64 an, .string ass, .slice aka akn akc, .slice ana ans.length anc, .slice aa al.length ac] 28)).alloc (.cells #[.int .i64 0, .int .i64 0, .string ⟨#[]⟩, .slice none 0 0, .slice none 0 0, .slice none 0 0] 28)).heap.size = V.heap.size + 2 := by simp
    have kRow2 : ((V.drew.alloc (.cells #[.int .i64 aop, .int .i64 an, .string ass, .slice aka akn akc, .slice ana ans.length anc, .slice aa al.length ac] 28)).alloc (.cells #[.int .i64 0, .int .i64 0, .string ⟨#[]⟩, .slice none 0 0, .slice none 0 0, .slice none 0 0] 28)).heap[V.heap.size]? = some (.cells #[.int .i64 aop, .int .i64 an, .string ass, .slice aka akn akc, .slice ana ans.length anc, .slice aa al.length ac] 28 (0, 0)) := ((gAQ (V.drew.alloc (.cells #[.int .i64 aop, .int .i64 an, .string ass, .slice aka akn akc, .slice ana ans.length anc, .slice aa al.length ac] 28)) (.cells #[.int .i64 0, .int .i64 0, .string ⟨#[]⟩, .slice none 0 0, .slice none 0 0, .slice none 0 0] 28)).block _ (by omega) (by nofun)).trans kRow
    have kL0 : ((V.drew.alloc (.cells #[.int .i64 aop, .int .i64 an, .string ass, .slice aka akn akc, .slice ana ans.length anc, .slice aa al.length ac] 28)).alloc (.cells #[.int .i64 0, .int .i64 0, .string ⟨#[]⟩, .slice none 0 0, .slice none 0 0, .slice none 0 0] 28)).heap[V.heap.size + 1]? = some (.cells #[.int .i64 0, .int .i64 0, .string ⟨#[]⟩, .slice none 0 0, .slice none 0 0, .slice none 0 0] 28) := by
     have := nHQ (V.drew.alloc (.cells #[.int .i64 aop, .int .i64 an, .string ass, .slice aka akn akc, .slice ana ans.length anc, .slice aa al.length ac] 28)) (.cells #[.int .i64 0, .int .i64 0, .string ⟨#[]⟩, .slice none 0 0, .slice none 0 0, .slice none 0 0] 28)
     rw [hsW1] at this
     exact this
    refine rd1 6 (by kernel_rfl) (by rfl) (fun K hK => ?_)
    go_simp
    go_at_call 36
    have hgw := gBQ HG1.out (fNQ hgl (some kb))
    have hq : ∀ q, some kb = some q->¬ P q := fun q hq => by have e2 : kb = q := oJQ hq; rw [← e2]; exact hP
    have hup : ∀ b, P b->b < ((V.drew.alloc (.cells #[.int .i64 aop, .int .i64 an, .string ass, .slice aka akn akc, .slice ana ans.length anc, .slice aa al.length ac] 28)).alloc (.cells #[.int .i64 0, .int .i64 0, .string ⟨#[]⟩, .slice none 0 0, .slice none 0 0, .slice none 0 0] 28)).heap.size->P b ∨ w.heap.size<=b := fun b h _ => .inl h
    have hac := (HA.out.grown hgw hq).mono (Q := fun b => P b ∨ w.heap.size<=b) hup
    have hyc := (HYC.out.grown hgw hq).mono (Q := fun b => P b ∨ w.heap.size<=b) hup
    have hrow : RowP (fun b => P b ∨ w.heap.size<=b) ((V.drew.alloc (.cells #[.int .i64 aop, .int .i64 an, .string ass, .slice aka akn akc, .slice ana ans.length anc, .slice aa al.length ac] 28)).alloc (.cells #[.int .i64 0, .int .i64 0, .string ⟨#[]⟩, .slice none 0 0, .slice none 0 0, .slice none 0 0] 28)) (.slice (some ⟨V.heap.size, 0, none⟩) [(ConD.mk aop an ass ak (.slice ana ans.length anc) ans (.slice aa al.length ac) al)].length 1) [(ConD.mk aop an ass ak (.slice ana ans.length anc) ans (.slice aa al.length ac) al)].length (cCQ [(ConD.mk aop an ass ak (.slice ana ans.length anc) ans (.slice aa al.length ac) al)]) := by
     rw [HCE.out]
     refine ⟨_, 1, rfl, Nat.le_refl _, fun _ => ⟨V.heap.size, 0, rfl, .inr (by omega), hLQ kRow2, fun j hj => ?_⟩⟩
     simp only [World.cell?, kRow2, Nat.zero_add]
     match j, hj with
     | 0, _ => rfl
     | 1, _ => rfl
     | 2, _ => rfl
     | 3, _ => rfl
     | 4, _ => rfl
     | 5, _ => rfl
    have HC := subst_any _ _ (some ⟨V.heap.size, 0, none⟩) 1 [(ConD.mk aop an ass ak (.slice ana ans.length anc) ans (.slice aa al.length ac) al)] ((V.drew.alloc (.cells #[.int .i64 aop, .int .i64 an, .string ass, .slice aka akn akc, .slice ana ans.length anc, .slice aa al.length ac] 28)).alloc (.cells #[.int .i64 0, .int .i64 0, .string ⟨#[]⟩, .slice none 0 0, .slice none 0 0, .slice none 0 0] 28)) (HE.out _ hgw) hyc HV.out.1.1 HV.out.2.1 hrow (fun z hz => by rw [List.mem_singleton.1 hz]; exact hac) (fun z hz => by rw [List.mem_singleton.1 hz]; exact ⟨HV.out.1.2, HV.out.2.2⟩) (by simp) (by rw [List.map_cons, List.map_nil, HT.out]; exact HBT.out)
    rw [HPY.out, List.map_cons, List.map_nil, HT.out] at HC
    refine HC.mono ?_
    rintro e w5 ⟨dd, er, rfl, hdd, hb5, hyes, hno⟩
    obtain ⟨xop, xn, xs, xk, xns, xl, xka, xkn, xkc, xna, xnc, xla, xlc, rfl, hxk, _⟩ := cSQ hdd
    have hxv := cVQ (op := xop) (n := xn) (s := xs) (nv := .slice xna xns.length xnc) (lv := .slice xla xl.length xlc) (ns := xns) (l := xl) hxk
    rw [hxv]
    have hgs := gBQ hgl (gLQ hb5)
    have Ss := HSA.out w5 (gBQ HG1.out (fNQ hgs _)) ((hgs.block _ (hLQ kF1) (by nofun)).trans kF1) ((hgs.block _ (hLQ kA1) (by nofun)).trans kA1)
    refine hK.out _ _ Ss (fun _ => ?_)
    clear hK K HC hrow hac hyc hup hq
    have hsw5 := hb5.size
    have kL := (hb5.block _ (by omega)).trans kL0
    refine tks (b := ?_) (by kernel_rfl) (fun _ _ _ _ _ h => h) Ss 3 [7, 8, 9] (by kernel_rfl) ?_ ?_
    rotate_left
    ·iterate 3 (refine yc (v := ?_) rfl rfl (by rfl) (fun w9 hSw => ?_) ?_; rotate_left; (focus go_simp; try rfl); simp only [Act.put, l1Q, l2Q, l3Q])
     exact rfl
    have hrw := gRQ (w5) (V.heap.size + 1) #[.int .i64 xop, .int .i64 xn, .string xs, .slice xka xkn xkc, .slice xna xns.length xnc, .slice xla xl.length xlc]
    have hR7 : w.heap.size + 2 < V.heap.size + 1 := by omega
    have kF6 := (hrw.block _ (hLQ ((hgs.block _ (hLQ kF1) (by nofun)).trans kF1)) (fun e => by have e2 : w.heap.size = V.heap.size + 1 := oJQ e; omega)).trans ((hgs.block _ (hLQ kF1) (by nofun)).trans kF1)
    have kA6 := (hrw.block _ (hLQ ((hgs.block _ (hLQ kA1) (by nofun)).trans kA1)) (fun e => by have e2 : w.heap.size + 1 = V.heap.size + 1 := oJQ e; omega)).trans ((hgs.block _ (hLQ kA1) (by nofun)).trans kA1)
    have HG6 := hJQ (gOQ (gBQ HG1.out (fNQ hgs (some kb))) hrw (by omega))
    have Sz := HSA.out _ HG6.out kF6 kA6
    refine held_store 11 (by kernel_rfl) (by rfl) (by rfl) (by rfl) 28 _ _ (by rfl) (V.heap.size + 1) #[.int .i64 xop, .int .i64 xn, .string xs, .slice xka xkn xkc, .slice xna xns.length xnc, .slice xla xl.length xlc] (by rfl) (by rfl) 28 _ kL cIQ rfl (all_one _ rfl) Sz ?_
    refine tks (b := ?_) (by kernel_rfl) (fun _ _ _ _ _ h => h) Sz 1 [12] (by kernel_rfl) ?_ ?_
    rotate_left
    ·refine yc (v := ?_) rfl rfl (by rfl) (fun w9 hSw => ?_) ?_; rotate_left; (focus go_simp; try rfl); simp only [Act.put, l1Q, l2Q, l3Q]
     exact rfl
    refine wpAnyH_done (by kernel_rfl) ?_ _
    have G6 := hJQ (setRow_heap (w5) (V.heap.size + 1) _ #[.int .i64 xop, .int .i64 xn, .string xs, .slice xka xkn xkc, .slice xna xns.length xnc, .slice xla xl.length xlc] _ _ kL)
    have C6 := hJQ ((kC1.grown hgs (by nofun)).grown hrw (by intro e; have e2 : V.heap.size + 1 = kb := oJQ e; omega))
    have K6 := hJQ ((hrw.block _ (hLQ ((hgs.block _ (hLQ kR1) (by nofun)).trans kR1)) (fun e => by have e2 : w.heap.size + 2 = V.heap.size + 1 := oJQ e; omega)).trans ((hgs.block _ (hLQ kR1) (by nofun)).trans kR1))
    have D6 : Hid (IsCon (fun b => w.heap.size + 2 < b/\b ≠ V.heap.size + 1) ((w5).setRow (V.heap.size + 1) #[.int .i64 xop, .int .i64 xn, .string xs, .slice xka xkn xkc, .slice xna xns.length xnc, .slice xla xl.length xlc]) (.mk xop xn xs xk (.slice xna xns.length xnc) xns (.slice xla xl.length xlc) xl)) := ((hdd.mono (Q := fun b => w.heap.size + 2 < b/\b ≠ V.heap.size + 1) (fun b hb _ => by have h1 : ((V.drew.alloc (.cells #[.int .i64 aop, .int .i64 an, .string ass, .slice aka akn akc, .slice ana ans.length anc, .slice aa al.length ac] 28)).alloc (.cells #[.int .i64 0, .int .i64 0, .string ⟨#[]⟩, .slice none 0 0, .slice none 0 0, .slice none 0 0] 28)).heap.size<=b := hb; exact ⟨by omega, by omega⟩))).grown hrw (fun q hq hp => hp.2 (oJQ hq).symm)
    have HY := hJQ hyes
    have HN := hJQ hno
    have HXV := hJQ hxv
    clear hrw kF6 kA6 Sz hdd hyes hno hxv hb5 Ss
    generalize (w5).setRow (V.heap.size + 1) #[.int .i64 xop, .int .i64 xn, .string xs, .slice xka xkn xkc, .slice xna xns.length xnc, .slice xla xl.length xlc] = V6 at *
    clear kL kL0 hgl hgs hga kRow kRow2 Sa Sl
    obtain ⟨l0, l1, l2, l3, l4, l5⟩ := cnQ G6.out
    obtain ⟨p0, p1, fp0, fp1⟩ := C6.out.cells
    have hs6 := HG6.out.size
    obtain ⟨bv, hbv⟩ : ∃ q9, valC T = q9 := ⟨_, rfl⟩
    have HBV := hJQ hbv
    clear hbv
    cases bv
    ·have her := (HN.out HBV.out).1
     subst her
     have HO : Hid ((!(decide (steps < 10000) && valC T)) = true) := by show _ = _; rw [HBV.out, Bool.and_false]; rfl
     have hS2 := gSQ V6 kb 1 (.bool true)
     have kC2 := C6.out.set1 true
     have kR2 := (hS2.block (w.heap.size + 2) (hLQ K6.out) (fun e => by have e2 : w.heap.size + 2 = kb := oJQ e; omega)).trans K6.out
     have hg2 := gBQ HG6.out hS2
     clear hS2
     have hrow := gRQ (V6.setCell ⟨kb, 1, none⟩ (.bool true)) (w.heap.size + 2) #[.int .i64 0, .int .i64 0, .string ⟨#[]⟩, .slice none 0 0, .slice none 0 0, .slice none 0 0]
     have HRF := hJQ (setRow_heap (V6.setCell ⟨kb, 1, none⟩ (.bool true)) (w.heap.size + 2) _ #[.int .i64 0, .int .i64 0, .string ⟨#[]⟩, .slice none 0 0, .slice none 0 0, .slice none 0 0] _ _ kR2)
     have HGF := hJQ (gOQ hg2 hrow (by omega))
     have HCF := hJQ ((kC2).grown hrow (by intro e; have e2 : w.heap.size + 2 = kb := oJQ e; omega))
     clear hrow
     go_wp2_with (refine wpList_store_row rfl 28 _ _ rfl (w.heap.size + 2) _ rfl rfl 28 _ kR2 cIQ rfl (all_one _ rfl) ?_)
     refine bodyPost_ret (results_cell_row rfl _ _ (w.heap.size + 2) 28 #[.int .i64 0, .int .i64 0, .string ⟨#[]⟩, .slice none 0 0, .slice none 0 0, .slice none 0 0] (0, 0) _ rfl HRF.out Tryz.underlying28 rfl cIQ) rfl ?_
     exact ⟨zeroD, true, by rw [HZ.out], HCF.out, HGF.out, HO.out.symm, nofun, fun _ => rfl⟩
    ·obtain ⟨her, hpd⟩ := HY.out HBV.out
     subst her
     have HO : Hid ((!(decide (steps < 10000) && valC T)) = false) := by show _ = _; rw [HBV.out, decide_eq_true q2]; rfl
     have hvv := val_iff.1 HBV.out
     have hsm : smallC T = true := by show (decide _ && decide _) = true; rw [decide_eq_true hvv.1, decide_eq_true hvv.2.1]; rfl
     have HKp := kept_any _ _ kb (steps + 1) false V6 D6.out C6.out (by rw [hpd]; omega)
     rw [HXV.out] at HKp
     have HKp := hJQ HKp
     go_wp2_with fail
     refine HKp.out.mono ?_
     rintro e w7 ⟨d9, rfl, hc7, hg7, hd9, _⟩
     rw [hpd, hsm] at hc7 hd9
     obtain rfl := hd9 rfl
     rw [HXV.out]
     have hc7 : CtAt w7 kb (steps + 1) false := hc7
     have kR7 := (hg7.block _ (hLQ K6.out) (fun e => by have e2 : w.heap.size + 2 = kb := oJQ e; omega)).trans K6.out
     have HG7 := hJQ (gBQ HG6.out hg7)
     have hrw := gRQ w7 (w.heap.size + 2) #[.int .i64 xop, .int .i64 xn, .string xs, .slice xka xkn xkc, .slice xna xns.length xnc, .slice xla xl.length xlc]
     have HRF := hJQ (setRow_heap w7 (w.heap.size + 2) _ #[.int .i64 xop, .int .i64 xn, .string xs, .slice xka xkn xkc, .slice xna xns.length xnc, .slice xla xl.length xlc] _ _ kR7)
     have HGF := hJQ (gOQ HG7.out hrw (by omega))
     have HCF := hJQ (hc7.grown hrw (by intro e; have e2 : w.heap.size + 2 = kb := oJQ e; omega))
     have HDF := hJQ (((D6.out.grown hg7 (fun q hq hp => by have e2 : kb = q := oJQ hq; have := hp.1; omega)).grown hrw (fun q hq hp => by have e2 : w.heap.size + 2 = q := oJQ hq; have := hp.1; omega)).mono (Q := fun b => w.heap.size<=b) (fun b hb _ => by have := hb.1; show w.heap.size<=b; omega))
     clear hrw HKp
     go_wp2_with (refine wpList_store_row rfl 28 _ _ rfl (w.heap.size + 2) _ rfl rfl 28 _ kR7 cIQ rfl (all_one _ rfl) ?_)
     refine bodyPost_ret (results_cell_row rfl _ _ (w.heap.size + 2) 28 #[.int .i64 xop, .int .i64 xn, .string xs, .slice xka xkn xkc, .slice xna xns.length xnc, .slice xla xl.length xlc] (0, 0) _ rfl HRF.out Tryz.underlying28 rfl cIQ) rfl ?_
     exact ⟨_, false, by rw [HXV.out], HCF.out, HGF.out, HO.out.symm, fun _ => ⟨HDF.out, hpd⟩, nofun⟩
  case u10 =>
   go_simp
   have hga := gBQ hdr (gAQ V.drew (.cells #[.int .i64 0, .int .i64 0, .string ⟨#[]⟩, .slice none 0 0, .slice none 0 0, .slice none 0 0] 28))
   have Sa := HSA.out (V.drew.alloc (.cells #[.int .i64 0, .int .i64 0, .string ⟨#[]⟩, .slice none 0 0, .slice none 0 0, .slice none 0 0] 28)) (gBQ HG1.out (fNQ hga _)) ((hga.block _ (hLQ kF1) (by nofun)).trans kF1) ((hga.block _ (hLQ kA1) (by nofun)).trans kA1)
   refine hK.out _ _ Sa (fun _ => ?_)
   clear hK K
   have kL0 : (V.drew.alloc (.cells #[.int .i64 0, .int .i64 0, .string ⟨#[]⟩, .slice none 0 0, .slice none 0 0, .slice none 0 0] 28)).heap[V.heap.size]? = some (.cells #[.int .i64 0, .int .i64 0, .string ⟨#[]⟩, .slice none 0 0, .slice none 0 0, .slice none 0 0] 28) := nHQ V.drew (.cells #[.int .i64 0, .int .i64 0, .string ⟨#[]⟩, .slice none 0 0, .slice none 0 0, .slice none 0 0] 28)
   have hsU1 : (V.drew.alloc (.cells #[.int .i64 0, .int .i64 0, .string ⟨#[]⟩, .slice none 0 0, .slice none 0 0, .slice none 0 0] 28)).heap.size = V.heap.size + 1 := by simp
   refine rd1 5 (by kernel_rfl) (by rfl) (fun K hK => ?_)
   go_simp
   have hgl := gBQ hga (gAQ (V.drew.alloc (.cells #[.int .i64 0, .int .i64 0, .string ⟨#[]⟩, .slice none 0 0, .slice none 0 0, .slice none 0 0] 28)) (.cells #[.int .i64 aop, .int .i64 an, .string ass, .slice aka akn akc, .slice ana ans.length anc, .slice aa al.length ac] 28))
   have Sl := HSA.out ((V.drew.alloc (.cells #[.int .i64 0, .int .i64 0, .string ⟨#[]⟩, .slice none 0 0, .slice none 0 0, .slice none 0 0] 28)).alloc (.cells #[.int .i64 aop, .int .i64 an, .string ass, .slice aka akn akc, .slice ana ans.length anc, .slice aa al.length ac] 28)) (gBQ HG1.out (fNQ hgl _)) ((hgl.block _ (hLQ kF1) (by nofun)).trans kF1) ((hgl.block _ (hLQ kA1) (by nofun)).trans kA1)
   refine hK.out _ _ Sl (fun _ => ?_)
   clear hK K
   have hsU2 : ((V.drew.alloc (.cells #[.int .i64 0, .int .i64 0, .string ⟨#[]⟩, .slice none 0 0, .slice none 0 0, .slice none 0 0] 28)).alloc (.cells #[.int .i64 aop, .int .i64 an, .string ass, .slice aka akn akc, .slice ana ans.length anc, .slice aa al.length ac] 28)).heap.size = V.heap.size + 2 := by simp
   have kL1 : ((V.drew.alloc (.cells #[.int .i64 0, .int .i64 0, .string ⟨#[]⟩, .slice none 0 0, .slice none 0 0, .slice none 0 0] 28)).alloc (.cells #[.int .i64 aop, .int .i64 an, .string ass, .slice aka akn akc, .slice ana ans.length anc, .slice aa al.length ac] 28)).heap[V.heap.size]? = some (.cells #[.int .i64 0, .int .i64 0, .string ⟨#[]⟩, .slice none 0 0, .slice none 0 0, .slice none 0 0] 28) := ((gAQ (V.drew.alloc (.cells #[.int .i64 0, .int .i64 0, .string ⟨#[]⟩, .slice none 0 0, .slice none 0 0, .slice none 0 0] 28)) (.cells #[.int .i64 aop, .int .i64 an, .string ass, .slice aka akn akc, .slice ana ans.length anc, .slice aa al.length ac] 28)).block _ (by omega) (by nofun)).trans kL0
   have kRow : ((V.drew.alloc (.cells #[.int .i64 0, .int .i64 0, .string ⟨#[]⟩, .slice none 0 0, .slice none 0 0, .slice none 0 0] 28)).alloc (.cells #[.int .i64 aop, .int .i64 an, .string ass, .slice aka akn akc, .slice ana ans.length anc, .slice aa al.length ac] 28)).heap[V.heap.size + 1]? = some (.cells #[.int .i64 aop, .int .i64 an, .string ass, .slice aka akn akc, .slice ana ans.length anc, .slice aa al.length ac] 28 (0, 0)) := by
    have := nHQ (V.drew.alloc (.cells #[.int .i64 0, .int .i64 0, .string ⟨#[]⟩, .slice none 0 0, .slice none 0 0, .slice none 0 0] 28)) (.cells #[.int .i64 aop, .int .i64 an, .string ass, .slice aka akn akc, .slice ana ans.length anc, .slice aa al.length ac] 28)
    rw [hsU1] at this
    exact this
   refine rd1 6 (by kernel_rfl) (by rfl) (fun K hK => ?_)
   go_simp
   go_at_call 36
   have hgw := gBQ HG1.out (fNQ hgl (some kb))
   have hq : ∀ q, some kb = some q->¬ P q := fun q hq => by have e2 : kb = q := oJQ hq; rw [← e2]; exact hP
   have hup : ∀ b, P b->b < ((V.drew.alloc (.cells #[.int .i64 0, .int .i64 0, .string ⟨#[]⟩, .slice none 0 0, .slice none 0 0, .slice none 0 0] 28)).alloc (.cells #[.int .i64 aop, .int .i64 an, .string ass, .slice aka akn akc, .slice ana ans.length anc, .slice aa al.length ac] 28)).heap.size->P b ∨ w.heap.size<=b := fun b h _ => .inl h
   have hac := (HA.out.grown hgw hq).mono (Q := fun b => P b ∨ w.heap.size<=b) hup
   have hyc := (HYC.out.grown hgw hq).mono (Q := fun b => P b ∨ w.heap.size<=b) hup
   have hrow : RowP (fun b => P b ∨ w.heap.size<=b) ((V.drew.alloc (.cells #[.int .i64 0, .int .i64 0, .string ⟨#[]⟩, .slice none 0 0, .slice none 0 0, .slice none 0 0] 28)).alloc (.cells #[.int .i64 aop, .int .i64 an, .string ass, .slice aka akn akc, .slice ana ans.length anc, .slice aa al.length ac] 28)) (.slice (some ⟨V.heap.size + 1, 0, none⟩) [(ConD.mk aop an ass ak (.slice ana ans.length anc) ans (.slice aa al.length ac) al)].length 1) [(ConD.mk aop an ass ak (.slice ana ans.length anc) ans (.slice aa al.length ac) al)].length (cCQ [(ConD.mk aop an ass ak (.slice ana ans.length anc) ans (.slice aa al.length ac) al)]) := by
    rw [HCE.out]
    refine ⟨_, 1, rfl, Nat.le_refl _, fun _ => ⟨V.heap.size + 1, 0, rfl, .inr (by omega), hLQ kRow, fun j hj => ?_⟩⟩
    simp only [World.cell?, kRow, Nat.zero_add]
    match j, hj with
    | 0, _ => rfl
    | 1, _ => rfl
    | 2, _ => rfl
    | 3, _ => rfl
    | 4, _ => rfl
    | 5, _ => rfl
   have HC := subst_any _ _ (some ⟨V.heap.size + 1, 0, none⟩) 1 [(ConD.mk aop an ass ak (.slice ana ans.length anc) ans (.slice aa al.length ac) al)] ((V.drew.alloc (.cells #[.int .i64 0, .int .i64 0, .string ⟨#[]⟩, .slice none 0 0, .slice none 0 0, .slice none 0 0] 28)).alloc (.cells #[.int .i64 aop, .int .i64 an, .string ass, .slice aka akn akc, .slice ana ans.length anc, .slice aa al.length ac] 28)) (HE.out _ hgw) hyc HV.out.1.1 HV.out.2.1 hrow (fun z hz => by rw [List.mem_singleton.1 hz]; exact hac) (fun z hz => by rw [List.mem_singleton.1 hz]; exact ⟨HV.out.1.2, HV.out.2.2⟩) (by simp) (by rw [List.map_cons, List.map_nil, HT.out]; exact HBT.out)
   rw [HPY.out, List.map_cons, List.map_nil, HT.out] at HC
   refine HC.mono ?_
   rintro e w5 ⟨dd, er, rfl, hdd, hb5, hyes, hno⟩
   obtain ⟨xop, xn, xs, xk, xns, xl, xka, xkn, xkc, xna, xnc, xla, xlc, rfl, hxk, _⟩ := cSQ hdd
   have hxv := cVQ (op := xop) (n := xn) (s := xs) (nv := .slice xna xns.length xnc) (lv := .slice xla xl.length xlc) (ns := xns) (l := xl) hxk
   rw [hxv]
   have hgs := gBQ hgl (gLQ hb5)
   have Ss := HSA.out w5 (gBQ HG1.out (fNQ hgs _)) ((hgs.block _ (hLQ kF1) (by nofun)).trans kF1) ((hgs.block _ (hLQ kA1) (by nofun)).trans kA1)
   refine hK.out _ _ Ss (fun _ => ?_)
   clear hK K HC hrow hac hyc hup hq
   have hsw5 := hb5.size
   have kL := (hb5.block _ (by omega)).trans kL1
   refine tks (b := ?_) (by kernel_rfl) (fun _ _ _ _ _ h => h) Ss 3 [7, 8, 9] (by kernel_rfl) ?_ ?_
   rotate_left
   ·iterate 3 (refine yc (v := ?_) rfl rfl (by rfl) (fun w9 hSw => ?_) ?_; rotate_left; (focus go_simp; try rfl); simp only [Act.put, l1Q, l2Q, l3Q])
    exact rfl
   have hrw := gRQ (w5) (V.heap.size) #[.int .i64 xop, .int .i64 xn, .string xs, .slice xka xkn xkc, .slice xna xns.length xnc, .slice xla xl.length xlc]
   have hR7 : w.heap.size + 2 < V.heap.size := by omega
   have kF6 := (hrw.block _ (hLQ ((hgs.block _ (hLQ kF1) (by nofun)).trans kF1)) (fun e => by have e2 : w.heap.size = V.heap.size := oJQ e; omega)).trans ((hgs.block _ (hLQ kF1) (by nofun)).trans kF1)
   have kA6 := (hrw.block _ (hLQ ((hgs.block _ (hLQ kA1) (by nofun)).trans kA1)) (fun e => by have e2 : w.heap.size + 1 = V.heap.size := oJQ e; omega)).trans ((hgs.block _ (hLQ kA1) (by nofun)).trans kA1)
   have HG6 := hJQ (gOQ (gBQ HG1.out (fNQ hgs (some kb))) hrw (by omega))
   have Sz := HSA.out _ HG6.out kF6 kA6
   refine held_store 11 (by kernel_rfl) (by rfl) (by rfl) (by rfl) 28 _ _ (by rfl) (V.heap.size) #[.int .i64 xop, .int .i64 xn, .string xs, .slice xka xkn xkc, .slice xna xns.length xnc, .slice xla xl.length xlc] (by rfl) (by rfl) 28 _ kL cIQ rfl (all_one _ rfl) Sz ?_
   refine tks (b := ?_) (by kernel_rfl) (fun _ _ _ _ _ h => h) Sz 1 [12] (by kernel_rfl) ?_ ?_
   rotate_left
   ·refine yc (v := ?_) rfl rfl (by rfl) (fun w9 hSw => ?_) ?_; rotate_left; (focus go_simp; try rfl); simp only [Act.put, l1Q, l2Q, l3Q]
    exact rfl
   refine wpAnyH_done (by kernel_rfl) ?_ _
   have G6 := hJQ (setRow_heap (w5) (V.heap.size) _ #[.int .i64 xop, .int .i64 xn, .string xs, .slice xka xkn xkc, .slice xna xns.length xnc, .slice xla xl.length xlc] _ _ kL)
   have C6 := hJQ ((kC1.grown hgs (by nofun)).grown hrw (by intro e; have e2 : V.heap.size = kb := oJQ e; omega))
   have K6 := hJQ ((hrw.block _ (hLQ ((hgs.block _ (hLQ kR1) (by nofun)).trans kR1)) (fun e => by have e2 : w.heap.size + 2 = V.heap.size := oJQ e; omega)).trans ((hgs.block _ (hLQ kR1) (by nofun)).trans kR1))
   have D6 : Hid (IsCon (fun b => w.heap.size + 2 < b/\b ≠ V.heap.size) ((w5).setRow (V.heap.size) #[.int .i64 xop, .int .i64 xn, .string xs, .slice xka xkn xkc, .slice xna xns.length xnc, .slice xla xl.length xlc]) (.mk xop xn xs xk (.slice xna xns.length xnc) xns (.slice xla xl.length xlc) xl)) := ((hdd.mono (Q := fun b => w.heap.size + 2 < b/\b ≠ V.heap.size) (fun b hb _ => by have h1 : ((V.drew.alloc (.cells #[.int .i64 0, .int .i64 0, .string ⟨#[]⟩, .slice none 0 0, .slice none 0 0, .slice none 0 0] 28)).alloc (.cells #[.int .i64 aop, .int .i64 an, .string ass, .slice aka akn akc, .slice ana ans.length anc, .slice aa al.length ac] 28)).heap.size<=b := hb; exact ⟨by omega, by omega⟩))).grown hrw (fun q hq hp => hp.2 (oJQ hq).symm)
   have HY := hJQ hyes
   have HN := hJQ hno
   have HXV := hJQ hxv
   clear hrw kF6 kA6 Sz hdd hyes hno hxv hb5 Ss
   generalize (w5).setRow (V.heap.size) #[.int .i64 xop, .int .i64 xn, .string xs, .slice xka xkn xkc, .slice xna xns.length xnc, .slice xla xl.length xlc] = V6 at *
   clear kL kL0 kL1 hgl hgs hga kRow Sa Sl
   obtain ⟨l0, l1, l2, l3, l4, l5⟩ := cnQ G6.out
   obtain ⟨p0, p1, fp0, fp1⟩ := C6.out.cells
   have hs6 := HG6.out.size
   obtain ⟨bv, hbv⟩ : ∃ q9, valC T = q9 := ⟨_, rfl⟩
   have HBV := hJQ hbv
   clear hbv
   cases bv
   ·have her := (HN.out HBV.out).1
    subst her
    have HO : Hid ((!(decide (steps < 10000) && valC T)) = true) := by show _ = _; rw [HBV.out, Bool.and_false]; rfl
    have hS2 := gSQ V6 kb 1 (.bool true)
    have kC2 := C6.out.set1 true
    have kR2 := (hS2.block (w.heap.size + 2) (hLQ K6.out) (fun e => by have e2 : w.heap.size + 2 = kb := oJQ e; omega)).trans K6.out
    have hg2 := gBQ HG6.out hS2
    clear hS2
    have hrow := gRQ (V6.setCell ⟨kb, 1, none⟩ (.bool true)) (w.heap.size + 2) #[.int .i64 0, .int .i64 0, .string ⟨#[]⟩, .slice none 0 0, .slice none 0 0, .slice none 0 0]
    have HRF := hJQ (setRow_heap (V6.setCell ⟨kb, 1, none⟩ (.bool true)) (w.heap.size + 2) _ #[.int .i64 0, .int .i64 0, .string ⟨#[]⟩, .slice none 0 0, .slice none 0 0, .slice none 0 0] _ _ kR2)
    have HGF := hJQ (gOQ hg2 hrow (by omega))
    have HCF := hJQ ((kC2).grown hrow (by intro e; have e2 : w.heap.size + 2 = kb := oJQ e; omega))
    clear hrow
    go_wp2_with (refine wpList_store_row rfl 28 _ _ rfl (w.heap.size + 2) _ rfl rfl 28 _ kR2 cIQ rfl (all_one _ rfl) ?_)
    refine bodyPost_ret (results_cell_row rfl _ _ (w.heap.size + 2) 28 #[.int .i64 0, .int .i64 0, .string ⟨#[]⟩, .slice none 0 0, .slice none 0 0, .slice none 0 0] (0, 0) _ rfl HRF.out Tryz.underlying28 rfl cIQ) rfl ?_
    exact ⟨zeroD, true, by rw [HZ.out], HCF.out, HGF.out, HO.out.symm, nofun, fun _ => rfl⟩
   ·obtain ⟨her, hpd⟩ := HY.out HBV.out
    subst her
    have HO : Hid ((!(decide (steps < 10000) && valC T)) = false) := by show _ = _; rw [HBV.out, decide_eq_true q2]; rfl
    have hvv := val_iff.1 HBV.out
    have hsm : smallC T = true := by show (decide _ && decide _) = true; rw [decide_eq_true hvv.1, decide_eq_true hvv.2.1]; rfl
    have HKp := kept_any _ _ kb (steps + 1) false V6 D6.out C6.out (by rw [hpd]; omega)
    rw [HXV.out] at HKp
    have HKp := hJQ HKp
    go_wp2_with fail
    refine HKp.out.mono ?_
    rintro e w7 ⟨d9, rfl, hc7, hg7, hd9, _⟩
    rw [hpd, hsm] at hc7 hd9
    obtain rfl := hd9 rfl
    rw [HXV.out]
    have hc7 : CtAt w7 kb (steps + 1) false := hc7
    have kR7 := (hg7.block _ (hLQ K6.out) (fun e => by have e2 : w.heap.size + 2 = kb := oJQ e; omega)).trans K6.out
    have HG7 := hJQ (gBQ HG6.out hg7)
    have hrw := gRQ w7 (w.heap.size + 2) #[.int .i64 xop, .int .i64 xn, .string xs, .slice xka xkn xkc, .slice xna xns.length xnc, .slice xla xl.length xlc]
    have HRF := hJQ (setRow_heap w7 (w.heap.size + 2) _ #[.int .i64 xop, .int .i64 xn, .string xs, .slice xka xkn xkc, .slice xna xns.length xnc, .slice xla xl.length xlc] _ _ kR7)
    have HGF := hJQ (gOQ HG7.out hrw (by omega))
    have HCF := hJQ (hc7.grown hrw (by intro e; have e2 : w.heap.size + 2 = kb := oJQ e; omega))
    have HDF := hJQ (((D6.out.grown hg7 (fun q hq hp => by have e2 : kb = q := oJQ hq; have := hp.1; omega)).grown hrw (fun q hq hp => by have e2 : w.heap.size + 2 = q := oJQ hq; have := hp.1; omega)).mono (Q := fun b => w.heap.size<=b) (fun b hb _ => by have := hb.1; show w.heap.size<=b; omega))
    clear hrw HKp
    go_wp2_with (refine wpList_store_row rfl 28 _ _ rfl (w.heap.size + 2) _ rfl rfl 28 _ kR7 cIQ rfl (all_one _ rfl) ?_)
    refine bodyPost_ret (results_cell_row rfl _ _ (w.heap.size + 2) 28 #[.int .i64 xop, .int .i64 xn, .string xs, .slice xka xkn xkc, .slice xna xns.length xnc, .slice xla xl.length xlc] (0, 0) _ rfl HRF.out Tryz.underlying28 rfl cIQ) rfl ?_
    exact ⟨_, false, by rw [HXV.out], HCF.out, HGF.out, HO.out.symm, fun _ => ⟨HDF.out, hpd⟩, nofun⟩
end Go.Proofs.YtkiffgdinmpljaaGreatDoor
