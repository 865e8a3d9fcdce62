/- The reference's Grown, Subst over a list of one. Expanded by mac.py. The reference's eta, normal, Is. Printed by gen_reta.py, expanded by mac.py. The reference's normal. Printed by gen_rnormal.py, expanded by mac.py. -/
import Derived.Test.YtkiffgdinmpljaaGreatDoorF28
import Derived.Test.YtkiffgdinmpljaaGreatDoorF29
import Derived.Test.YtkiffgdinmpljaaGreatDoorF17
set_option linter.unusedVariables false
set_option linter.unusedSimpArgs false
namespace Go.Proofs.YtkiffgdinmpljaaGreatDoor
open Go Go.RowKit
set_option maxHeartbeats 8000000
set_option maxRecDepth 100000
theorem one_enc (g : ConD) : cCQ [g] = cEQ g := by simp [cCQ]
theorem rGrown_any (P : Nat->Prop) (x g : ConD) (ga : Option Addr) (gc : Nat) (w : World) (h : IsCon P w x) (hf : frmC (pC x) = true) (hsz : sizeC (pC x)<=20000) (hd : dCQ (pC x)<=20001) (hg : RowP P w (.slice ga 1 gc) 1 (cEQ g)) (hgc : IsCon P w g) (hgf : frmC (pC g) = true) (hgs : sizeC (pC g)<=20000) :
 Calls Tryz.prog 39 #[conV x, .slice ga 1 gc] w fun e w' => e = .returned (.int .i64 (sizeC (sC9 [pC g] 0 (pC x)) : Nat))/\Below w.heap.size w w' := by
 have hgr := grown_subst (pC g) hgf (pC x) 0 hf
 obtain ⟨i0, hi, hz0, hz1, hz2⟩ := info_parts info_i64
 obtain ⟨op, n, s, k, nv, ns, lv, l⟩ := x
 obtain ⟨ka, kc, kn, na, nc, a, c, rfl, _, rfl, _, hks, hcv, hll, hnn, hb0, gC, hsz0, HP, HC0, c0, c1, c2, c3, c4, c5⟩ := open_box h
 rw [hcv]
 clear hcv
 have hPW := cVQ (op := op) (n := n) (s := s) (nv := .slice na ns.length nc) (lv := .slice a l.length c) (ns := ns) (l := l) hks
 rw [← one_enc] at hg
 have hr1 := rowP_below (show RowP P w (.slice ga ([g].length) gc) ([g].length) (cCQ [g]) from hg) hb0
 obtain ⟨b, off, yop, yn, ys, yk, yns, yl, yka, ykn, ykc, yna, ync, ya, yc', fd, hbl, hq, hy, hmem, hv, HT, e0, e1, e2, e3, e4, e5⟩ := part_at hr1 (fun y hy => by rw [List.mem_singleton.1 hy]; exact iBQ hgc hb0) 0 (by simp)
 subst fd
 have hq : g = _ := hq
 subst hq
 have e0 : (w.alloc (.cells #[.int .i64 op, .int .i64 n, .string s, .slice ka kn kc, .slice na ns.length nc, .slice a l.length c] 28)).cell? ⟨b, off, none⟩ = some (.int .i64 yop) := by simpa using e0
 have e1 : (w.alloc (.cells #[.int .i64 op, .int .i64 n, .string s, .slice ka kn kc, .slice na ns.length nc, .slice a l.length c] 28)).cell? ⟨b, off + 1, none⟩ = some (.int .i64 yn) := by simpa using e1
 have e2 : (w.alloc (.cells #[.int .i64 op, .int .i64 n, .string s, .slice ka kn kc, .slice na ns.length nc, .slice a l.length c] 28)).cell? ⟨b, off + 2, none⟩ = some (.string ys) := by simpa using e2
 have e3 : (w.alloc (.cells #[.int .i64 op, .int .i64 n, .string s, .slice ka kn kc, .slice na ns.length nc, .slice a l.length c] 28)).cell? ⟨b, off + 3, none⟩ = some (.slice yka ykn ykc) := by simpa using e3
 have e4 : (w.alloc (.cells #[.int .i64 op, .int .i64 n, .string s, .slice ka kn kc, .slice na ns.length nc, .slice a l.length c] 28)).cell? ⟨b, off + 4, none⟩ = some (.slice yna yns.length ync) := by simpa using e4
 have e5 : (w.alloc (.cells #[.int .i64 op, .int .i64 n, .string s, .slice ka kn kc, .slice na ns.length nc, .slice a l.length c] 28)).cell? ⟨b, off + 5, none⟩ = some (.slice ya yl.length yc') := by simpa using e5
 have HSz := hJQ (rsize_any P _ (w.alloc (.cells #[.int .i64 op, .int .i64 n, .string s, .slice ka kn kc, .slice na ns.length nc, .slice a l.length c] 28)) hy (by omega))
 rw [hv] at HSz
 have HGr : Hid (∀ W sb soff sc, Below w.heap.size w W->sb < W.heap.size->W.cell? ⟨sb, soff, none⟩ = some (.int .i64 (sizeC (pC (.mk yop yn ys yk (.slice yna yns.length ync) yns (.slice ya yl.length yc') yl))))->Calls Tryz.prog 73 #[(.agg #[.int .i64 op, .int .i64 n, .string s, .slice ka kn kc, .slice na ns.length nc, .slice a l.length c]), .slice (some ⟨sb, soff, none⟩) 1 sc, .int .i64 0] W fun e w' => e = .returned (.int .i64 (sizeC (sC9 [pC (.mk yop yn ys yk (.slice yna yns.length ync) yns (.slice ya yl.length yc') yl)] 0 (pC (.mk op n s k (.slice na ns.length nc) ns (.slice a l.length c) l))) : Nat))/\Below W.heap.size W w') := fun W sb soff sc hW hsb hsc => by
  have := rgrown_any _ P W sb soff sc _ 0 (iBQ h hW) hf hsz hgs hsb hsc (by omega)
  rw [hPW, hgr] at this
  exact this
 clear h hks hPW HP HC0 hg hgc hgf hr1 hy hv hmem HT hgr hf hsz hd
 have hgs := hJQ hgs
 generalize sizeC (sC9 [pC (.mk yop yn ys yk (.slice yna yns.length ync) yns (.slice ya yl.length yc') yl)] 0 (pC (.mk op n s k (.slice na ns.length nc) ns (.slice a l.length c) l))) = res at *
 generalize sizeC (pC (.mk yop yn ys yk (.slice yna yns.length ync) yns (.slice ya yl.length yc') yl)) = szy at *
 go_enter Tryz.func39, Tryz.ntmps39
 go_wp2_with fail
 have hbW := hb0
 have HSW := hJQ hsz0
 generalize w.alloc (.cells #[.int .i64 op, .int .i64 n, .string s, .slice ka kn kc, .slice na ns.length nc, .slice a l.length c] 28) = W at *
 go_loopw [5, 6] (fun v i wr => (i = .int .i64 0/\v = .slice none 0 0/\wr = W) ∨ (i = .int .i64 1/\∃ sb soff sc, v = .slice (some ⟨sb, soff, none⟩) 1 sc/\Hid (Below w.heap.size w wr)/\Hid (sb < wr.heap.size/\wr.cell? ⟨sb, soff, none⟩ = some (.int .i64 szy))/\Hid (wr.heap[w.heap.size]? = some (.cells #[.int .i64 op, .int .i64 n, .string s, .slice ka kn kc, .slice na ns.length nc, .slice a l.length c] 28 (0, 0))))) (fun _ i _ => 1 - (intOf i).toNat)
 case atStart => exact .inl ⟨rfl, rfl, rfl⟩
 case round =>
  rcases hrel with ⟨rfl, rfl, rfl⟩ | ⟨rfl, sb, soff, sc, rfl, HB, HS, HK⟩
  ·rename World => V
   go_wp2_with fail
   refine HSz.out.mono ?_
   rintro e w2 ⟨rfl, hb2⟩
   have hbw2 := hbW.trans (hb2.mono hbW.size)
   have hsw2 := hbw2.size
   have how : w2.ownsRow w.heap.size 3 1 (.slice none 0 0) 0 (intv []) := ⟨rfl, .inl ⟨rfl, rfl⟩⟩
   have HOw := hJQ how
   have k2 := (hb2.block _ (hLQ gC)).trans gC
   have HK2 := hJQ k2
   clear HSz e0 e1 e2 e3 e4 e5 c0 c1 c2 c3 c4 c5 how k2
   go_wp2_with (at_builtin; refine wpList_append_own _ rfl _ _ 89 rfl w.heap.size 3 i0 (.int .i64 0) 1 8 Tryz.underlying89 hi hz0 hz1 hz2 rfl (by decide) _ 0 (intv []) rfl (HOw.out.alloc _) ⟨w2.heap.size, 0, none⟩ 1 1 [.int .i64 szy] rfl rfl (World.news_of_block (cs := #[.int .i64 szy]) (nHQ w2 _)) (by intro u hu; simp at hu; subst hu; rfl) (by unfold maxLen; omega) (by omega) (by simp; omega) ?_)
   intro v3 w3 hown3 hgrow3 _
   have hb3 : Below w.heap.size w w3 := (hbw2.alloc hbw2.size _).trans (gUQ hgrow3 (by simp; omega) (fun q hq => (HOw.out.lt q hq).1))
   have hiv : IntsAt w3 v3 [(szy : Int)] := rowP_owns hown3 (fun _ _ => trivial)
   obtain ⟨sb, soff, sc, rfl, hsb, hsc⟩ := ints_at hiv 0 (by simp)
   have k3 := (hgrow3.block w.heap.size (by simp; omega) (by rw [show (Value.slice none 0 0).ownBlock = none from rfl]; nofun)).trans (((gAQ w2 (.cells #[.int .i64 szy] 3)).block w.heap.size (by have := HSW.out; have := hb2.size; omega) (by nofun)).trans HK2.out)
   have HB3 := hJQ hb3
   have HS3 : Hid (sb < w3.heap.size/\w3.cell? ⟨sb, soff, none⟩ = some (.int .i64 szy)) := ⟨hsb, by simpa using hsc⟩
   have HK3 := hJQ k3
   clear hown3 hgrow3 hiv hsb hsc k3 HOw HK2
   go_wp2_with fail
   go_roundw
   case rel => exact .inr ⟨rfl, sb, soff, sc, rfl, HB3, HS3, HK3⟩
   case measure => simp [intOf]
  ·rename World => V
   have HG := hJQ (HGr.out V sb soff sc HB.out HS.out.1 HS.out.2)
   have hbV := HB.out
   obtain ⟨d0, d1, d2, d3, d4, d5⟩ := cnQ HK.out
   clear HGr HSz e0 e1 e2 e3 e4 e5 c0 c1 c2 c3 c4 c5 HS HK
   go_wp2_with fail
   refine HG.out.mono ?_
   rintro e w3 ⟨rfl, hb3⟩
   have hbz := hbV.trans (hb3.mono hbV.size)
   clear HG
   go_wp2_with fail
   go_ret
   exact ⟨rfl, hbz⟩
theorem rSubst_any (P : Nat->Prop) (x g : ConD) (ga : Option Addr) (gc : Nat) (w : World) (hP : ∀ b, w.heap.size<=b->P b) (h : IsCon P w x) (hf : frmC (pC x) = true) (hsz : sizeC (pC x)<=1000000) (hd : dCQ (pC x)<=20001) (hg : RowP P w (.slice ga 1 gc) 1 (cEQ g)) (hgc : IsCon P w g) (hgf : frmC (pC g) = true) (hgs : sizeC (pC g)<=1000000) (hgd : dCQ (pC g)<=10000) :
 Calls Tryz.prog 40 #[conV x, .slice ga 1 gc] w fun e w' => ConOut P (sC9 [pC g] 0 (pC x)) e w'/\Below w.heap.size w w' := by
 obtain ⟨op, n, s, k, nv, ns, lv, l⟩ := x
 obtain ⟨ka, kc, kn, na, nc, a, c, rfl, _, rfl, _, hks, hcv, hll, hnn, hb0, gC, hsz0, HP, HC0, c0, c1, c2, c3, c4, c5⟩ := open_box h
 rw [hcv]
 clear hcv
 have hPW := cVQ (op := op) (n := n) (s := s) (nv := .slice na ns.length nc) (lv := .slice a l.length c) (ns := ns) (l := l) hks
 obtain ⟨hg1, kR, kB, hszW⟩ := fo_box gC
 have hbW := gUQ (B := w.heap.size) (gBQ (gAQ w (.cells #[.int .i64 op, .int .i64 n, .string s, .slice ka kn kc, .slice na ns.length nc, .slice a l.length c] 28)) hg1) (nLQ _) (by nofun)
 have HC : Hid (Calls Tryz.prog 74 #[(.agg #[.int .i64 op, .int .i64 n, .string s, .slice ka kn kc, .slice na ns.length nc, .slice a l.length c]), .slice ga 1 gc, .int .i64 0] ((w.alloc (.cells #[.int .i64 op, .int .i64 n, .string s, .slice ka kn kc, .slice na ns.length nc, .slice a l.length c] 28)).alloc (.cells #[.int .i64 0, .int .i64 0, .string ⟨#[]⟩, .slice none 0 0, .slice none 0 0, .slice none 0 0] 28)) fun e w' => ConOut (fun b => P b/\b ≠ w.heap.size + 1) (sC9 [pC g] 0 (pC (.mk op n s k (.slice na ns.length nc) ns (.slice a l.length c) l))) e w'/\Below ((w.alloc (.cells #[.int .i64 op, .int .i64 n, .string s, .slice ka kn kc, .slice na ns.length nc, .slice a l.length c] 28)).alloc (.cells #[.int .i64 0, .int .i64 0, .string ⟨#[]⟩, .slice none 0 0, .slice none 0 0, .slice none 0 0] 28)).heap.size ((w.alloc (.cells #[.int .i64 op, .int .i64 n, .string s, .slice ka kn kc, .slice na ns.length nc, .slice a l.length c] 28)).alloc (.cells #[.int .i64 0, .int .i64 0, .string ⟨#[]⟩, .slice none 0 0, .slice none 0 0, .slice none 0 0] 28)) w') := by
  have hlt9 : ∀ b, (P b/\b < w.heap.size)->b < w.heap.size->P b/\b ≠ w.heap.size + 1 := fun b hb _ => ⟨hb.1, by omega⟩
  have := rsubst_any _ (fun b => P b/\b ≠ w.heap.size + 1) ((w.alloc (.cells #[.int .i64 op, .int .i64 n, .string s, .slice ka kn kc, .slice na ns.length nc, .slice a l.length c] 28)).alloc (.cells #[.int .i64 0, .int .i64 0, .string ⟨#[]⟩, .slice none 0 0, .slice none 0 0, .slice none 0 0] 28)) ga gc g (pC g) 0 (fun b hb => ⟨hP b (by omega), by omega⟩) ((h.lt.keep hbW.size (fun b _ hlt => hbW.block b hlt)).mono (fun b hb _ => ⟨hb.1, by have := hb.2; omega⟩)) hf hsz (((hg.mono (Q := fun b => P b/\b < w.heap.size) (fun b hp hlt => ⟨hp, hlt⟩)).keep hbW.size (fun b _ hlt => hbW.block b hlt)).mono (fun b hb _ => ⟨hb.1, by have := hb.2; omega⟩)) ((hgc.lt.keep hbW.size (fun b _ hlt => hbW.block b hlt)).mono (fun b hb _ => ⟨hb.1, by have := hb.2; omega⟩)) rfl hgf hgs hgd (by omega)
  rw [hPW] at this
  exact this
 clear c0 c1 c2 c3 c4 c5 h hb0 gC HP HC0 hsz0 hg1 hks hPW hg hgc hgf hgs hgd hf hsz hd hP
 generalize sC9 [pC g] 0 (pC (.mk op n s k (.slice na ns.length nc) ns (.slice a l.length c) l)) = T at *
 go_enter Tryz.func40, Tryz.ntmps40
 go_upto_region 1 with fail
 generalize (w.alloc (.cells #[.int .i64 op, .int .i64 n, .string s, .slice ka kn kc, .slice na ns.length nc, .slice a l.length c] 28)).alloc (.cells #[.int .i64 0, .int .i64 0, .string ⟨#[]⟩, .slice none 0 0, .slice none 0 0, .slice none 0 0] 28) = W at *
 obtain ⟨c0, c1, c2, c3, c4, c5⟩ := cnQ kB
 go_wp2_with fail
 refine (HC.out).mono ?_
 rintro e w2 ⟨ho, hb2⟩
 obtain ⟨dd, xo, xn, xs, xka, xkn, xkc, xna, xnm, xnc, xla, xlm, xlc, rfl, hdd, hpd, hdv⟩ := ho.open'
 have gR2 := (hb2.block _ (hLQ kR)).trans kR
 have hltR := hLQ kR
 have hrow := gRQ w2 (w.heap.size + 1) #[.int .i64 xo, .int .i64 xn, .string xs, .slice xka xkn xkc, .slice xna xnm xnc, .slice xla xlm xlc]
 have HR3 := hJQ (setRow_heap w2 (w.heap.size + 1) _ #[.int .i64 xo, .int .i64 xn, .string xs, .slice xka xkn xkc, .slice xna xnm xnc, .slice xla xlm xlc] _ _ gR2)
 have HB := hJQ ((hbW.trans (hb2.mono hbW.size)).trans (gUQ (B := w.heap.size) hrow (by have := hbW.size; have := hb2.size; omega) (fun q hq => by have e2 : (w.heap.size + 1) = q := oJQ hq; omega)))
 have HD := hJQ ((hdd.grown hrow (fun q hq hp => by have e2 : (w.heap.size + 1) = q := oJQ hq; exact hp.2 e2.symm)).mono (Q := P) (fun b hb _ => hb.1))
 clear hrow hdd ho hb2
 go_wp2_with (refine wpList_store_row rfl 28 _ _ rfl (w.heap.size + 1) _ rfl rfl 28 _ gR2 cIQ rfl (all_one _ rfl) ?_)
 refine bodyPost_ret (results_cell_row rfl _ _ (w.heap.size + 1) 28 #[.int .i64 xo, .int .i64 xn, .string xs, .slice xka xkn xkc, .slice xna xnm xnc, .slice xla xlm xlc] (0, 0) _ rfl HR3.out Tryz.underlying28 rfl cIQ) rfl ?_
 exact ⟨⟨dd, by rw [hdv], HD.out, hpd⟩, HB.out⟩
theorem reta_no (P : Nat->Prop) (op n : Int) (s : ByteArray) (k : KindD) (nv : Value) (ns : List ByteArray) (lv : Value) (l : List ConD) (w : World) (h : IsCon P w (.mk op n s k nv ns lv l)) (q1 : op ≠ 11) :
 Calls Tryz.prog 59 #[conV (.mk op n s k nv ns lv l)] w (EtaOk (.mk op n s k nv ns lv l) w) := by
 obtain ⟨ka, kc, kn, na, nc, a, c, rfl, _, rfl, _, hks, hcv, hll, hnn, hb0, gC, hsz0, HP, HC0, c0, c1, c2, c3, c4, c5⟩ := open_box h
 rw [hcv]
 clear hcv
 have q1' : (op != 11) = true := nNQ q1
 have HE : Hid (etaC (pC (.mk op n s k (.slice na ns.length nc) ns (.slice a l.length c) l)) = false) := by
  show _ = _
  rw [pMQ]
  unfold etaC
  have : ((Cn.mk op n s (pK k) ns (l.map pC)).op == 11) = false := nEQ q1
  rw [this]; rfl
 unfold EtaOk
 rw [HE.out]
 clear h hks HP HC0 q1
 go_enter Tryz.func59, Tryz.ntmps59
 go_wp2_with fail
 go_ret
 exact ⟨rfl, hb0⟩
theorem reta_part (P : Nat->Prop) (n : Int) (s : ByteArray) (k : KindD) (nv : Value) (ns : List ByteArray) (lv : Value) (y : ConD) (w : World) (h : IsCon P w (.mk 11 n s k nv ns lv [y])) (q1 : y.op ≠ 12) :
 Calls Tryz.prog 59 #[conV (.mk 11 n s k nv ns lv [y])] w (EtaOk (.mk 11 n s k nv ns lv [y]) w) := by
 have HE : Hid (etaC (pC (.mk 11 n s k nv ns lv [y])) = false) := by
  show _ = _
  rw [pMQ]
  have : ((pC y).op == 12) = false := nEQ (by rw [ConD.op_pure]; exact q1)
  show ((11 : Int) == 11 && (pC y).op == 12 && _ && _ && _) = false
  rw [this]; rfl
 unfold EtaOk
 rw [HE.out]
 obtain ⟨ka, kn, kc, na, nc, b, off, c, hks, rfl, rfl, hcv, ⟨_, hbl⟩, hyc, y0, y1, y2, y3, y4, y5⟩ := open_11 h
 rw [hcv]
 have hb0 : Below w.heap.size w (w.alloc (.cells #[.int .i64 11, .int .i64 n, .string s, .slice ka kn kc, .slice na ns.length nc, .slice (some ⟨b, off, none⟩) 1 c] 28)) := (Below.refl _ _).alloc (nLQ _) _
 obtain ⟨c0, c1, c2, c3, c4, c5⟩ := cnQ (nHQ w (.cells #[.int .i64 11, .int .i64 n, .string s, .slice ka kn kc, .slice na ns.length nc, .slice (some ⟨b, off, none⟩) 1 c] 28))
 have y0' := (hb0.cell (p := ⟨b, off, none⟩) hbl).trans y0
 have q1' : (y.op != 12) = true := nNQ q1
 generalize y.op = yop at *
 clear h hks hcv hyc y1 y2 y3 y4 y5 y0 q1 HE
 go_enter Tryz.func59, Tryz.ntmps59
 go_wp2_with fail
 go_ret
 exact ⟨rfl, hb0⟩
theorem reta_app (P : Nat->Prop) (n : Int) (s : ByteArray) (k : KindD) (nv : Value) (ns : List ByteArray) (lv : Value) (yn : Int) (ys : ByteArray) (yk : KindD) (ynv : Value) (yns : List ByteArray) (ylv : Value) (fd gd : ConD) (w : World) (h : IsCon P w (.mk 11 n s k nv ns lv [.mk 12 yn ys yk ynv yns ylv [fd, gd]])) (hdp : dCQ (pC fd)<=20000) (hff : frmC (pC fd) = true) (hfs : sizeC (pC fd)<=100000) :
 Calls Tryz.prog 59 #[conV (.mk 11 n s k nv ns lv [.mk 12 yn ys yk ynv yns ylv [fd, gd]])] w (EtaOk (.mk 11 n s k nv ns lv [.mk 12 yn ys yk ynv yns ylv [fd, gd]]) w) := by
 have HE : Hid (etaC (pC (.mk 11 n s k nv ns lv [.mk 12 yn ys yk ynv yns ylv [fd, gd]])) = (gd.op == 1 && gd.n == 0 && !occC 0 (pC fd))) := by
  show _ = _
  rw [pMQ, List.map_cons, pMQ]
  obtain ⟨gop, gn, gs, gk, gnv, gns, glv, gl⟩ := gd
  rw [List.map_cons, List.map_cons, pMQ]; rfl
 unfold EtaOk
 rw [HE.out]
 obtain ⟨ka, kn, kc, na, nc, b, off, c, hks, rfl, rfl, hcv, ⟨_, hbl⟩, hyc, y0, y1, y2, y3, y4, y5⟩ := open_11 h
 rw [hcv]
 have hrow2 := hyc.parts.row
 obtain ⟨pa, pc, rfl, _⟩ := rSQ hrow2
 obtain ⟨b2, off2, rfl, ⟨_, hbl2⟩, f0, f1, f2, f3, f4, f5⟩ := part_0 (x := fd) (l := [gd]) hrow2
 obtain ⟨g0, g1, g2, g3, g4, g5⟩ := part_1 (x := fd) (y := gd) (l := []) hrow2
 have hfc : IsCon P w fd := hyc.parts.all fd (by simp)
 have hgc : IsCon P w gd := hyc.parts.all gd (by simp)
 have y0 : w.cell? ⟨b, off, none⟩ = some (.int .i64 12) := y0
 have y5 : w.cell? ⟨b, off + 5, none⟩ = some (.slice (some ⟨b2, off2, none⟩) 2 pc) := y5
 have hb0 : Below w.heap.size w (w.alloc (.cells #[.int .i64 11, .int .i64 n, .string s, .slice ka kn kc, .slice na ns.length nc, .slice (some ⟨b, off, none⟩) 1 c] 28)) := (Below.refl _ _).alloc (nLQ _) _
 have gC := nHQ w (.cells #[.int .i64 11, .int .i64 n, .string s, .slice ka kn kc, .slice na ns.length nc, .slice (some ⟨b, off, none⟩) 1 c] 28)
 have hsz0 : (w.alloc (.cells #[.int .i64 11, .int .i64 n, .string s, .slice ka kn kc, .slice na ns.length nc, .slice (some ⟨b, off, none⟩) 1 c] 28)).heap.size = w.heap.size + 1 := by simp
 have HOc := hJQ (fun W (hW : Below w.heap.size w W) => roccurs_any P fd W (iBQ hfc hW) hff hfs (by omega))
 obtain ⟨fop, fn, fs, fk, fns, fl, fka, fkn, fkc, fna, fnc, fa, fc, rfl, hfk, _⟩ := cSQ hfc
 obtain ⟨gop, gn, gs, gk, gns, gl, gka, gkn, gkc, gna, gnc, ga, gc, rfl, hgk, _⟩ := cSQ hgc
 simp only [ConD.op, ConD.n, ConD.s, ConD.k, ConD.nv, ConD.lv, hfk] at f0 f1 f2 f3 f4 f5
 simp only [ConD.op, ConD.n, ConD.s, ConD.k, ConD.nv, ConD.lv, hgk] at g0 g1 g2 g3 g4 g5
 rw [cVQ hfk] at HOc
 rw [show (ConD.mk gop gn gs gk (.slice gna gns.length gnc) gns (.slice ga gl.length gc) gl).op = gop from rfl, show (ConD.mk gop gn gs gk (.slice gna gns.length gnc) gns (.slice ga gl.length gc) gl).n = gn from rfl]
 obtain ⟨bo, hbo⟩ : ∃ b, occC 0 (pC (.mk fop fn fs fk (.slice fna fns.length fnc) fns (.slice fa fl.length fc) fl)) = b := ⟨_, rfl⟩
 rw [hbo] at HOc ⊢
 have cellW : ∀ (W : World) (q o : Nat) (v : Value), Below w.heap.size w W->q < w.heap.size->w.cell? ⟨q, o, none⟩ = some v->W.cell? ⟨q, o, none⟩ = some v := fun W q o v hW hq hc => (hW.cell (p := ⟨q, o, none⟩) hq).trans hc
 have SC : ∀ W, Below w.heap.size w W->W.cell? ⟨b, off + 5, none⟩ = some (.slice (some ⟨b2, off2, none⟩) 2 pc)/\W.cell? ⟨b2, off2, none⟩ = some (.int .i64 fop)/\W.cell? ⟨b2, off2 + 1, none⟩ = some (.int .i64 fn)/\W.cell? ⟨b2, off2 + 2, none⟩ = some (.string fs)/\W.cell? ⟨b2, off2 + 3, none⟩ = some (.slice fka fkn fkc)/\W.cell? ⟨b2, off2 + 4, none⟩ = some (.slice fna fns.length fnc)/\W.cell? ⟨b2, off2 + 5, none⟩ = some (.slice fa fl.length fc) := fun W hW => ⟨cellW W _ _ _ hW hbl y5, cellW W _ _ _ hW hbl2 f0, cellW W _ _ _ hW hbl2 f1, cellW W _ _ _ hW hbl2 f2, cellW W _ _ _ hW hbl2 f3, cellW W _ _ _ hW hbl2 f4, cellW W _ _ _ hW hbl2 f5⟩
 have HSC := hJQ SC
 obtain ⟨c0, c1, c2, c3, c4, c5⟩ := cnQ gC
 have y0' : (w.alloc (.cells #[.int .i64 11, .int .i64 n, .string s, .slice ka kn kc, .slice na ns.length nc, .slice (some ⟨b, off, none⟩) 1 c] 28)).cell? ⟨b, off, none⟩ = some (.int .i64 12) := cellW _ _ _ _ hb0 hbl y0
 have y5' : (w.alloc (.cells #[.int .i64 11, .int .i64 n, .string s, .slice ka kn kc, .slice na ns.length nc, .slice (some ⟨b, off, none⟩) 1 c] 28)).cell? ⟨b, off + 5, none⟩ = some (.slice (some ⟨b2, off2, none⟩) 2 pc) := cellW _ _ _ _ hb0 hbl y5
 have g0' := cellW _ _ _ _ hb0 hbl2 g0
 have g1' := cellW _ _ _ _ hb0 hbl2 g1
 have g2' := cellW _ _ _ _ hb0 hbl2 g2
 have g3' := cellW _ _ _ _ hb0 hbl2 g3
 have g4' := cellW _ _ _ _ hb0 hbl2 g4
 have g5' := cellW _ _ _ _ hb0 hbl2 g5
 clear SC cellW h hks hcv hyc hrow2 hfc hgc hfk hgk hbo y0 y1 y2 y3 y4 y5 f0 f1 f2 f3 f4 f5 g0 g1 g2 g3 g4 g5 HE hff hfs
 go_enter Tryz.func59, Tryz.ntmps59
 go_upto_region 3 with fail
 generalize w.alloc (.cells #[.int .i64 11, .int .i64 n, .string s, .slice ka kn kc, .slice na ns.length nc, .slice (some ⟨b, off, none⟩) 1 c] 28) = W at *
 have kZ : (W.alloc (.cells #[.int .i64 0, .int .i64 0, .string ⟨#[]⟩, .slice none 0 0, .slice none 0 0, .slice none 0 0] 28)).heap[w.heap.size + 1]? = some (.cells #[.int .i64 0, .int .i64 0, .string ⟨#[]⟩, .slice none 0 0, .slice none 0 0, .slice none 0 0] 28) := by
  have := nHQ W (.cells #[.int .i64 0, .int .i64 0, .string ⟨#[]⟩, .slice none 0 0, .slice none 0 0, .slice none 0 0] 28)
  rw [hsz0] at this
  exact this
 have hga := gAQ W (.cells #[.int .i64 0, .int .i64 0, .string ⟨#[]⟩, .slice none 0 0, .slice none 0 0, .slice none 0 0] 28)
 have hrw := gRQ (W.alloc (.cells #[.int .i64 0, .int .i64 0, .string ⟨#[]⟩, .slice none 0 0, .slice none 0 0, .slice none 0 0] 28)) (w.heap.size + 1) #[.int .i64 gop, .int .i64 gn, .string gs, .slice gka gkn gkc, .slice gna gns.length gnc, .slice ga gl.length gc]
 have hbV := (hb0.trans (gUQ (B := w.heap.size) hga (by omega) (by nofun))).trans (gUQ (B := w.heap.size) hrw (by simp; omega) (fun q hq => by have e2 : w.heap.size + 1 = q := oJQ hq; omega))
 have kG := setRow_heap (W.alloc (.cells #[.int .i64 0, .int .i64 0, .string ⟨#[]⟩, .slice none 0 0, .slice none 0 0, .slice none 0 0] 28)) (w.heap.size + 1) _ #[.int .i64 gop, .int .i64 gn, .string gs, .slice gka gkn gkc, .slice gna gns.length gnc, .slice ga gl.length gc] _ _ kZ
 have kC := (hrw.block w.heap.size (by simp; omega) (fun e => by have e2 : w.heap.size = w.heap.size + 1 := oJQ e; omega)).trans ((hga.block w.heap.size (by omega) (by nofun)).trans gC)
 have HKG := hJQ kG
 have HKC := hJQ kC
 have HBV := hJQ hbV
 clear hga hrw hbV kG kC
 go_upto_region 4 with (refine wpList_store_row rfl 28 _ _ rfl (w.heap.size + 1) _ rfl rfl 28 _ kZ cIQ rfl (all_one _ rfl) ?_)
 clear c0 c1 c2 c3 c4 c5 y0' y5' g0' g1' g2' g3' g4' g5' kZ
 generalize ((W.alloc (.cells #[.int .i64 0, .int .i64 0, .string ⟨#[]⟩, .slice none 0 0, .slice none 0 0, .slice none 0 0] 28)).setRow (w.heap.size + 1) #[.int .i64 gop, .int .i64 gn, .string gs, .slice gka gkn gkc, .slice gna gns.length gnc, .slice ga gl.length gc]) = V at *
 obtain ⟨y5, f0, f1, f2, f3, f4, f5⟩ := HSC.out V HBV.out
 obtain ⟨g0, g1, g2, g3, g4, g5⟩ := cnQ HKG.out
 obtain ⟨c0, c1, c2, c3, c4, c5⟩ := cnQ HKC.out
 have hb4 := HBV.out
 have HO := hJQ (HOc.out V hb4)
 clear HOc HSC HKG HKC gC
 by_cases p1 : gop = 1
 rotate_left
 ·have p1' : (gop == 1) = false := nEQ p1
  have HE : Hid (Ending.returned (.bool false) = Ending.returned (.bool (gop == 1 && gn == 0 && !bo))) := by show _ = _; rw [p1']; rfl
  clear p1
  go_wp2_with fail
  go_ret
  exact ⟨HE.out, hb4⟩
 have p1' : (gop == 1) = true := beq_iff_eq.2 p1
 by_cases p2 : gn = 0
 rotate_left
 ·have p2' : (gn == 0) = false := nEQ p2
  have HE : Hid (Ending.returned (.bool false) = Ending.returned (.bool (gop == 1 && gn == 0 && !bo))) := by show _ = _; rw [p1', p2']; rfl
  clear p1 p2
  go_wp2_with fail
  go_ret
  exact ⟨HE.out, hb4⟩
 have p2' : (gn == 0) = true := beq_iff_eq.2 p2
 have HE : Hid (Ending.returned (.bool (!bo)) = Ending.returned (.bool (gop == 1 && gn == 0 && !bo))) := by show _ = _; rw [p1', p2']; rfl
 clear p1 p2
 go_wp2_with fail
 refine HO.out.mono ?_
 rintro e w9 ⟨rfl, hb9⟩
 have hbz := hb4.trans (hb9.mono hb4.size)
 clear HO
 go_wp2_with fail
 go_ret
 exact ⟨HE.out, hbz⟩
theorem reta_any (P : Nat->Prop) (x : ConD) (w : World) (h : IsCon P w x) (hf : frmC (pC x) = true) (hdp : dCQ (pC x)<=20000) (hsz : sizeC (pC x)<=100000) :
 Calls Tryz.prog 59 #[conV x] w (EtaOk x w) := by
 obtain ⟨op, n, s, k, nv, ns, lv, l⟩ := x
 by_cases q1 : op = 11
 ·subst q1
  rw [pMQ] at hf hdp hsz
  obtain ⟨y, rfl⟩ := one_part hf rfl
  by_cases q2 : y.op = 12
  ·obtain ⟨yop, yn, ys, yk, ynv, yns, ylv, yl⟩ := y
   have q2 : yop = 12 := q2
   subst q2
   have hfy : frmC (pC (.mk 12 yn ys yk ynv yns ylv yl)) = true := (fSQ hf).2.2.2.1 _ (by simp)
   rw [pMQ] at hfy
   obtain ⟨fd, gd, rfl⟩ := two_parts hfy
   refine reta_app P n s k nv ns lv yn ys yk ynv yns ylv fd gd w h ?_ ((fSQ hfy).2.2.2.1 _ (by simp)) ?_
   ·rw [depthC_mk, List.map_cons, List.map_nil, depthCL_cons, pMQ, depthC_mk, List.map_cons, depthCL_cons] at hdp
    omega
   ·rw [sMQ, List.map_cons, List.map_nil, sizeCL_cons, pMQ, sMQ, List.map_cons, sizeCL_cons] at hsz
    omega
  ·exact reta_part P n s k nv ns lv y w h q2
 ·exact reta_no P op n s k nv ns lv l w h q1
theorem is_any (P : Nat->Prop) (x : ConD) (w : World) (h : IsCon P w x) (hb : bndC (pC x)) (hE : EnvN w) (hsz : sizeC (pC x)<=1000000000) :
 Calls Tryz.prog 9 #[conV x] w fun e w' => e = .returned (.bool (valC (pC x) && normalC (pC x)))/\Below w.heap.size w w' := by
 obtain ⟨op, n, s, k, nv, ns, lv, l⟩ := x
 obtain ⟨ka, kc, kn, na, nc, a, c, rfl, _, rfl, _, hks, hcv, hll, hnn, hb0, gC, hsz0, HP, HC0, c0, c1, c2, c3, c4, c5⟩ := open_box h
 rw [hcv]
 clear hcv
 have hPW := cVQ (op := op) (n := n) (s := s) (nv := .slice na ns.length nc) (lv := .slice a l.length c) (ns := ns) (l := l) hks
 have HV : Hid (Calls Tryz.prog 25 #[(.agg #[.int .i64 op, .int .i64 n, .string s, .slice ka kn kc, .slice na ns.length nc, .slice a l.length c])] (w.alloc (.cells #[.int .i64 op, .int .i64 n, .string s, .slice ka kn kc, .slice na ns.length nc, .slice a l.length c] 28)) fun e w' => e = .returned (.bool (valC (pC (.mk op n s k (.slice na ns.length nc) ns (.slice a l.length c) l))))/\Below (w.alloc (.cells #[.int .i64 op, .int .i64 n, .string s, .slice ka kn kc, .slice na ns.length nc, .slice a l.length c] 28)).heap.size (w.alloc (.cells #[.int .i64 op, .int .i64 n, .string s, .slice ka kn kc, .slice na ns.length nc, .slice a l.length c] 28)) w') := by
  have := valid_any P _ _ (hE.below hb0) HC0.out hb hsz
  rw [hPW] at this
  exact this
 have HN : Hid (valC (pC (.mk op n s k (.slice na ns.length nc) ns (.slice a l.length c) l)) = true->∀ W, Below w.heap.size w W->Calls Tryz.prog 28 #[(.agg #[.int .i64 op, .int .i64 n, .string s, .slice ka kn kc, .slice na ns.length nc, .slice a l.length c])] W fun e w' => e = .returned (.bool (normalC (pC (.mk op n s k (.slice na ns.length nc) ns (.slice a l.length c) l))))/\Below W.heap.size W w') := fun hv W hW => by
  obtain ⟨hv1, hv2, hv3⟩ := val_iff.1 hv
  have := isNormal_any _ P W (iBQ h hW) hv3 (by omega)
  rw [hPW] at this
  exact this
 have hlt : w.heap.size < (w.alloc (.cells #[.int .i64 op, .int .i64 n, .string s, .slice ka kn kc, .slice na ns.length nc, .slice a l.length c] 28)).heap.size := by omega
 clear h hks hPW HP HC0 hb
 generalize pC (.mk op n s k (.slice na ns.length nc) ns (.slice a l.length c) l) = x at *
 have HF : Hid (∀ b, (valC x && normalC x) = b->Ending.returned (.bool b) = Ending.returned (.bool (valC x && normalC x))) := fun b hb => by rw [hb]
 go_enter Tryz.func9, Tryz.ntmps9
 go_wp2_with fail
 refine HV.out.mono ?_
 rintro e w2 ⟨rfl, hb2⟩
 have hbw2 := hb0.trans (hb2.mono hb0.size)
 have g2 := (hb2.block _ hlt).trans gC
 obtain ⟨d0, d1, d2, d3, d4, d5⟩ := cnQ g2
 clear HV c0 c1 c2 c3 c4 c5
 obtain ⟨bv, hbv⟩ : ∃ b, valC x = b := ⟨_, rfl⟩
 rw [hbv] at HN ⊢
 cases bv
 ·have HE := hJQ (HF.out false (by rw [hbv]; rfl))
  clear HN hbv HF
  go_wp2_with fail
  go_ret
  exact ⟨HE.out, hbw2⟩
 ·have HN2 := hJQ (HN.out rfl _ hbw2)
  clear HN
  obtain ⟨bn, hbn⟩ : ∃ b, normalC x = b := ⟨_, rfl⟩
  rw [hbn] at HN2
  have HE := hJQ (HF.out bn (by rw [hbv, hbn]; rfl))
  clear hbn hbv HF
  go_wp2_with fail
  refine HN2.out.mono ?_
  rintro e w3 ⟨rfl, hb3⟩
  have hbw3 := hbw2.trans (hb3.mono hbw2.size)
  clear HN2
  go_wp2_with fail
  go_ret
  exact ⟨HE.out, hbw3⟩
end Go.Proofs.YtkiffgdinmpljaaGreatDoor
