/- normal.eta. Printed by gen_eta.py, expanded by mac.py. -/
import Derived.Test.YtkiffgdinmpljaaGreatDoorF14
import Derived.Test.YtkiffgdinmpljaaGreatDoorF13
set_option linter.unusedVariables false
set_option linter.unusedSimpArgs false
namespace Go.Proofs.YtkiffgdinmpljaaGreatDoor
open Go Go.RowKit
set_option maxHeartbeats 8000000
set_option maxRecDepth 100000
theorem one_part {op n : Int} {s : ByteArray} {k : Kd} {ns : List ByteArray} {l : List ConD} (h : frmC (.mk op n s k ns (l.map pC)) = true) (hb : binderB op = true) : ∃ y, l = [y] := by
 obtain ⟨f, hf, _⟩ := form_bind cstB labsB hb h
 match l, hf with
 | [y], _ => exact ⟨y, rfl⟩
theorem two_parts {n : Int} {s : ByteArray} {k : Kd} {ns : List ByteArray} {l : List ConD} (h : frmC (.mk 12 n s k ns (l.map pC)) = true) : ∃ y z, l = [y, z] := by
 obtain ⟨f, a, hf, _⟩ := form_app cstB labsB h
 match l, hf with
 | [y, z], _ => exact ⟨y, z, rfl⟩
theorem part_0 {P : Nat->Prop} {V : World} {a : Option Addr} {lc : Nat} {x : ConD} {l : List ConD} (hr : RowP P V (.slice a (x :: l).length lc) (x :: l).length (cCQ (x :: l))) :
 ∃ b off, a = some ⟨b, off, none⟩/\(P b/\b < V.heap.size)/\V.cell? ⟨b, off, none⟩ = some (.int .i64 x.op)/\V.cell? ⟨b, off + 1, none⟩ = some (.int .i64 x.n)/\V.cell? ⟨b, off + 2, none⟩ = some (.string x.s)/\V.cell? ⟨b, off + 3, none⟩ = some x.k.v/\V.cell? ⟨b, off + 4, none⟩ = some x.nv/\V.cell? ⟨b, off + 5, none⟩ = some x.lv := by
 obtain ⟨b, off, c', fd, _, hPb, hbl, d0, d1, d2, d3, d4, d5⟩ := cons_at hr 0 (by simp)
 exact ⟨b, off, (Value.slice.inj fd).1, ⟨hPb, hbl⟩, by simpa using d0, by simpa using d1, by simpa using d2, by simpa using d3, by simpa using d4, by simpa using d5⟩
theorem part_1 {P : Nat->Prop} {V : World} {b off : Nat} {lc : Nat} {x y : ConD} {l : List ConD} (hr : RowP P V (.slice (some ⟨b, off, none⟩) (x :: y :: l).length lc) (x :: y :: l).length (cCQ (x :: y :: l))) :
 V.cell? ⟨b, off + 6, none⟩ = some (.int .i64 y.op)/\V.cell? ⟨b, off + 6 + 1, none⟩ = some (.int .i64 y.n)/\V.cell? ⟨b, off + 6 + 2, none⟩ = some (.string y.s)/\V.cell? ⟨b, off + 6 + 3, none⟩ = some y.k.v/\V.cell? ⟨b, off + 6 + 4, none⟩ = some y.nv/\V.cell? ⟨b, off + 6 + 5, none⟩ = some y.lv := by
 obtain ⟨b', off', c', fd, _, _, hbl, d0, d1, d2, d3, d4, d5⟩ := cons_at hr 1 (by simp)
 have e := (Value.slice.inj fd).1
 simp only [Option.some.injEq, Addr.mk.injEq] at e
 obtain ⟨rfl, rfl, _⟩ := e
 exact ⟨by simpa using d0, by simpa using d1, by simpa using d2, by simpa using d3, by simpa using d4, by simpa using d5⟩
def EtaOk (x : ConD) (w : World) (e : Ending) (w' : World) : Prop := e = .returned (.bool (etaC (pC x)))/\Below w.heap.size w w'
theorem eta_no (P : Nat->Prop) (op n : Int) (s : ByteArray) (k : KindD) (nv : Value) (ns : List ByteArray) (lv : Value) (l : List ConD) (w : World) (h : IsCon P w (.mk op n s k nv ns lv l)) (q1 : op ≠ 11) :
 Calls Tryz.prog 57 #[conV (.mk op n s k nv ns lv l)] w (EtaOk (.mk op n s k nv ns lv l) w) := by
 obtain ⟨ka, kc, kn, na, nc, a, c, rfl, _, rfl, _, hks, hcv, hll, hnn, hb0, gC, hsz0, HP, HC0, c0, c1, c2, c3, c4, c5⟩ := open_box h
 rw [hcv]
 clear hcv
 have q1' : (op != 11) = true := nNQ q1
 have HE : Hid (etaC (pC (.mk op n s k (.slice na ns.length nc) ns (.slice a l.length c) l)) = false) := by
  show _ = _
  rw [pMQ]
  unfold etaC
  have : ((Cn.mk op n s (pK k) ns (l.map pC)).op == 11) = false := nEQ q1
  rw [this]; rfl
 unfold EtaOk
 rw [HE.out]
 clear h hks HP HC0 q1
 go_enter Tryz.func57, Tryz.ntmps57
 go_wp2_with fail
 go_ret
 exact ⟨rfl, hb0⟩
theorem open_11 {P : Nat->Prop} {w : World} {n : Int} {s : ByteArray} {k : KindD} {nv lv : Value} {ns : List ByteArray} {y : ConD} (h : IsCon P w (.mk 11 n s k nv ns lv [y])) :
 ∃ ka kn kc na nc b off c, k.v = .slice ka kn kc/\nv = .slice na ns.length nc/\lv = .slice (some ⟨b, off, none⟩) 1 c/\conV (.mk 11 n s k nv ns lv [y]) = .agg #[.int .i64 11, .int .i64 n, .string s, .slice ka kn kc, .slice na ns.length nc, .slice (some ⟨b, off, none⟩) 1 c]/\(P b/\b < w.heap.size)/\IsCon P w y /\
  w.cell? ⟨b, off, none⟩ = some (.int .i64 y.op)/\w.cell? ⟨b, off + 1, none⟩ = some (.int .i64 y.n)/\w.cell? ⟨b, off + 2, none⟩ = some (.string y.s)/\w.cell? ⟨b, off + 3, none⟩ = some y.k.v/\w.cell? ⟨b, off + 4, none⟩ = some y.nv/\w.cell? ⟨b, off + 5, none⟩ = some y.lv := by
 obtain ⟨ka, kc, kn, hks⟩ := iKQ h.parts.kind
 obtain ⟨na, nc, rfl, _⟩ := rSQ h.parts.names
 have hr := h.parts.row
 obtain ⟨a, c, rfl, _⟩ := rSQ hr
 obtain ⟨b, off, rfl, hbl, y0, y1, y2, y3, y4, y5⟩ := part_0 (x := y) (l := []) hr
 exact ⟨ka, kn, kc, na, nc, b, off, c, hks, rfl, rfl, cVQ hks, hbl, h.parts.all y (by simp), y0, y1, y2, y3, y4, y5⟩
theorem eta_part (P : Nat->Prop) (n : Int) (s : ByteArray) (k : KindD) (nv : Value) (ns : List ByteArray) (lv : Value) (y : ConD) (w : World) (h : IsCon P w (.mk 11 n s k nv ns lv [y])) (q1 : y.op ≠ 12) :
 Calls Tryz.prog 57 #[conV (.mk 11 n s k nv ns lv [y])] w (EtaOk (.mk 11 n s k nv ns lv [y]) w) := by
 have HE : Hid (etaC (pC (.mk 11 n s k nv ns lv [y])) = false) := by
  show _ = _
  rw [pMQ]
  have : ((pC y).op == 12) = false := nEQ (by rw [ConD.op_pure]; exact q1)
  show ((11 : Int) == 11 && (pC y).op == 12 && _ && _ && _) = false
  rw [this]; rfl
 unfold EtaOk
 rw [HE.out]
 obtain ⟨ka, kn, kc, na, nc, b, off, c, hks, rfl, rfl, hcv, ⟨_, hbl⟩, hyc, y0, y1, y2, y3, y4, y5⟩ := open_11 h
 rw [hcv]
 have hb0 : Below w.heap.size w (w.alloc (.cells #[.int .i64 11, .int .i64 n, .string s, .slice ka kn kc, .slice na ns.length nc, .slice (some ⟨b, off, none⟩) 1 c] 28)) := (Below.refl _ _).alloc (nLQ _) _
 obtain ⟨c0, c1, c2, c3, c4, c5⟩ := cnQ (nHQ w (.cells #[.int .i64 11, .int .i64 n, .string s, .slice ka kn kc, .slice na ns.length nc, .slice (some ⟨b, off, none⟩) 1 c] 28))
 have y0' := (hb0.cell (p := ⟨b, off, none⟩) hbl).trans y0
 have q1' : (y.op != 12) = true := nNQ q1
 generalize y.op = yop at *
 clear h hks hcv hyc y1 y2 y3 y4 y5 y0 q1 HE
 go_enter Tryz.func57, Tryz.ntmps57
 go_wp2_with fail
 go_ret
 exact ⟨rfl, hb0⟩
theorem eta_app (P : Nat->Prop) (n : Int) (s : ByteArray) (k : KindD) (nv : Value) (ns : List ByteArray) (lv : Value) (yn : Int) (ys : ByteArray) (yk : KindD) (ynv : Value) (yns : List ByteArray) (ylv : Value) (fd gd : ConD) (w : World) (h : IsCon P w (.mk 11 n s k nv ns lv [.mk 12 yn ys yk ynv yns ylv [fd, gd]])) (hdp : dCQ (pC fd)<=900000) :
 Calls Tryz.prog 57 #[conV (.mk 11 n s k nv ns lv [.mk 12 yn ys yk ynv yns ylv [fd, gd]])] w (EtaOk (.mk 11 n s k nv ns lv [.mk 12 yn ys yk ynv yns ylv [fd, gd]]) w) := by
 have HE : Hid (etaC (pC (.mk 11 n s k nv ns lv [.mk 12 yn ys yk ynv yns ylv [fd, gd]])) = (gd.op == 1 && gd.n == 0 && !occC 0 (pC fd))) := by
  show _ = _
  rw [pMQ, List.map_cons, pMQ]
  obtain ⟨gop, gn, gs, gk, gnv, gns, glv, gl⟩ := gd
  rw [List.map_cons, List.map_cons, pMQ]; rfl
 unfold EtaOk
 rw [HE.out]
 obtain ⟨ka, kn, kc, na, nc, b, off, c, hks, rfl, rfl, hcv, ⟨_, hbl⟩, hyc, y0, y1, y2, y3, y4, y5⟩ := open_11 h
 rw [hcv]
 have hrow2 := hyc.parts.row
 obtain ⟨pa, pc, rfl, _⟩ := rSQ hrow2
 obtain ⟨b2, off2, rfl, ⟨_, hbl2⟩, f0, f1, f2, f3, f4, f5⟩ := part_0 (x := fd) (l := [gd]) hrow2
 obtain ⟨g0, g1, g2, g3, g4, g5⟩ := part_1 (x := fd) (y := gd) (l := []) hrow2
 have hfc : IsCon P w fd := hyc.parts.all fd (by simp)
 have hgc : IsCon P w gd := hyc.parts.all gd (by simp)
 have y0 : w.cell? ⟨b, off, none⟩ = some (.int .i64 12) := y0
 have y5 : w.cell? ⟨b, off + 5, none⟩ = some (.slice (some ⟨b2, off2, none⟩) 2 pc) := y5
 have hb0 : Below w.heap.size w (w.alloc (.cells #[.int .i64 11, .int .i64 n, .string s, .slice ka kn kc, .slice na ns.length nc, .slice (some ⟨b, off, none⟩) 1 c] 28)) := (Below.refl _ _).alloc (nLQ _) _
 have gC := nHQ w (.cells #[.int .i64 11, .int .i64 n, .string s, .slice ka kn kc, .slice na ns.length nc, .slice (some ⟨b, off, none⟩) 1 c] 28)
 have hsz0 : (w.alloc (.cells #[.int .i64 11, .int .i64 n, .string s, .slice ka kn kc, .slice na ns.length nc, .slice (some ⟨b, off, none⟩) 1 c] 28)).heap.size = w.heap.size + 1 := by simp
 have HOc := hJQ (fun W (hW : Below w.heap.size w W) => occurs_any fd P W 0 (iBQ hfc hW) (by decide) (by omega))
 obtain ⟨fop, fn, fs, fk, fns, fl, fka, fkn, fkc, fna, fnc, fa, fc, rfl, hfk, _⟩ := cSQ hfc
 obtain ⟨gop, gn, gs, gk, gns, gl, gka, gkn, gkc, gna, gnc, ga, gc, rfl, hgk, _⟩ := cSQ hgc
 simp only [ConD.op, ConD.n, ConD.s, ConD.k, ConD.nv, ConD.lv, hfk] at f0 f1 f2 f3 f4 f5
 simp only [ConD.op, ConD.n, ConD.s, ConD.k, ConD.nv, ConD.lv, hgk] at g0 g1 g2 g3 g4 g5
 rw [cVQ hfk] at HOc
 rw [show (ConD.mk gop gn gs gk (.slice gna gns.length gnc) gns (.slice ga gl.length gc) gl).op = gop from rfl, show (ConD.mk gop gn gs gk (.slice gna gns.length gnc) gns (.slice ga gl.length gc) gl).n = gn from rfl]
 obtain ⟨bo, hbo⟩ : ∃ b, occC 0 (pC (.mk fop fn fs fk (.slice fna fns.length fnc) fns (.slice fa fl.length fc) fl)) = b := ⟨_, rfl⟩
 rw [hbo] at HOc ⊢
 have cellW : ∀ (W : World) (q o : Nat) (v : Value), Below w.heap.size w W->q < w.heap.size->w.cell? ⟨q, o, none⟩ = some v->W.cell? ⟨q, o, none⟩ = some v := fun W q o v hW hq hc => (hW.cell (p := ⟨q, o, none⟩) hq).trans hc
 have SALL : ∀ W, Below w.heap.size w W->W.heap[w.heap.size]? = some (.cells #[.int .i64 11, .int .i64 n, .string s, .slice ka kn kc, .slice na ns.length nc, .slice (some ⟨b, off, none⟩) 1 c] 28 (0, 0))->(fun w9 => w9.cell? ⟨w.heap.size, 5, none⟩ = some (.slice (some ⟨b, off, none⟩) 1 c)/\w9.cell? ⟨b, off + 5, none⟩ = some (.slice (some ⟨b2, off2, none⟩) 2 pc)/\w9.cell? ⟨b2, off2, none⟩ = some (.int .i64 fop)/\w9.cell? ⟨b2, off2 + 1, none⟩ = some (.int .i64 fn)/\w9.cell? ⟨b2, off2 + 2, none⟩ = some (.string fs)/\w9.cell? ⟨b2, off2 + 3, none⟩ = some (.slice fka fkn fkc)/\w9.cell? ⟨b2, off2 + 4, none⟩ = some (.slice fna fns.length fnc)/\w9.cell? ⟨b2, off2 + 5, none⟩ = some (.slice fa fl.length fc)/\w9.cell? ⟨b2, off2 + 6, none⟩ = some (.int .i64 gop)/\w9.cell? ⟨b2, off2 + 6 + 1, none⟩ = some (.int .i64 gn)/\w9.cell? ⟨b2, off2 + 6 + 2, none⟩ = some (.string gs)/\w9.cell? ⟨b2, off2 + 6 + 3, none⟩ = some (.slice gka gkn gkc)/\w9.cell? ⟨b2, off2 + 6 + 4, none⟩ = some (.slice gna gns.length gnc)/\w9.cell? ⟨b2, off2 + 6 + 5, none⟩ = some (.slice ga gl.length gc)) W := fun W hW hB => ⟨(cnQ hB).2.2.2.2.2, cellW W _ _ _ hW hbl y5, cellW W _ _ _ hW hbl2 f0, cellW W _ _ _ hW hbl2 f1, cellW W _ _ _ hW hbl2 f2, cellW W _ _ _ hW hbl2 f3, cellW W _ _ _ hW hbl2 f4, cellW W _ _ _ hW hbl2 f5, cellW W _ _ _ hW hbl2 g0, cellW W _ _ _ hW hbl2 g1, cellW W _ _ _ hW hbl2 g2, cellW W _ _ _ hW hbl2 g3, cellW W _ _ _ hW hbl2 g4, cellW W _ _ _ hW hbl2 g5⟩
 have HSA := hJQ SALL
 obtain ⟨c0, c1, c2, c3, c4, c5⟩ := cnQ gC
 have y0' := cellW _ _ _ _ hb0 hbl y0
 clear SALL cellW h hks hcv hyc hrow2 hfc hgc hfk hgk hbo y0 y1 y2 y3 y4 y5 f0 f1 f2 f3 f4 f5 g0 g1 g2 g3 g4 g5 HE
 go_enter Tryz.func57, Tryz.ntmps57
 go_upto_region 3 with fail
 generalize w.alloc (.cells #[.int .i64 11, .int .i64 n, .string s, .slice ka kn kc, .slice na ns.length nc, .slice (some ⟨b, off, none⟩) 1 c] 28) = W at *
 have S0 := HSA.out W.drew hb0.drew gC
 refine wp_region_held_drew (S := (fun w9 => w9.cell? ⟨w.heap.size, 5, none⟩ = some (.slice (some ⟨b, off, none⟩) 1 c)/\w9.cell? ⟨b, off + 5, none⟩ = some (.slice (some ⟨b2, off2, none⟩) 2 pc)/\w9.cell? ⟨b2, off2, none⟩ = some (.int .i64 fop)/\w9.cell? ⟨b2, off2 + 1, none⟩ = some (.int .i64 fn)/\w9.cell? ⟨b2, off2 + 2, none⟩ = some (.string fs)/\w9.cell? ⟨b2, off2 + 3, none⟩ = some (.slice fka fkn fkc)/\w9.cell? ⟨b2, off2 + 4, none⟩ = some (.slice fna fns.length fnc)/\w9.cell? ⟨b2, off2 + 5, none⟩ = some (.slice fa fl.length fc)/\w9.cell? ⟨b2, off2 + 6, none⟩ = some (.int .i64 gop)/\w9.cell? ⟨b2, off2 + 6 + 1, none⟩ = some (.int .i64 gn)/\w9.cell? ⟨b2, off2 + 6 + 2, none⟩ = some (.string gs)/\w9.cell? ⟨b2, off2 + 6 + 3, none⟩ = some (.slice gka gkn gkc)/\w9.cell? ⟨b2, off2 + 6 + 4, none⟩ = some (.slice gna gns.length gnc)/\w9.cell? ⟨b2, off2 + 6 + 5, none⟩ = some (.slice ga gl.length gc))) (by kernel_rfl) S0 (fun hHeld => ?_)
 refine tks (b := ?_) (by kernel_rfl) (fun _ _ _ _ _ h => h) S0 7 [0, 1, 2, 3, 4, 5, 6] (by kernel_rfl) ?_ ?_
 rotate_left
 ·iterate 7 (refine yc (v := ?_) rfl rfl (by rfl) (fun w9 hSw => ?_) ?_; rotate_left; (focus go_simp; try rfl); simp only [Act.put, l1Q, l2Q, l3Q])
  exact rfl
 refine tks (b := ?_) (by kernel_rfl) (fun _ _ _ _ _ h => h) S0 7 [7, 8, 9, 10, 11, 12, 13] (by kernel_rfl) ?_ ?_
 rotate_left
 ·iterate 7 (refine yc (v := ?_) rfl rfl (by rfl) (fun w9 hSw => ?_) ?_; rotate_left; (focus go_simp; try rfl); simp only [Act.put, l1Q, l2Q, l3Q])
  exact rfl
 refine wpAnyH_ready (rs := [14, 15]) (by kernel_rfl) (by simp) (AllReadyH.cons (by rfl) (fun K hK => ?r14) (AllReadyH.cons (by rfl) (fun K hK => ?r15) (AllReadyH.nil)))
 case r14 =>
  go_simp
  have hga := gAQ W.drew (.cells #[.int .i64 0, .int .i64 0, .string ⟨#[]⟩, .slice none 0 0, .slice none 0 0, .slice none 0 0] 28)
  have hgb := gAQ (W.drew.alloc (.cells #[.int .i64 0, .int .i64 0, .string ⟨#[]⟩, .slice none 0 0, .slice none 0 0, .slice none 0 0] 28)) (.cells #[.int .i64 0, .int .i64 0, .string ⟨#[]⟩, .slice none 0 0, .slice none 0 0, .slice none 0 0] 28)
  have hs1 : (W.drew.alloc (.cells #[.int .i64 0, .int .i64 0, .string ⟨#[]⟩, .slice none 0 0, .slice none 0 0, .slice none 0 0] 28)).heap.size = w.heap.size + 2 := by simp; omega
  have hb1 := hb0.drew.trans (gUQ (B := w.heap.size) hga (by show w.heap.size<=W.heap.size; omega) (by nofun))
  have gC1 := (hga.block w.heap.size (by show w.heap.size < W.heap.size; omega) (by nofun)).trans gC
  have k1 : (W.drew.alloc (.cells #[.int .i64 0, .int .i64 0, .string ⟨#[]⟩, .slice none 0 0, .slice none 0 0, .slice none 0 0] 28)).heap[w.heap.size + 1]? = some (.cells #[.int .i64 0, .int .i64 0, .string ⟨#[]⟩, .slice none 0 0, .slice none 0 0, .slice none 0 0] 28) := by
   have := nHQ W.drew (.cells #[.int .i64 0, .int .i64 0, .string ⟨#[]⟩, .slice none 0 0, .slice none 0 0, .slice none 0 0] 28)
   have e9 : W.drew.heap.size = w.heap.size + 1 := hsz0
   rw [e9] at this
   exact this
  refine hK.out _ _ (HSA.out _ hb1 gC1) (fun _ => ?_)
  clear hK K
  refine rd1 15 (by kernel_rfl) (by rfl) (fun K hK => ?_)
  go_simp
  have hs2 : ((W.drew.alloc (.cells #[.int .i64 0, .int .i64 0, .string ⟨#[]⟩, .slice none 0 0, .slice none 0 0, .slice none 0 0] 28)).alloc (.cells #[.int .i64 0, .int .i64 0, .string ⟨#[]⟩, .slice none 0 0, .slice none 0 0, .slice none 0 0] 28)).heap.size = w.heap.size + 3 := by simp; omega
  have hb2 := hb1.trans (gUQ (B := w.heap.size) hgb (by omega) (by nofun))
  have gC2 := (hgb.block w.heap.size (by omega) (by nofun)).trans gC1
  have k2 := (hgb.block (w.heap.size + 1) (by omega) (by nofun)).trans k1
  have k3 : ((W.drew.alloc (.cells #[.int .i64 0, .int .i64 0, .string ⟨#[]⟩, .slice none 0 0, .slice none 0 0, .slice none 0 0] 28)).alloc (.cells #[.int .i64 0, .int .i64 0, .string ⟨#[]⟩, .slice none 0 0, .slice none 0 0, .slice none 0 0] 28)).heap[w.heap.size + 1 + 1]? = some (.cells #[.int .i64 0, .int .i64 0, .string ⟨#[]⟩, .slice none 0 0, .slice none 0 0, .slice none 0 0] 28) := by
   have := nHQ (W.drew.alloc (.cells #[.int .i64 0, .int .i64 0, .string ⟨#[]⟩, .slice none 0 0, .slice none 0 0, .slice none 0 0] 28)) (.cells #[.int .i64 0, .int .i64 0, .string ⟨#[]⟩, .slice none 0 0, .slice none 0 0, .slice none 0 0] 28)
   rw [hs1] at this
   exact this
  refine hK.out _ _ (HSA.out _ hb2 gC2) (fun _ => ?_)
  clear hK K
  have hr1 := gRQ ((W.drew.alloc (.cells #[.int .i64 0, .int .i64 0, .string ⟨#[]⟩, .slice none 0 0, .slice none 0 0, .slice none 0 0] 28)).alloc (.cells #[.int .i64 0, .int .i64 0, .string ⟨#[]⟩, .slice none 0 0, .slice none 0 0, .slice none 0 0] 28)) (w.heap.size + 1) #[.int .i64 fop, .int .i64 fn, .string fs, .slice fka fkn fkc, .slice fna fns.length fnc, .slice fa fl.length fc]
  have hr2 := gRQ (((W.drew.alloc (.cells #[.int .i64 0, .int .i64 0, .string ⟨#[]⟩, .slice none 0 0, .slice none 0 0, .slice none 0 0] 28)).alloc (.cells #[.int .i64 0, .int .i64 0, .string ⟨#[]⟩, .slice none 0 0, .slice none 0 0, .slice none 0 0] 28)).setRow (w.heap.size + 1) #[.int .i64 fop, .int .i64 fn, .string fs, .slice fka fkn fkc, .slice fna fns.length fnc, .slice fa fl.length fc]) (w.heap.size + 1 + 1) #[.int .i64 gop, .int .i64 gn, .string gs, .slice gka gkn gkc, .slice gna gns.length gnc, .slice ga gl.length gc]
  have hb3 := hb2.trans (gUQ (B := w.heap.size) hr1 (by omega) (fun q hq => by have e2 : (w.heap.size + 1) = q := oJQ hq; omega))
  have gC3 := (hr1.block w.heap.size (by omega) (fun e => by have e2 : w.heap.size = (w.heap.size + 1) := oJQ e; omega)).trans gC2
  have kF3 := setRow_heap ((W.drew.alloc (.cells #[.int .i64 0, .int .i64 0, .string ⟨#[]⟩, .slice none 0 0, .slice none 0 0, .slice none 0 0] 28)).alloc (.cells #[.int .i64 0, .int .i64 0, .string ⟨#[]⟩, .slice none 0 0, .slice none 0 0, .slice none 0 0] 28)) (w.heap.size + 1) _ #[.int .i64 fop, .int .i64 fn, .string fs, .slice fka fkn fkc, .slice fna fns.length fnc, .slice fa fl.length fc] _ _ k2
  have kG3 := (hr1.block (w.heap.size + 1 + 1) (by omega) (fun e => by have e2 : (w.heap.size + 1 + 1) = (w.heap.size + 1) := oJQ e; omega)).trans k3
  have hs3 : (((W.drew.alloc (.cells #[.int .i64 0, .int .i64 0, .string ⟨#[]⟩, .slice none 0 0, .slice none 0 0, .slice none 0 0] 28)).alloc (.cells #[.int .i64 0, .int .i64 0, .string ⟨#[]⟩, .slice none 0 0, .slice none 0 0, .slice none 0 0] 28)).setRow (w.heap.size + 1) #[.int .i64 fop, .int .i64 fn, .string fs, .slice fka fkn fkc, .slice fna fns.length fnc, .slice fa fl.length fc]).heap.size = w.heap.size + 3 := by rw [size_setRow]; exact hs2
  have hb4 := hb3.trans (gUQ (B := w.heap.size) hr2 (by omega) (fun q hq => by have e2 : (w.heap.size + 1 + 1) = q := oJQ hq; omega))
  have gC4 := (hr2.block w.heap.size (by omega) (fun e => by have e2 : w.heap.size = (w.heap.size + 1 + 1) := oJQ e; omega)).trans gC3
  have kF4 := (hr2.block (w.heap.size + 1) (by omega) (fun e => by have e2 : (w.heap.size + 1) = (w.heap.size + 1 + 1) := oJQ e; omega)).trans kF3
  have kG4 := setRow_heap (((W.drew.alloc (.cells #[.int .i64 0, .int .i64 0, .string ⟨#[]⟩, .slice none 0 0, .slice none 0 0, .slice none 0 0] 28)).alloc (.cells #[.int .i64 0, .int .i64 0, .string ⟨#[]⟩, .slice none 0 0, .slice none 0 0, .slice none 0 0] 28)).setRow (w.heap.size + 1) #[.int .i64 fop, .int .i64 fn, .string fs, .slice fka fkn fkc, .slice fna fns.length fnc, .slice fa fl.length fc]) (w.heap.size + 1 + 1) _ #[.int .i64 gop, .int .i64 gn, .string gs, .slice gka gkn gkc, .slice gna gns.length gnc, .slice ga gl.length gc] _ _ kG3
  refine held_store 16 (by kernel_rfl) (by rfl) (by rfl) (by rfl) 28 _ _ (by rfl) (w.heap.size + 1) #[.int .i64 fop, .int .i64 fn, .string fs, .slice fka fkn fkc, .slice fna fns.length fnc, .slice fa fl.length fc] (by rfl) (by rfl) 28 _ k2 cIQ rfl (all_one _ rfl) (HSA.out _ hb3 gC3) ?_
  refine held_store 17 (by kernel_rfl) (by rfl) (by rfl) (by rfl) 28 _ _ (by rfl) (w.heap.size + 1 + 1) #[.int .i64 gop, .int .i64 gn, .string gs, .slice gka gkn gkc, .slice gna gns.length gnc, .slice ga gl.length gc] (by rfl) (by rfl) 28 _ kG3 cIQ rfl (all_one _ rfl) (HSA.out _ hb4 gC4) ?_
  refine wpAnyH_done (by kernel_rfl) ?_ _
  clear hga hgb hb1 gC1 k1 hb2 gC2 k2 k3 hr1 hr2 hb3 gC3 kF3 kG3 hs1 hs2 hs3 S0 hHeld
  have kF4 : ((((W.alloc (.cells #[.int .i64 0, .int .i64 0, .string ⟨#[]⟩, .slice none 0 0, .slice none 0 0, .slice none 0 0] 28)).alloc (.cells #[.int .i64 0, .int .i64 0, .string ⟨#[]⟩, .slice none 0 0, .slice none 0 0, .slice none 0 0] 28)).drew.setRow (w.heap.size + 1) #[.int .i64 fop, .int .i64 fn, .string fs, .slice fka fkn fkc, .slice fna fns.length fnc, .slice fa fl.length fc]).setRow (w.heap.size + 1 + 1) #[.int .i64 gop, .int .i64 gn, .string gs, .slice gka gkn gkc, .slice gna gns.length gnc, .slice ga gl.length gc]).heap[(w.heap.size + 1)]? = some (.cells #[.int .i64 fop, .int .i64 fn, .string fs, .slice fka fkn fkc, .slice fna fns.length fnc, .slice fa fl.length fc] 28 (0, 0)) := kF4
  have kG4 : ((((W.alloc (.cells #[.int .i64 0, .int .i64 0, .string ⟨#[]⟩, .slice none 0 0, .slice none 0 0, .slice none 0 0] 28)).alloc (.cells #[.int .i64 0, .int .i64 0, .string ⟨#[]⟩, .slice none 0 0, .slice none 0 0, .slice none 0 0] 28)).drew.setRow (w.heap.size + 1) #[.int .i64 fop, .int .i64 fn, .string fs, .slice fka fkn fkc, .slice fna fns.length fnc, .slice fa fl.length fc]).setRow (w.heap.size + 1 + 1) #[.int .i64 gop, .int .i64 gn, .string gs, .slice gka gkn gkc, .slice gna gns.length gnc, .slice ga gl.length gc]).heap[(w.heap.size + 1 + 1)]? = some (.cells #[.int .i64 gop, .int .i64 gn, .string gs, .slice gka gkn gkc, .slice gna gns.length gnc, .slice ga gl.length gc] 28 (0, 0)) := kG4
  have hb4 : Below w.heap.size w ((((W.alloc (.cells #[.int .i64 0, .int .i64 0, .string ⟨#[]⟩, .slice none 0 0, .slice none 0 0, .slice none 0 0] 28)).alloc (.cells #[.int .i64 0, .int .i64 0, .string ⟨#[]⟩, .slice none 0 0, .slice none 0 0, .slice none 0 0] 28)).drew.setRow (w.heap.size + 1) #[.int .i64 fop, .int .i64 fn, .string fs, .slice fka fkn fkc, .slice fna fns.length fnc, .slice fa fl.length fc]).setRow (w.heap.size + 1 + 1) #[.int .i64 gop, .int .i64 gn, .string gs, .slice gka gkn gkc, .slice gna gns.length gnc, .slice ga gl.length gc]) := hb4
  clear gC4
  generalize ((((W.alloc (.cells #[.int .i64 0, .int .i64 0, .string ⟨#[]⟩, .slice none 0 0, .slice none 0 0, .slice none 0 0] 28)).alloc (.cells #[.int .i64 0, .int .i64 0, .string ⟨#[]⟩, .slice none 0 0, .slice none 0 0, .slice none 0 0] 28)).drew.setRow (w.heap.size + 1) #[.int .i64 fop, .int .i64 fn, .string fs, .slice fka fkn fkc, .slice fna fns.length fnc, .slice fa fl.length fc]).setRow (w.heap.size + 1 + 1) #[.int .i64 gop, .int .i64 gn, .string gs, .slice gka gkn gkc, .slice gna gns.length gnc, .slice ga gl.length gc]) = V at *
  obtain ⟨f0, f1, f2, f3, f4, f5⟩ := cnQ kF4
  obtain ⟨g0, g1, g2, g3, g4, g5⟩ := cnQ kG4
  have HO := hJQ (HOc.out V hb4)
  clear HOc HSA kF4 kG4
  by_cases p1 : gop = 1
  rotate_left
  ·have p1' : (gop == 1) = false := nEQ p1
   have HE : Hid (Ending.returned (.bool false) = Ending.returned (.bool (gop == 1 && gn == 0 && !bo))) := by show _ = _; rw [p1']; rfl
   clear p1
   go_wp2_with fail
   go_ret
   exact ⟨HE.out, hb4⟩
  have p1' : (gop == 1) = true := beq_iff_eq.2 p1
  by_cases p2 : gn = 0
  rotate_left
  ·have p2' : (gn == 0) = false := nEQ p2
   have HE : Hid (Ending.returned (.bool false) = Ending.returned (.bool (gop == 1 && gn == 0 && !bo))) := by show _ = _; rw [p1', p2']; rfl
   clear p1 p2
   go_wp2_with fail
   go_ret
   exact ⟨HE.out, hb4⟩
  have p2' : (gn == 0) = true := beq_iff_eq.2 p2
  have HE : Hid (Ending.returned (.bool (!bo)) = Ending.returned (.bool (gop == 1 && gn == 0 && !bo))) := by show _ = _; rw [p1', p2']; rfl
  clear p1 p2
  go_wp2_with fail
  refine HO.out.mono ?_
  rintro e w9 ⟨rfl, hb9⟩
  have hbz := hb4.trans (hb9.mono hb4.size)
  clear HO
  go_wp2_with fail
  go_ret
  exact ⟨HE.out, hbz⟩
 case r15 =>
  go_simp
  have hga := gAQ W.drew (.cells #[.int .i64 0, .int .i64 0, .string ⟨#[]⟩, .slice none 0 0, .slice none 0 0, .slice none 0 0] 28)
  have hgb := gAQ (W.drew.alloc (.cells #[.int .i64 0, .int .i64 0, .string ⟨#[]⟩, .slice none 0 0, .slice none 0 0, .slice none 0 0] 28)) (.cells #[.int .i64 0, .int .i64 0, .string ⟨#[]⟩, .slice none 0 0, .slice none 0 0, .slice none 0 0] 28)
  have hs1 : (W.drew.alloc (.cells #[.int .i64 0, .int .i64 0, .string ⟨#[]⟩, .slice none 0 0, .slice none 0 0, .slice none 0 0] 28)).heap.size = w.heap.size + 2 := by simp; omega
  have hb1 := hb0.drew.trans (gUQ (B := w.heap.size) hga (by show w.heap.size<=W.heap.size; omega) (by nofun))
  have gC1 := (hga.block w.heap.size (by show w.heap.size < W.heap.size; omega) (by nofun)).trans gC
  have k1 : (W.drew.alloc (.cells #[.int .i64 0, .int .i64 0, .string ⟨#[]⟩, .slice none 0 0, .slice none 0 0, .slice none 0 0] 28)).heap[w.heap.size + 1]? = some (.cells #[.int .i64 0, .int .i64 0, .string ⟨#[]⟩, .slice none 0 0, .slice none 0 0, .slice none 0 0] 28) := by
   have := nHQ W.drew (.cells #[.int .i64 0, .int .i64 0, .string ⟨#[]⟩, .slice none 0 0, .slice none 0 0, .slice none 0 0] 28)
   have e9 : W.drew.heap.size = w.heap.size + 1 := hsz0
   rw [e9] at this
   exact this
  refine hK.out _ _ (HSA.out _ hb1 gC1) (fun _ => ?_)
  clear hK K
  refine rd1 14 (by kernel_rfl) (by rfl) (fun K hK => ?_)
  go_simp
  have hs2 : ((W.drew.alloc (.cells #[.int .i64 0, .int .i64 0, .string ⟨#[]⟩, .slice none 0 0, .slice none 0 0, .slice none 0 0] 28)).alloc (.cells #[.int .i64 0, .int .i64 0, .string ⟨#[]⟩, .slice none 0 0, .slice none 0 0, .slice none 0 0] 28)).heap.size = w.heap.size + 3 := by simp; omega
  have hb2 := hb1.trans (gUQ (B := w.heap.size) hgb (by omega) (by nofun))
  have gC2 := (hgb.block w.heap.size (by omega) (by nofun)).trans gC1
  have k2 := (hgb.block (w.heap.size + 1) (by omega) (by nofun)).trans k1
  have k3 : ((W.drew.alloc (.cells #[.int .i64 0, .int .i64 0, .string ⟨#[]⟩, .slice none 0 0, .slice none 0 0, .slice none 0 0] 28)).alloc (.cells #[.int .i64 0, .int .i64 0, .string ⟨#[]⟩, .slice none 0 0, .slice none 0 0, .slice none 0 0] 28)).heap[w.heap.size + 1 + 1]? = some (.cells #[.int .i64 0, .int .i64 0, .string ⟨#[]⟩, .slice none 0 0, .slice none 0 0, .slice none 0 0] 28) := by
   have := nHQ (W.drew.alloc (.cells #[.int .i64 0, .int .i64 0, .string ⟨#[]⟩, .slice none 0 0, .slice none 0 0, .slice none 0 0] 28)) (.cells #[.int .i64 0, .int .i64 0, .string ⟨#[]⟩, .slice none 0 0, .slice none 0 0, .slice none 0 0] 28)
   rw [hs1] at this
   exact this
  refine hK.out _ _ (HSA.out _ hb2 gC2) (fun _ => ?_)
  clear hK K
  have hr1 := gRQ ((W.drew.alloc (.cells #[.int .i64 0, .int .i64 0, .string ⟨#[]⟩, .slice none 0 0, .slice none 0 0, .slice none 0 0] 28)).alloc (.cells #[.int .i64 0, .int .i64 0, .string ⟨#[]⟩, .slice none 0 0, .slice none 0 0, .slice none 0 0] 28)) (w.heap.size + 1 + 1) #[.int .i64 fop, .int .i64 fn, .string fs, .slice fka fkn fkc, .slice fna fns.length fnc, .slice fa fl.length fc]
  have hr2 := gRQ (((W.drew.alloc (.cells #[.int .i64 0, .int .i64 0, .string ⟨#[]⟩, .slice none 0 0, .slice none 0 0, .slice none 0 0] 28)).alloc (.cells #[.int .i64 0, .int .i64 0, .string ⟨#[]⟩, .slice none 0 0, .slice none 0 0, .slice none 0 0] 28)).setRow (w.heap.size + 1 + 1) #[.int .i64 fop, .int .i64 fn, .string fs, .slice fka fkn fkc, .slice fna fns.length fnc, .slice fa fl.length fc]) (w.heap.size + 1) #[.int .i64 gop, .int .i64 gn, .string gs, .slice gka gkn gkc, .slice gna gns.length gnc, .slice ga gl.length gc]
  have hb3 := hb2.trans (gUQ (B := w.heap.size) hr1 (by omega) (fun q hq => by have e2 : (w.heap.size + 1 + 1) = q := oJQ hq; omega))
  have gC3 := (hr1.block w.heap.size (by omega) (fun e => by have e2 : w.heap.size = (w.heap.size + 1 + 1) := oJQ e; omega)).trans gC2
  have kF3 := setRow_heap ((W.drew.alloc (.cells #[.int .i64 0, .int .i64 0, .string ⟨#[]⟩, .slice none 0 0, .slice none 0 0, .slice none 0 0] 28)).alloc (.cells #[.int .i64 0, .int .i64 0, .string ⟨#[]⟩, .slice none 0 0, .slice none 0 0, .slice none 0 0] 28)) (w.heap.size + 1 + 1) _ #[.int .i64 fop, .int .i64 fn, .string fs, .slice fka fkn fkc, .slice fna fns.length fnc, .slice fa fl.length fc] _ _ k3
  have kG3 := (hr1.block (w.heap.size + 1) (by omega) (fun e => by have e2 : (w.heap.size + 1) = (w.heap.size + 1 + 1) := oJQ e; omega)).trans k2
  have hs3 : (((W.drew.alloc (.cells #[.int .i64 0, .int .i64 0, .string ⟨#[]⟩, .slice none 0 0, .slice none 0 0, .slice none 0 0] 28)).alloc (.cells #[.int .i64 0, .int .i64 0, .string ⟨#[]⟩, .slice none 0 0, .slice none 0 0, .slice none 0 0] 28)).setRow (w.heap.size + 1 + 1) #[.int .i64 fop, .int .i64 fn, .string fs, .slice fka fkn fkc, .slice fna fns.length fnc, .slice fa fl.length fc]).heap.size = w.heap.size + 3 := by rw [size_setRow]; exact hs2
  have hb4 := hb3.trans (gUQ (B := w.heap.size) hr2 (by omega) (fun q hq => by have e2 : (w.heap.size + 1) = q := oJQ hq; omega))
  have gC4 := (hr2.block w.heap.size (by omega) (fun e => by have e2 : w.heap.size = (w.heap.size + 1) := oJQ e; omega)).trans gC3
  have kF4 := (hr2.block (w.heap.size + 1 + 1) (by omega) (fun e => by have e2 : (w.heap.size + 1 + 1) = (w.heap.size + 1) := oJQ e; omega)).trans kF3
  have kG4 := setRow_heap (((W.drew.alloc (.cells #[.int .i64 0, .int .i64 0, .string ⟨#[]⟩, .slice none 0 0, .slice none 0 0, .slice none 0 0] 28)).alloc (.cells #[.int .i64 0, .int .i64 0, .string ⟨#[]⟩, .slice none 0 0, .slice none 0 0, .slice none 0 0] 28)).setRow (w.heap.size + 1 + 1) #[.int .i64 fop, .int .i64 fn, .string fs, .slice fka fkn fkc, .slice fna fns.length fnc, .slice fa fl.length fc]) (w.heap.size + 1) _ #[.int .i64 gop, .int .i64 gn, .string gs, .slice gka gkn gkc, .slice gna gns.length gnc, .slice ga gl.length gc] _ _ kG3
  refine held_store 16 (by kernel_rfl) (by rfl) (by rfl) (by rfl) 28 _ _ (by rfl) (w.heap.size + 1 + 1) #[.int .i64 fop, .int .i64 fn, .string fs, .slice fka fkn fkc, .slice fna fns.length fnc, .slice fa fl.length fc] (by rfl) (by rfl) 28 _ k3 cIQ rfl (all_one _ rfl) (HSA.out _ hb3 gC3) ?_
  refine held_store 17 (by kernel_rfl) (by rfl) (by rfl) (by rfl) 28 _ _ (by rfl) (w.heap.size + 1) #[.int .i64 gop, .int .i64 gn, .string gs, .slice gka gkn gkc, .slice gna gns.length gnc, .slice ga gl.length gc] (by rfl) (by rfl) 28 _ kG3 cIQ rfl (all_one _ rfl) (HSA.out _ hb4 gC4) ?_
  refine wpAnyH_done (by kernel_rfl) ?_ _
  clear hga hgb hb1 gC1 k1 hb2 gC2 k2 k3 hr1 hr2 hb3 gC3 kF3 kG3 hs1 hs2 hs3 S0 hHeld
  have kF4 : ((((W.alloc (.cells #[.int .i64 0, .int .i64 0, .string ⟨#[]⟩, .slice none 0 0, .slice none 0 0, .slice none 0 0] 28)).alloc (.cells #[.int .i64 0, .int .i64 0, .string ⟨#[]⟩, .slice none 0 0, .slice none 0 0, .slice none 0 0] 28)).drew.setRow (w.heap.size + 1 + 1) #[.int .i64 fop, .int .i64 fn, .string fs, .slice fka fkn fkc, .slice fna fns.length fnc, .slice fa fl.length fc]).setRow (w.heap.size + 1) #[.int .i64 gop, .int .i64 gn, .string gs, .slice gka gkn gkc, .slice gna gns.length gnc, .slice ga gl.length gc]).heap[(w.heap.size + 1 + 1)]? = some (.cells #[.int .i64 fop, .int .i64 fn, .string fs, .slice fka fkn fkc, .slice fna fns.length fnc, .slice fa fl.length fc] 28 (0, 0)) := kF4
  have kG4 : ((((W.alloc (.cells #[.int .i64 0, .int .i64 0, .string ⟨#[]⟩, .slice none 0 0, .slice none 0 0, .slice none 0 0] 28)).alloc (.cells #[.int .i64 0, .int .i64 0, .string ⟨#[]⟩, .slice none 0 0, .slice none 0 0, .slice none 0 0] 28)).drew.setRow (w.heap.size + 1 + 1) #[.int .i64 fop, .int .i64 fn, .string fs, .slice fka fkn fkc, .slice fna fns.length fnc, .slice fa fl.length fc]).setRow (w.heap.size + 1) #[.int .i64 gop, .int .i64 gn, .string gs, .slice gka gkn gkc, .slice gna gns.length gnc, .slice ga gl.length gc]).heap[(w.heap.size + 1)]? = some (.cells #[.int .i64 gop, .int .i64 gn, .string gs, .slice gka gkn gkc, .slice gna gns.length gnc, .slice ga gl.length gc] 28 (0, 0)) := kG4
  have hb4 : Below w.heap.size w ((((W.alloc (.cells #[.int .i64 0, .int .i64 0, .string ⟨#[]⟩, .slice none 0 0, .slice none 0 0, .slice none 0 0] 28)).alloc (.cells #[.int .i64 0, .int .i64 0, .string ⟨#[]⟩, .slice none 0 0, .slice none 0 0, .slice none 0 0] 28)).drew.setRow (w.heap.size + 1 + 1) #[.int .i64 fop, .int .i64 fn, .string fs, .slice fka fkn fkc, .slice fna fns.length fnc, .slice fa fl.length fc]).setRow (w.heap.size + 1) #[.int .i64 gop, .int .i64 gn, .string gs, .slice gka gkn gkc, .slice gna gns.length gnc, .slice ga gl.length gc]) := hb4
  clear gC4
  generalize ((((W.alloc (.cells #[.int .i64 0, .int .i64 0, .string ⟨#[]⟩, .slice none 0 0, .slice none 0 0, .slice none 0 0] 28)).alloc (.cells #[.int .i64 0, .int .i64 0, .string ⟨#[]⟩, .slice none 0 0, .slice none 0 0, .slice none 0 0] 28)).drew.setRow (w.heap.size + 1 + 1) #[.int .i64 fop, .int .i64 fn, .string fs, .slice fka fkn fkc, .slice fna fns.length fnc, .slice fa fl.length fc]).setRow (w.heap.size + 1) #[.int .i64 gop, .int .i64 gn, .string gs, .slice gka gkn gkc, .slice gna gns.length gnc, .slice ga gl.length gc]) = V at *
  obtain ⟨f0, f1, f2, f3, f4, f5⟩ := cnQ kF4
  obtain ⟨g0, g1, g2, g3, g4, g5⟩ := cnQ kG4
  have HO := hJQ (HOc.out V hb4)
  clear HOc HSA kF4 kG4
  by_cases p1 : gop = 1
  rotate_left
  ·have p1' : (gop == 1) = false := nEQ p1
   have HE : Hid (Ending.returned (.bool false) = Ending.returned (.bool (gop == 1 && gn == 0 && !bo))) := by show _ = _; rw [p1']; rfl
   clear p1
   go_wp2_with fail
   go_ret
   exact ⟨HE.out, hb4⟩
  have p1' : (gop == 1) = true := beq_iff_eq.2 p1
  by_cases p2 : gn = 0
  rotate_left
  ·have p2' : (gn == 0) = false := nEQ p2
   have HE : Hid (Ending.returned (.bool false) = Ending.returned (.bool (gop == 1 && gn == 0 && !bo))) := by show _ = _; rw [p1', p2']; rfl
   clear p1 p2
   go_wp2_with fail
   go_ret
   exact ⟨HE.out, hb4⟩
  have p2' : (gn == 0) = true := beq_iff_eq.2 p2
  have HE : Hid (Ending.returned (.bool (!bo)) = Ending.returned (.bool (gop == 1 && gn == 0 && !bo))) := by show _ = _; rw [p1', p2']; rfl
  clear p1 p2
  go_wp2_with fail
  refine HO.out.mono ?_
  rintro e w9 ⟨rfl, hb9⟩
  have hbz := hb4.trans (hb9.mono hb4.size)
  clear HO
  go_wp2_with fail
  go_ret
  exact ⟨HE.out, hbz⟩
end Go.Proofs.YtkiffgdinmpljaaGreatDoor
