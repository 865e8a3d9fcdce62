/- tycon.Spine. Printed by gen_spine.py, expanded by mac.py. Bounds are kept; a shift down keeps a constructor well-formed. Head forms, plain: the step at the head of a spine. Expanded by mac.py. -/
import Derived.Test.YtkiffgdinmpljaaGreatDoorF14
import Derived.Test.YtkiffgdinmpljaaGreatDoorF15
import Derived.Test.YtkiffgdinmpljaaGreatDoorF13
import Derived.Laws.ResultCell
import Derived.Deep.LoopGhost
set_option linter.unusedVariables false
set_option linter.unusedSimpArgs false
namespace Go.Proofs.YtkiffgdinmpljaaGreatDoor
open Go Go.RowKit
set_option maxHeartbeats 8000000
set_option maxRecDepth 100000
theorem results_three {fn : Func} {p u v : Tmp} {ty : TypeId} (h : fn.results = #[.cell p ty, .tmp u, .tmp v]) (tmps : Array Value) (P : Program) (w : World) :
 (results fn tmps).run P w =
   ((asAddr (tmps.getD p undef)).run P w).andThen fun a w₁ => ((loadVar ty a).run P w₁).andThen fun x w₂ => .ok (.tuple #[x, tmps.getD u undef, tmps.getD v undef]) w₂ := by
 simp only [results, h]
 simp [Sem.run_bind, Result.andThen]
def spineN : Nat->Cn->List Cn->Cn × List Cn
 | 0, c, acc => (c, acc)
 | k + 1, c, acc => if c.op = 12 then spineN k (c.l.getD 0 default) (c.l.getD 1 default :: acc) else (c, acc)
def spineC (c : Cn) : Cn × List Cn := spineN (sizeC c) c []
theorem spineN_stop (k : Nat) (c : Cn) (acc : List Cn) (h : c.op ≠ 12) : spineN k c acc = (c, acc) := by
 cases k
 ·rfl
 ·unfold spineN; rw [if_neg h]
theorem spineN_app (k : Nat) (n : Int) (s : ByteArray) (kd : Kd) (ns : List ByteArray) (f a : Cn) (acc : List Cn) : spineN (k + 1) (.mk 12 n s kd ns [f, a]) acc = spineN k f (a :: acc) := by
 show (if (12 : Int) = 12 then spineN k f (a :: acc) else _) = _
 exact if_pos rfl
theorem val_part {op n : Int} {s : ByteArray} {k : Kd} {ns : List ByteArray} {l : List Cn} (h : valC (.mk op n s k ns l) = true) {x : Cn} (hx : x ∈ l) : valC x = true/\sizeC x + 1<=sizeC (.mk op n s k ns l) := by
 obtain ⟨h1, h2, h3⟩ := val_iff.1 h
 have hs := fSQ h3
 rw [sMQ] at h1 ⊢
 rw [depthC_mk] at h2
 have q1 := sLQ _ _ hx
 have q2 := dGQ _ _ hx
 exact ⟨val_iff.2 ⟨by omega, by omega, hs.2.2.2.1 x hx⟩, by omega⟩
theorem open_12 {P : Nat->Prop} {w : World} {n : Int} {s : ByteArray} {k : KindD} {nv : Value} {a : Option Addr} {lc : Nat} {ns : List ByteArray} {l : List ConD} (h : IsCon P w (.mk 12 n s k nv ns (.slice a l.length lc) l)) (hf : frmC (pC (.mk 12 n s k nv ns (.slice a l.length lc) l)) = true) :
 ∃ b off fop fn fs fk fns fl fka fkn fkc fna fnc fa fcc rop rn rs rk rns rl rka rkn rkc rna rnc ra rcc, a = some ⟨b, off, none⟩/\l = [(ConD.mk fop fn fs fk (.slice fna fns.length fnc) fns (.slice fa fl.length fcc) fl), (ConD.mk rop rn rs rk (.slice rna rns.length rnc) rns (.slice ra rl.length rcc) rl)]/\(P b/\b < w.heap.size)/\IsCon P w (ConD.mk fop fn fs fk (.slice fna fns.length fnc) fns (.slice fa fl.length fcc) fl)/\IsCon P w (ConD.mk rop rn rs rk (.slice rna rns.length rnc) rns (.slice ra rl.length rcc) rl)/\fk.v = .slice fka fkn fkc/\rk.v = .slice rka rkn rkc/\(w.cell? ⟨b, off, none⟩ = some (.int .i64 fop)/\w.cell? ⟨b, off + 1, none⟩ = some (.int .i64 fn)/\w.cell? ⟨b, off + 2, none⟩ = some (.string fs)/\w.cell? ⟨b, off + 3, none⟩ = some (.slice fka fkn fkc)/\w.cell? ⟨b, off + 4, none⟩ = some (.slice fna fns.length fnc)/\w.cell? ⟨b, off + 5, none⟩ = some (.slice fa fl.length fcc))/\(w.cell? ⟨b, off + 6, none⟩ = some (.int .i64 rop)/\w.cell? ⟨b, off + 6 + 1, none⟩ = some (.int .i64 rn)/\w.cell? ⟨b, off + 6 + 2, none⟩ = some (.string rs)/\w.cell? ⟨b, off + 6 + 3, none⟩ = some (.slice rka rkn rkc)/\w.cell? ⟨b, off + 6 + 4, none⟩ = some (.slice rna rns.length rnc)/\w.cell? ⟨b, off + 6 + 5, none⟩ = some (.slice ra rl.length rcc)) := by
 rw [pMQ] at hf
 obtain ⟨y, z, rfl⟩ := two_parts hf
 obtain ⟨b, off, rfl, hbl, y0, y1, y2, y3, y4, y5⟩ := part_0 (x := y) (l := [z]) h.parts.row
 obtain ⟨z0, z1, z2, z3, z4, z5⟩ := part_1 (x := y) (y := z) (l := []) h.parts.row
 have hy := h.parts.all y (by simp)
 have hz := h.parts.all z (by simp)
 obtain ⟨fop, fn, fs, fk, fns, fl, fka, fkn, fkc, fna, fnc, fa, fcc, rfl, hfk, _⟩ := cSQ hy
 obtain ⟨rop, rn, rs, rk, rns, rl, rka, rkn, rkc, rna, rnc, ra, rcc, rfl, hrk, _⟩ := cSQ hz
 exact ⟨b, off, fop, fn, fs, fk, fns, fl, fka, fkn, fkc, fna, fnc, fa, fcc, rop, rn, rs, rk, rns, rl, rka, rkn, rkc, rna, rnc, ra, rcc, rfl, rfl, hbl, hy, hz, hfk, hrk, ⟨y0, y1, y2, by rw [← hfk]; exact y3, y4, y5⟩, ⟨z0, z1, z2, by rw [← hrk]; exact z3, z4, z5⟩⟩
theorem LsC.past {P : Nat->Prop} {V V' : World} {B : Nat} {cv : Value} {ds : List ConD} {r : Option Nat} (h : LsC P V B cv ds) (hg : V.grownBy V' r) (hr : ∀ q, r = some q->q < B/\¬ P q) : LsC P V' B cv ds :=
 ⟨h.own.kept hg (by
   cases hc : cv.ownBlock with
   | none => exact .inl rfl
   | some q => exact .inr fun e => by have := (h.own.lt q hc).1; have := (hr q e.symm).1; omega), fun y hy => (h.els y hy).grown hg (fun q hq hp => (hr q hq).2 hp.1), Nat.le_trans h.lt hg.size⟩
theorem LsC.base {P Q : Nat->Prop} {V : World} {B B' : Nat} {cv : Value} {ds : List ConD} (h : LsC P V B cv ds) (hB : B'<=B) (hP : ∀ b, P b->Q b) : LsC Q V B' cv ds := by
 refine ⟨⟨h.own.1, ?_⟩, fun y hy => (h.els y hy).mono (fun b hb _ => ⟨hP b hb.1, hb.2⟩), Nat.le_trans hB h.lt⟩
 rcases h.own.2 with h0 | ⟨g, cap, cur, h1, h2, h3⟩
 ·exact .inl h0
 ·exact .inr ⟨g, cap, cur, h1, Nat.le_trans hB h2, h3⟩
def SpOk (T : Cn) (w : World) (e : Ending) (w' : World) : Prop :=
 ∃ (d : ConD) (a : Option Addr) (c : Nat) (ds : List ConD), e = .returned (.tuple #[conV d, .slice a ds.length c, .int .i64 0])/\IsCon (fun b => w.heap.size<=b) w' d/\pC d = (spineC T).1/\LsC (fun b => w.heap.size<=b) w' w.heap.size (.slice a ds.length c) ds/\ds.map pC = (spineC T).2/\Below w.heap.size w w'
theorem spine_any (P : Nat->Prop) (x : ConD) (w : World) (hE : EnvN w) (h : IsCon P w x) (hb : bndC (pC x)) (hv : valC (pC x) = true) :
 Calls Tryz.prog 35 #[conV x] w (SpOk (pC x) w) := by
 have hz := (val_iff.1 hv).1
 obtain ⟨xop, xn, xs, xk, xns, xl, xka, xkn, xkc, xna, xnc, xa, xcc, rfl, hxk, _⟩ := cSQ h
 have HXV := hJQ (cVQ (op := xop) (n := xn) (s := xs) (nv := .slice xna xns.length xnc) (lv := .slice xa xl.length xcc) (ns := xns) (l := xl) hxk)
 rw [HXV.out]
 obtain ⟨g1, kR, kB, hbW, hsW⟩ := two_box (nHQ w (.cells #[.int .i64 xop, .int .i64 xn, .string xs, .slice xka xkn xkc, .slice xna xns.length xnc, .slice xa xl.length xcc] 28))
 have HV : Hid (∀ U, Below w.heap.size w U->Calls Tryz.prog 25 #[.agg #[.int .i64 xop, .int .i64 xn, .string xs, .slice xka xkn xkc, .slice xna xns.length xnc, .slice xa xl.length xcc]] U fun e w' => e = .returned (.bool true)/\Below U.heap.size U w') := fun U hU => by
  have := valid_any P (ConD.mk xop xn xs xk (.slice xna xns.length xnc) xns (.slice xa xl.length xcc) xl) U (hE.below hU) (iBQ h hU) hb (by omega)
  rw [HXV.out, hv] at this
  exact this
 have HCE : Hid (cEQ (ConD.mk xop xn xs xk (.slice xna xns.length xnc) xns (.slice xa xl.length xcc) xl) = [.int .i64 xop, .int .i64 xn, .string xs, .slice xka xkn xkc, .slice xna xns.length xnc, .slice xa xl.length xcc]) := by show [_, _, _, xk.v, _, _] = _; rw [hxk]; rfl
 obtain ⟨K0, hK0⟩ : ∃ k, sizeC (pC (ConD.mk xop xn xs xk (.slice xna xns.length xnc) xns (.slice xa xl.length xcc) xl)) = k := ⟨_, rfl⟩
 have HST : Hid (IsCon P w (ConD.mk xop xn xs xk (.slice xna xns.length xnc) xns (.slice xa xl.length xcc) xl)/\valC (pC (ConD.mk xop xn xs xk (.slice xna xns.length xnc) xns (.slice xa xl.length xcc) xl)) = true/\sizeC (pC (ConD.mk xop xn xs xk (.slice xna xns.length xnc) xns (.slice xa xl.length xcc) xl))<=K0/\([] : List ConD).length + K0<=20000/\spineC (pC (ConD.mk xop xn xs xk (.slice xna xns.length xnc) xns (.slice xa xl.length xcc) xl)) = spineN K0 (pC (ConD.mk xop xn xs xk (.slice xna xns.length xnc) xns (.slice xa xl.length xcc) xl)) (([] : List ConD).map pC).reverse) := ⟨h, hv, by omega, by show 0 + _<=_; omega, by rw [← hK0]; rfl⟩
 obtain ⟨c0, c1, c2, c3, c4, c5⟩ := cnQ kB
 have HB0 := hJQ kB
 have HR0 := hJQ kR
 obtain ⟨ii0, hii, hiz0, hiz1, hiz2⟩ := info_parts info_con
 clear h hb hv hz hE g1 kB kR hxk
 unfold SpOk
 generalize hT : spineC (pC (ConD.mk xop xn xs xk (.slice xna xns.length xnc) xns (.slice xa xl.length xcc) xl)) = T at *
 clear hT hK0
 go_enter Tryz.func35, Tryz.ntmps35
 go_upto_region 1 with fail
 generalize ((w.alloc (.cells #[.int .i64 xop, .int .i64 xn, .string xs, .slice xka xkn xkc, .slice xna xns.length xnc, .slice xa xl.length xcc] 28)).alloc (.cells #[.int .i64 0, .int .i64 0, .string ⟨#[]⟩, .slice none 0 0, .slice none 0 0, .slice none 0 0] 28)) = W at *
 go_wp2_with fail
 refine (HV.out _ hbW).mono ?_
 rintro e w2 ⟨rfl, hb2⟩
 have hbw := hbW.trans (hb2.mono hbW.size)
 have kB := (hb2.block _ (hLQ HB0.out)).trans HB0.out
 have HB2 := hJQ kB
 have HR2 := hJQ ((hb2.block _ (hLQ HR0.out)).trans HR0.out)
 have hs2 := hb2.size
 have HL0 : Hid (LsC (fun b => w.heap.size + 2<=b) w2 (w.heap.size + 2) (.slice none 0 0) []) := LsC.nil _ _ _ (by omega)
 have HBW := hJQ hbw
 clear c0 c1 c2 c3 c4 c5 HV hb2 kB HB0 HR0 hbW hsW hs2 hbw
 go_wp2_with fail
 go_loopg [5] K0 (fun k lv9 wr => ∃ (oa : Option Addr) (oc : Nat) (ds : List ConD) (y : ConD), lv9 = .slice oa ds.length oc/\Hid (IsCon P w y/\valC (pC y) = true/\sizeC (pC y)<=k/\ds.length + k<=20000/\T = spineN k (pC y) (ds.map pC).reverse)/\Hid (wr.heap[w.heap.size]? = some (.cells (cEQ y).toArray 28))/\Hid (wr.heap[(w.heap.size + 1)]? = some (.cells #[.int .i64 0, .int .i64 0, .string ⟨#[]⟩, .slice none 0 0, .slice none 0 0, .slice none 0 0] 28))/\Hid (LsC (fun b => w.heap.size + 2<=b) wr (w.heap.size + 2) (.slice oa ds.length oc) ds)/\Hid (Below w.heap.size w wr))
 case atStart => exact ⟨none, 0, [], (ConD.mk xop xn xs xk (.slice xna xns.length xnc) xns (.slice xa xl.length xcc) xl), rfl, HST, by rw [HCE.out]; exact HB2, HR2, HL0, HBW⟩
 case round =>
  clear HST HCE HB2 HR2 HL0 HBW
  obtain ⟨oa, oc, ds, y, rfl, HY, HB1, HR, HL, HB⟩ := hrel
  obtain ⟨hy, hvy, hszy, hlen, hsp⟩ := HY.out
  have HSP := hJQ hsp
  clear hsp HY
  obtain ⟨yop, yn, ys, yk, yns, yl, yka, ykn, ykc, yna, ync, ya, ycc, rfl, hyk, _⟩ := cSQ hy
  have hce : cEQ (ConD.mk yop yn ys yk (.slice yna yns.length ync) yns (.slice ya yl.length ycc) yl) = [.int .i64 yop, .int .i64 yn, .string ys, .slice yka ykn ykc, .slice yna yns.length ync, .slice ya yl.length ycc] := by show [_, _, _, yk.v, _, _] = _; rw [hyk]; rfl
  have kB : wr.heap[w.heap.size]? = some (.cells #[.int .i64 yop, .int .i64 yn, .string ys, .slice yka ykn ykc, .slice yna yns.length ync, .slice ya yl.length ycc] 28) := by rw [HB1.out, hce]
  have HKB := hJQ kB
  have HYV := hJQ (cVQ (op := yop) (n := yn) (s := ys) (nv := .slice yna yns.length ync) (lv := .slice ya yl.length ycc) (ns := yns) (l := yl) hyk)
  have HY := hJQ hy
  have hsV : w.heap.size + 2<=wr.heap.size := HL.out.lt
  obtain ⟨c0, c1, c2, c3, c4, c5⟩ := cnQ kB
  by_cases hop : yop = 12
  ·subst hop
   obtain ⟨b, off, fop, fn, fs, fk, fns, fl, fka, fkn, fkc, fna, fnc, fa, fcc, rop, rn, rs, rk, rns, rl, rka, rkn, rkc, rna, rnc, ra, rcc, rfl, rfl, ⟨hPb, hbl⟩, hF, hG, hfk, hrk, hfc, hgc⟩ := open_12 hy (val_iff.1 hvy).2.2
   have hm : pC (.mk 12 yn ys yk (.slice yna yns.length ync) yns (.slice (some ⟨b, off, none⟩) [(ConD.mk fop fn fs fk (.slice fna fns.length fnc) fns (.slice fa fl.length fcc) fl), (ConD.mk rop rn rs rk (.slice rna rns.length rnc) rns (.slice ra rl.length rcc) rl)].length ycc) [(ConD.mk fop fn fs fk (.slice fna fns.length fnc) fns (.slice fa fl.length fcc) fl), (ConD.mk rop rn rs rk (.slice rna rns.length rnc) rns (.slice ra rl.length rcc) rl)]) = .mk 12 yn ys (pK yk) yns [pC (ConD.mk fop fn fs fk (.slice fna fns.length fnc) fns (.slice fa fl.length fcc) fl), pC (ConD.mk rop rn rs rk (.slice rna rns.length rnc) rns (.slice ra rl.length rcc) rl)] := pMQ ..
   rw [hm] at hvy hszy
   have hvF := val_part hvy (x := pC (ConD.mk fop fn fs fk (.slice fna fns.length fnc) fns (.slice fa fl.length fcc) fl)) (by simp)
   have hvG := val_part hvy (x := pC (ConD.mk rop rn rs rk (.slice rna rns.length rnc) rns (.slice ra rl.length rcc) rl)) (by simp)
   obtain ⟨K, rfl⟩ : ∃ K, gk = K + 1 := ⟨gk - 1, by omega⟩
   have HSPF : Hid (T = spineN K (pC (ConD.mk fop fn fs fk (.slice fna fns.length fnc) fns (.slice fa fl.length fcc) fl)) (pC (ConD.mk rop rn rs rk (.slice rna rns.length rnc) rns (.slice ra rl.length rcc) rl) :: (ds.map pC).reverse)) := by
    show _ = _
    rw [HSP.out, hm, spineN_app]
   have HFA : Hid (IsCon P w (ConD.mk fop fn fs fk (.slice fna fns.length fnc) fns (.slice fa fl.length fcc) fl)/\valC (pC (ConD.mk fop fn fs fk (.slice fna fns.length fnc) fns (.slice fa fl.length fcc) fl)) = true/\sizeC (pC (ConD.mk fop fn fs fk (.slice fna fns.length fnc) fns (.slice fa fl.length fcc) fl))<=K/\ds.length + 1 + K<=20000) := ⟨hF, hvF.1, by omega, by omega⟩
   have HC : Hid (Calls Tryz.prog 63 #[.agg #[.int .i64 rop, .int .i64 rn, .string rs, .slice rka rkn rkc, .slice rna rns.length rnc, .slice ra rl.length rcc]] wr fun e w' => ConOut (fun b => wr.heap.size<=b) (pC (ConD.mk rop rn rs rk (.slice rna rns.length rnc) rns (.slice ra rl.length rcc) rl)) e w'/\Below wr.heap.size wr w') := by
    have := tcopied_any P (ConD.mk rop rn rs rk (.slice rna rns.length rnc) rns (.slice ra rl.length rcc) rl) wr (iBQ hG HB.out) hvG.1
    rw [cVQ (op := rop) (n := rn) (s := rs) (nv := .slice rna rns.length rnc) (lv := .slice ra rl.length rcc) (ns := rns) (l := rl) hrk] at this
    exact this
   have hpc : ∀ (o : Nat) (v : Value), w.cell? ⟨b, o, none⟩ = some v->wr.cell? ⟨b, o, none⟩ = some v := fun o v hc => (World.cell?_of_block (a := ⟨b, o, none⟩) (HB.out.block b hbl)).trans hc
   have HFC := hJQ hfc
   have HFE : Hid (cEQ (ConD.mk fop fn fs fk (.slice fna fns.length fnc) fns (.slice fa fl.length fcc) fl) = [.int .i64 fop, .int .i64 fn, .string fs, .slice fka fkn fkc, .slice fna fns.length fnc, .slice fa fl.length fcc]) := by show [_, _, _, fk.v, _, _] = _; rw [hfk]; rfl
   obtain ⟨g0, g1, g2, g3, g4, g5⟩ := hgc
   have p0 := hpc _ _ g0
   have p1 := hpc _ _ g1
   have p2 := hpc _ _ g2
   have p3 := hpc _ _ g3
   have p4 := hpc _ _ g4
   have p5 := hpc _ _ g5
   have hlen2 : ds.length<=20000 := by omega
   clear hy hvy hszy hF hG hvF hvG hfc g0 g1 g2 g3 g4 g5 hpc HSP hm hfk hrk hce kB HB1 hyk hlen
   generalize pC (ConD.mk rop rn rs rk (.slice rna rns.length rnc) rns (.slice ra rl.length rcc) rl) = TG at *
   go_wp2_with fail
   refine HC.out.mono ?_
   rintro e w3 ⟨⟨dd, rfl, hdd, hpd⟩, hb3⟩
   obtain ⟨zop, zn, zs, zk, zns, zl, zka, zkn, zkc, zna, znc, za, zcc, rfl, hzk, _⟩ := cSQ hdd
   rw [cVQ (op := zop) (n := zn) (s := zs) (nv := .slice zna zns.length znc) (lv := .slice za zl.length zcc) (ns := zns) (l := zl) hzk]
   have gX := gLQ hb3
   have HL2 := hJQ (HL.out.grown gX)
   have hgA := gAQ w3 (.cells #[.int .i64 zop, .int .i64 zn, .string zs, .slice zka zkn zkc, .slice zna zns.length znc, .slice za zl.length zcc] 28)
   have HL3 := hJQ (HL2.out.grown hgA)
   have hs3 : wr.heap.size<=w3.heap.size := hb3.size
   have HPD := hJQ hpd
   have HCZ : Hid (cEQ (ConD.mk zop zn zs zk (.slice zna zns.length znc) zns (.slice za zl.length zcc) zl) = [.int .i64 zop, .int .i64 zn, .string zs, .slice zka zkn zkc, .slice zna zns.length znc, .slice za zl.length zcc]) := by show [_, _, _, zk.v, _, _] = _; rw [hzk]; rfl
   have HDD := hJQ hdd
   have HB3 := hJQ hb3
   clear hpd hzk hdd hb3 c0 c1 c2 c3 c4 c5 p0 p1 p2 p3 p4 p5 HC
   go_wp2_with (at_builtin; refine wpList_append_lies _ rfl _ _ 26 rfl (w.heap.size + 2) 28 ii0 (.agg #[.int .i64 0, .int .i64 0, .string ⟨#[]⟩, .slice none 0 0, .slice none 0 0, .slice none 0 0]) 6 104 Tryz.underlying26 hii hiz0 hiz1 hiz2 rfl (by decide) _ ds.length (cCQ ds) rfl HL3.out.own ⟨w3.heap.size, 0, none⟩ 1 1 [.int .i64 zop, .int .i64 zn, .string zs, .slice zka zkn zkc, .slice zna zns.length znc, .slice za zl.length zcc] rfl rfl (World.news_of_block (cs := #[.int .i64 zop, .int .i64 zn, .string zs, .slice zka zkn zkc, .slice zna zns.length znc, .slice za zl.length zcc]) (nHQ w3 _)) (by intro u hu; simp at hu; rcases hu with rfl | rfl | rfl | rfl | rfl | rfl <;> rfl) (by decide) (by unfold maxLen; omega) (by omega) (by simp; omega) _ rfl ?_)
   intro gN cN w4 hown4 hgrow4 hat4 hlt4
   have hsA : (w3.alloc (.cells #[.int .i64 zop, .int .i64 zn, .string zs, .slice zka zkn zkc, .slice zna zns.length znc, .slice za zl.length zcc] 28)).heap.size = w3.heap.size + 1 := by simp
   have hs4 := hgrow4.size
   have hlo : ∀ q, some q = (Value.slice oa ds.length oc).ownBlock->w.heap.size + 2<=q := fun q e => (HL3.out.own.lt q e.symm).1
   have h4 : ∀ q, q < w.heap.size + 2->w4.heap[q]? = wr.heap[q]? := fun q hq => ((hgrow4.block q (by omega) (fun e => by have := hlo q e; omega)).trans (hgA.block q (by omega) (by nofun))).trans (HB3.out.block q (by omega))
   have kB4 := (h4 w.heap.size (by omega)).trans HKB.out
   have hrow := gRQ w4 w.heap.size #[.int .i64 fop, .int .i64 fn, .string fs, .slice fka fkn fkc, .slice fna fns.length fnc, .slice fa fl.length fcc]
   have hk5 := setRow_heap w4 w.heap.size _ #[.int .i64 fop, .int .i64 fn, .string fs, .slice fka fkn fkc, .slice fna fns.length fnc, .slice fa fl.length fcc] _ _ kB4
   have hB4 : Below w.heap.size w w4 := ((HB.out.trans (HB3.out.mono HB.out.size)).trans (gUQ hgA (by omega) (by nofun))).trans (gUQ hgrow4 (by omega) (fun q hq => by have := hlo q hq.symm; omega))
   have hB5 := hB4.trans (gUQ (B := w.heap.size) hrow (by omega) (fun q hq => by have e2 : w.heap.size = q := oJQ hq; omega))
   have hR5 := (hrow.block (w.heap.size + 1) (by omega) (fun e => by have e2 : w.heap.size + 1 = w.heap.size := oJQ e; omega)).trans ((h4 (w.heap.size + 1) (by omega)).trans HR.out)
   rw [← HCZ.out] at hown4
   have hMK := HL2.out.push (y := (ConD.mk zop zn zs zk (.slice zna zns.length znc) zns (.slice za zl.length zcc) zl)) (HDD.out.mono (fun b hb _ => ⟨by have hb : wr.heap.size<=b := hb; show w.heap.size + 2<=b; omega, fun e => by have hb : wr.heap.size<=b := hb; have := (HL.out.own.lt b e).2; omega⟩)) hown4 hgrow4 (by rw [hsA]; exact hat4)
   have HZ := hJQ (hMK.past hrow (fun q hq => by have e2 : w.heap.size = q := oJQ hq; exact ⟨by omega, by omega⟩))
   have HZI : Hid (IsCon P w (ConD.mk fop fn fs fk (.slice fna fns.length fnc) fns (.slice fa fl.length fcc) fl)/\valC (pC (ConD.mk fop fn fs fk (.slice fna fns.length fnc) fns (.slice fa fl.length fcc) fl)) = true/\sizeC (pC (ConD.mk fop fn fs fk (.slice fna fns.length fnc) fns (.slice fa fl.length fcc) fl))<=K/\(ds ++ [(ConD.mk zop zn zs zk (.slice zna zns.length znc) zns (.slice za zl.length zcc) zl)]).length + K<=20000/\T = spineN K (pC (ConD.mk fop fn fs fk (.slice fna fns.length fnc) fns (.slice fa fl.length fcc) fl)) ((ds ++ [(ConD.mk zop zn zs zk (.slice zna zns.length znc) zns (.slice za zl.length zcc) zl)]).map pC).reverse) := ⟨HFA.out.1, HFA.out.2.1, HFA.out.2.2.1, by rw [List.length_append]; exact HFA.out.2.2.2, by rw [List.map_append, List.reverse_append, List.map_cons, List.map_nil, HPD.out]; exact HSPF.out⟩
   have HZB := hJQ hB5
   have HZK : Hid ((w4.setRow w.heap.size #[.int .i64 fop, .int .i64 fn, .string fs, .slice fka fkn fkc, .slice fna fns.length fnc, .slice fa fl.length fcc]).heap[w.heap.size]? = some (.cells (cEQ (ConD.mk fop fn fs fk (.slice fna fns.length fnc) fns (.slice fa fl.length fcc) fl)).toArray 28)) := by rw [HFE.out]; exact hk5
   have HZR := hJQ hR5
   obtain ⟨c0, c1, c2, c3, c4, c5⟩ := cnQ kB4
   have hpc : ∀ (o : Nat) (v : Value), w.cell? ⟨b, o, none⟩ = some v->w4.cell? ⟨b, o, none⟩ = some v := fun o v hc => (World.cell?_of_block (a := ⟨b, o, none⟩) (hB4.block b hbl)).trans hc
   obtain ⟨f0, f1, f2, f3, f4, f5⟩ := HFC.out
   have p0 := hpc _ _ f0
   have p1 := hpc _ _ f1
   have p2 := hpc _ _ f2
   have p3 := hpc _ _ f3
   have p4 := hpc _ _ f4
   have p5 := hpc _ _ f5
   clear hMK hB4 hB5 hR5 hk5 hrow hown4 hgrow4 hat4 hgA gX hlo h4 hpc f0 f1 f2 f3 f4 f5 HL HL2 HL3 HB HB3 HDD HPD HCZ HFA HSPF HFE HFC HKB HR HYV HY
   go_wp2_with (refine wpList_store_row rfl 28 _ _ rfl w.heap.size _ rfl rfl 28 _ kB4 cIQ rfl (all_one _ rfl) ?_)
   go_roundg K
   case measure => omega
   case rel => exact ⟨_, cN, ds ++ [(ConD.mk zop zn zs zk (.slice zna zns.length znc) zns (.slice za zl.length zcc) zl)], (ConD.mk fop fn fs fk (.slice fna fns.length fnc) fns (.slice fa fl.length fcc) fl), by rw [List.length_append]; rfl, HZI, HZK, HZR, by rw [List.length_append]; exact HZ, HZB⟩
  ·have hop' : (yop == 12) = false := nEQ hop
   have HT : Hid (T = (pC (ConD.mk yop yn ys yk (.slice yna yns.length ync) yns (.slice ya yl.length ycc) yl), (ds.map pC).reverse)) := by
    show _ = _
    rw [HSP.out]; exact spineN_stop _ _ _ (by rw [pMQ]; exact hop)
   have HRV := hJQ (reverse_any _ _ _ _ _ HL.out (by omega))
   have HCP : Hid (∀ U, Below w.heap.size w U->Calls Tryz.prog 63 #[.agg #[.int .i64 yop, .int .i64 yn, .string ys, .slice yka ykn ykc, .slice yna yns.length ync, .slice ya yl.length ycc]] U fun e w' => ConOut (fun b => U.heap.size<=b) (pC (ConD.mk yop yn ys yk (.slice yna yns.length ync) yns (.slice ya yl.length ycc) yl)) e w'/\Below U.heap.size U w') := fun U hU => by
    have := tcopied_any P (ConD.mk yop yn ys yk (.slice yna yns.length ync) yns (.slice ya yl.length ycc) yl) U (iBQ hy hU) hvy
    rw [HYV.out] at this
    exact this
   clear hy hvy hszy HSP hce kB HB1 hyk HY HYV
   generalize pC (ConD.mk yop yn ys yk (.slice yna yns.length ync) yns (.slice ya yl.length ycc) yl) = TY at *
   go_wp2_with fail
   refine HRV.out.mono ?_
   rintro e w3 ⟨rfl, hL3, hg3⟩
   have hlo : ∀ q, (Value.slice oa ds.length oc).ownBlock = some q->w.heap.size + 2<=q := fun q e => (HL.out.own.lt q e).1
   have h3 : ∀ q, q < w.heap.size + 2->w3.heap[q]? = wr.heap[q]? := fun q hq => hg3.block q (by omega) (fun e => by have := hlo q e.symm; omega)
   have kB3 := (h3 w.heap.size (by omega)).trans HKB.out
   have hB3 := HB.out.trans (gUQ (B := w.heap.size) hg3 (by omega) (fun q hq => by have := hlo q hq; omega))
   have kR3 := (h3 (w.heap.size + 1) (by omega)).trans HR.out
   have HB3 := hJQ hB3
   have HR3 := hJQ kR3
   have HL3 := hJQ hL3
   have hs3 := hg3.size
   obtain ⟨d0, d1, d2, d3, d4, d5⟩ := cnQ kB3
   clear c0 c1 c2 c3 c4 c5 hlo h3 kB3 hB3 kR3 hL3 hg3 HL HB HR HKB HRV
   go_wp2_with fail
   refine (HCP.out _ HB3.out).mono ?_
   rintro e w4 ⟨⟨dd, rfl, hdd, hpd⟩, hb4⟩
   obtain ⟨zop, zn, zs, zk, zns, zl, zka, zkn, zkc, zna, znc, za, zcc, rfl, hzk, _⟩ := cSQ hdd
   have HZV := hJQ (cVQ (op := zop) (n := zn) (s := zs) (nv := .slice zna zns.length znc) (lv := .slice za zl.length zcc) (ns := zns) (l := zl) hzk)
   rw [HZV.out]
   have hs4 := hb4.size
   have kR4 := (hb4.block _ (hLQ HR3.out)).trans HR3.out
   have hrow := gRQ w4 (w.heap.size + 1) #[.int .i64 zop, .int .i64 zn, .string zs, .slice zka zkn zkc, .slice zna zns.length znc, .slice za zl.length zcc]
   have HRF := hJQ (setRow_heap w4 (w.heap.size + 1) _ #[.int .i64 zop, .int .i64 zn, .string zs, .slice zka zkn zkc, .slice zna zns.length znc, .slice za zl.length zcc] _ _ kR4)
   have HBF := hJQ ((HB3.out.trans (hb4.mono HB3.out.size)).trans (gUQ (B := w.heap.size) hrow (by omega) (fun q hq => by have e2 : w.heap.size + 1 = q := oJQ hq; omega)))
   have HDF := hJQ ((hdd.grown hrow (fun q hq hp => by have e2 : w.heap.size + 1 = q := oJQ hq; have hp : w3.heap.size<=q := hp; omega)).mono (Q := fun b => w.heap.size<=b) (fun b hb _ => by have hb : w3.heap.size<=b := hb; show w.heap.size<=b; omega))
   have HLF := hJQ (((HL3.out.grown (gLQ hb4)).past hrow (fun q hq => by have e2 : w.heap.size + 1 = q := oJQ hq; exact ⟨by omega, by omega⟩)).base (B' := w.heap.size) (Q := fun b => w.heap.size<=b) (by omega) (fun b hb => by have hb : w.heap.size + 2<=b := hb; show w.heap.size<=b; omega))
   have HPD := hJQ hpd
   clear d0 d1 d2 d3 d4 d5 HB3 HR3 HL3 hb4 hrow hdd hpd HCP hzk
   go_wp2_with (refine wpList_store_row rfl 28 _ _ rfl (w.heap.size + 1) _ rfl rfl 28 _ kR4 cIQ rfl (all_one _ rfl) ?_)
   refine bodyPost_ret (v := .tuple #[.agg #[.int .i64 zop, .int .i64 zn, .string zs, .slice zka zkn zkc, .slice zna zns.length znc, .slice za zl.length zcc], .slice oa ds.length oc, .int .i64 0]) ?_ rfl ⟨_, oa, oc, ds.reverse, by rw [HZV.out, List.length_reverse], HDF.out, by rw [HPD.out, HT.out], by rw [List.length_reverse]; exact HLF.out, by rw [HT.out, List.map_reverse], HBF.out⟩
   rw [results_three (p := 2) (u := 3) (v := 4) (ty := 28) rfl]
   simp [asAddr, run_loadVar_row _ _ _ _ _ _ _ HRF.out Tryz.underlying28 rfl cIQ, Result.andThen]
theorem bnd_var (n : Int) : bndC (varC n) := by
 unfold varC
 exact (bndC_mk ..).2 ⟨by decide, by decide, (fun x hx => by cases hx), (fun x hx => by cases hx)⟩
theorem bnd_shift (b : Int) : ∀ (c : Cn) (f : Nat), bndC c->bndC (shiftC b f c) := by
 refine Cn.ind (fun op n s k ns l ih f h => ?_)
 obtain ⟨h1, h2, h3, h4⟩ := (bndC_mk ..).1 h
 rw [shiftC_mk]
 split
 ·split
  ·exact bnd_var _
  ·exact h
 ·refine (bndC_mk ..).2 ⟨h1, h2, h3, fun x hx => ?_⟩
  obtain ⟨y, hy, rfl⟩ := List.mem_map.1 hx
  exact ih y hy _ (h4 y hy)
theorem bnd_subst (a : List Cn) (ha : ∀ x ∈ a, bndC x) : ∀ (c : Cn) (d : Nat), bndC c->bndC (sC9 a d c) := by
 refine Cn.ind (fun op n s k ns l ih d h => ?_)
 obtain ⟨h1, h2, h3, h4⟩ := (bndC_mk ..).1 h
 rw [substC_mk]
 split
 ·split
  ·exact h
  ·split
   ·rename_i hn hl
    exact bnd_shift _ _ _ (ha _ (mem_getD a (n - d).toNat (by omega)))
   ·exact bnd_var _
 ·refine (bndC_mk ..).2 ⟨h1, h2, h3, fun x hx => ?_⟩
  obtain ⟨y, hy, rfl⟩ := List.mem_map.1 hx
  exact ih y hy _ (h4 y hy)
theorem depthCL_map (g : Cn->Cn) (l : List Cn) (h : ∀ x ∈ l, dCQ (g x) = dCQ x) : depthCL (l.map g) = depthCL l := by
 induction l with
 | nil => rfl
 | cons x r ih => rw [List.map_cons, depthCL_cons, depthCL_cons, h x (by simp), ih (fun y hy => h y (by simp [hy]))]
theorem shift_depth (b : Int) : ∀ (c : Cn) (f : Nat), frmC c = true->dCQ (shiftC b f c) = dCQ c := by
 refine Cn.ind (fun op n s k ns l ih f h => ?_)
 rw [shiftC_mk]
 by_cases ho : op = 1
 ·rw [if_pos ho]
  obtain ⟨_, rfl⟩ := frm_leaf h (.inl ho)
  split
  ·unfold varC; rw [depthC_mk, depthC_mk]
  ·rfl
 ·rw [if_neg ho, depthC_mk, depthC_mk, depthCL_map _ _ (fun x hx => ih x hx _ ((fSQ h).2.2.2.1 x hx))]
theorem shift_val (c : Cn) (h : valC c = true) (ho : occC 0 c = false) : valC (shiftC (-1) 0 c) = true := by
 obtain ⟨h1, h2, h3⟩ := val_iff.1 h
 exact val_iff.2 ⟨by rw [shift_size _ _ _ h3]; exact h1, by rw [shift_depth _ _ _ h3]; exact h2, shift_form cstB labsB c 0 h3 ho⟩
theorem spineN_fuel : ∀ (k k' : Nat) (c : Cn) (acc : List Cn), sizeC c<=k->sizeC c<=k'->frmC c = true->spineN k c acc = spineN k' c acc
 | 0, _, c, _, h, _, _ => by have := sizeC_pos c; omega
 | _, 0, c, _, _, h, _ => by have := sizeC_pos c; omega
 | k + 1, k' + 1, .mk op n s kd ns l, acc, h1, h2, hf => by
   by_cases hop : op = 12
   ·subst hop
    obtain ⟨f, a, rfl, hff, _⟩ := form_app cstB labsB hf
    rw [spineN_app, spineN_app]
    rw [sMQ, sizeCL_cons] at h1 h2
    exact spineN_fuel k k' f (a :: acc) (by omega) (by omega) hff
   ·rw [spineN_stop (k + 1) (.mk op n s kd ns l) acc hop, spineN_stop (k' + 1) (.mk op n s kd ns l) acc hop]
theorem spineN_acc : ∀ (k : Nat) (c : Cn) (acc : List Cn), spineN k c acc = ((spineN k c []).1, (spineN k c []).2 ++ acc)
 | 0, _, _ => rfl
 | k + 1, c, acc => by
   by_cases hop : c.op = 12
   ·have e : ∀ ac, spineN (k + 1) c ac = spineN k (c.l.getD 0 default) (c.l.getD 1 default :: ac) := fun ac => by rw [spineN, if_pos hop]
    rw [e, e, spineN_acc k _ (_ :: acc), spineN_acc k _ [_]]
    simp
   ·rw [spineN_stop (k + 1) c acc hop, spineN_stop (k + 1) c [] hop]; rfl
theorem spine_app {n : Int} {s : ByteArray} {k : Kd} {ns : List ByteArray} {f a : Cn} (h : frmC (.mk 12 n s k ns [f, a]) = true) : spineC (.mk 12 n s k ns [f, a]) = ((spineC f).1, (spineC f).2 ++ [a]) := by
 have hf := (fSQ h).2.2.2.1 f (by simp)
 unfold spineC
 rw [sMQ, spineN_app, spineN_acc]
 rw [spineN_fuel (sizeCL [f, a]) (sizeC f) f [] (by rw [sizeCL_cons]; omega) (nLQ _) hf]
theorem spine_leaf (c : Cn) (h : c.op ≠ 12) : spineC c = (c, []) := spineN_stop _ _ _ h
theorem spineN_all (p : Cn->Prop) (hp : ∀ n s k ns f a, frmC (.mk 12 n s k ns [f, a]) = true->p (.mk 12 n s k ns [f, a])->p f/\p a) : ∀ (k : Nat) (c : Cn) (acc : List Cn), frmC c = true->p c->(∀ x ∈ acc, p x)->p (spineN k c acc).1/\∀ x ∈ (spineN k c acc).2, p x
 | 0, _, _, _, h1, h2 => ⟨h1, h2⟩
 | k + 1, .mk op n s kd ns l, acc, hf, h1, h2 => by
   by_cases hop : op = 12
   ·subst hop
    obtain ⟨f, a, rfl, hff, _⟩ := form_app cstB labsB hf
    rw [spineN_app]
    obtain ⟨q1, q2⟩ := hp _ _ _ _ _ _ hf h1
    exact spineN_all p hp k f (a :: acc) hff q1 (fun x hx => by rcases List.mem_cons.1 hx with rfl | hx; exact q2; exact h2 x hx)
   ·rw [spineN_stop (k + 1) (.mk op n s kd ns l) acc hop]
    exact ⟨h1, h2⟩
theorem spine_val {c : Cn} (h : valC c = true) : valC (spineC c).1 = true/\∀ x ∈ (spineC c).2, valC x = true :=
 spineN_all (fun x => valC x = true) (fun n s k ns f a _ hv => ⟨(val_part hv (x := f) (by simp)).1, (val_part hv (x := a) (by simp)).1⟩) _ _ _ (val_iff.1 h).2.2 h (fun x hx => by cases hx)
theorem spine_bnd {c : Cn} (hf : frmC c = true) (h : bndC c) : bndC (spineC c).1/\∀ x ∈ (spineC c).2, bndC x :=
 spineN_all bndC (fun n s k ns f a _ hv => ⟨((bndC_mk ..).1 hv).2.2.2 f (by simp), ((bndC_mk ..).1 hv).2.2.2 a (by simp)⟩) _ _ _ hf h (fun x hx => by cases hx)
theorem spineN_len : ∀ (k : Nat) (c : Cn) (acc : List Cn), frmC c = true->(spineN k c acc).2.length<=acc.length + sizeC c
 | 0, _, _, _ => Nat.le_add_right _ _
 | k + 1, .mk op n s kd ns l, acc, hf => by
   by_cases hop : op = 12
   ·subst hop
    obtain ⟨f, a, rfl, hff, _⟩ := form_app cstB labsB hf
    rw [spineN_app]
    have := spineN_len k f (a :: acc) hff
    rw [List.length_cons] at this
    rw [sMQ, sizeCL_cons, sizeCL_cons]
    have := sizeC_pos a
    omega
   ·rw [spineN_stop (k + 1) (.mk op n s kd ns l) acc hop]
    exact Nat.le_add_right _ _
def appC (g a : Cn) : Cn := .mk 12 0 ⟨#[]⟩ (.mk []) [] [g, a]
theorem app_val {g a : Cn} (h : valC (appC g a) = true) : valC g = true := (val_part h (x := g) (by simp)).1
theorem fold_val : ∀ (r : List Cn) (t : Cn), valC (r.foldl appC t) = true->valC t = true
 | [], _, h => h
 | a :: r, t, h => app_val (fold_val r (appC t a) h)
theorem app_bnd {g a : Cn} (h1 : bndC g) (h2 : bndC a) : bndC (appC g a) := (bndC_mk ..).2 ⟨Nat.zero_le _, Nat.zero_le _, (fun x hx => by cases hx), fun x hx => by rcases List.mem_cons.1 hx with rfl | hx; exact h1; rw [List.mem_singleton.1 hx]; exact h2⟩
theorem fold_bnd : ∀ (r : List Cn) (t : Cn), bndC t->(∀ x ∈ r, bndC x)->bndC (r.foldl appC t)
 | [], _, h, _ => h
 | a :: r, t, h, hr => fold_bnd r (appC t a) (app_bnd h (hr a (by simp))) (fun x hx => hr x (by simp [hx]))
theorem app_size (g a : Cn) : sizeC (appC g a) = sizeC g + sizeC a + 1 := by
 unfold appC
 rw [sMQ, sizeCL_cons, sizeCL_cons, sizeCL_nil]; omega
theorem fold_size : ∀ (r : List Cn) (t : Cn), (∀ x ∈ r, sizeC x<=20000)->sizeC (r.foldl appC t)<=sizeC t + r.length * 20001
 | [], _, _ => by simp
 | a :: r, t, hr => by
   have := fold_size r (appC t a) (fun x hx => hr x (by simp [hx]))
   have h1 := hr a (by simp)
   rw [app_size] at this
   rw [List.length_cons, List.foldl_cons]
   omega
def stepC (c : Cn) : Option Cn :=
 if (spineC c).1.op = 11 then (match (spineC c).2 with | [] => none | a :: r => some (r.foldl appC (sC9 [a] 0 ((spineC c).1.l.getD 0 default)))) else none
theorem step_leaf {c : Cn} (h : c.op ≠ 12) : stepC c = none := by
 unfold stepC
 rw [spine_leaf c h]
 split <;> rfl
theorem spine_nil {c : Cn} (hf : frmC c = true) (h : (spineC c).2 = []) : (spineC c).1 = c := by
 by_cases hop : c.op = 12
 ·obtain ⟨op, n, s, k, ns, l⟩ := c
  have hop : op = 12 := hop
  subst hop
  obtain ⟨f, a, rfl, _⟩ := form_app cstB labsB hf
  rw [spine_app hf] at h
  simp at h
 ·rw [spine_leaf c hop]
theorem step_app {n : Int} {s : ByteArray} {k : Kd} {ns : List ByteArray} {f a : Cn} (h : frmC (.mk 12 n s k ns [f, a]) = true) :
 stepC (.mk 12 n s k ns [f, a]) = if f.op = 11 then some (sC9 [a] 0 (f.l.getD 0 default)) else (stepC f).map (fun t => appC t a) := by
 have hf := (fSQ h).2.2.2.1 f (by simp)
 unfold stepC
 rw [spine_app h]
 show (if (spineC f).1.op = 11 then (match (spineC f).2 ++ [a] with | [] => none | b :: r => some (r.foldl appC (sC9 [b] 0 ((spineC f).1.l.getD 0 default)))) else none) = _
 by_cases h11 : f.op = 11
 ·rw [if_pos h11, spine_leaf f (by rw [h11]; decide), if_pos h11]; rfl
 ·rw [if_neg h11]
  cases hl : (spineC f).2 with
  | nil =>
    have e := spine_nil hf hl
    rw [e, if_neg h11, if_neg h11]; rfl
  | cons b r =>
    by_cases hg : (spineC f).1.op = 11
    ·rw [if_pos hg, if_pos hg]
     show some ((r ++ [a]).foldl appC _) = some (appC _ a)
     rw [List.foldl_append]; rfl
    ·rw [if_neg hg, if_neg hg]; rfl
def headF : Nat->Cn->Option Cn
 | 0, c => match stepC c with | none => some c | some _ => none
 | k + 1, c => match stepC c with | none => some c | some t => if valC t = true then headF k t else none
theorem headF_done {k : Nat} {c : Cn} (h : stepC c = none) : headF k c = some c := by cases k <;> (unfold headF; rw [h])
theorem headF_none {k : Nat} {c t : Cn} (h : stepC c = some t) (hk : k = 0 ∨ valC t = false) : headF k c = none := by
 cases k with
 | zero => unfold headF; rw [h]
 | succ k =>
   unfold headF; rw [h]
   rcases hk with hk | hk
   ·cases hk
   ·show (if valC t = true then _ else _) = _
    rw [hk]; rfl
theorem headF_step {k : Nat} {c t : Cn} (h : stepC c = some t) (hv : valC t = true) : headF (k + 1) c = headF k t := by
 rw [headF, h]
 show (if valC t = true then _ else _) = _
 rw [if_pos hv]
end Go.Proofs.YtkiffgdinmpljaaGreatDoor
