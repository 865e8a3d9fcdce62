/- The reference's Spine. Printed by gen_rspine.py, expanded by mac.py. -/
import Derived.Test.YtkiffgdinmpljaaGreatDoorF32
import Derived.Test.YtkiffgdinmpljaaGreatDoorF16
set_option linter.unusedVariables false
set_option linter.unusedSimpArgs false
namespace Go.Proofs.YtkiffgdinmpljaaGreatDoor
open Go Go.RowKit
set_option maxHeartbeats 8000000
set_option maxRecDepth 100000
theorem step_append_con {w : World} {ops : Array Oper} {o : Oper} {a : Act} {K : Act->World->Prop} {Q : Exit->Act->World->Prop} {E : Prop} (hgd : o.guard = none) (s x : Operand)
 (ho : o.op = .call { callee := .builtin .append, args := #[s, x], argTypes := #[26, 26] }) (base : Nat) (v : Value) (n : Nat) (xs : List Value) (hs : a.eval s = v) (hown : w.ownsRow base 28 6 v n xs)
 (ao : Option Addr) (c m : Nat) (news : List Value) (hx : a.eval x = .slice ao m c) (hno : ao = none->m = 0/\c = 0) (hl : news.length = m * 6) (hnews : ∀ ad, ao = some ad->∀ j u, news[j]? = some u->w.cell? (ad.add j) = some u) (h1 : ∀ u ∈ news, u.oneCell' = true) (h63 : n + m<=maxLen) (hbytes : (n + m) * 104<=140737488355328) (hbase : base<=w.heap.size)
 (h : ∀ v' w', w'.ownsRow base 28 6 v' (n + m) (xs ++ news)->w.grownBy w' v.ownBlock->(v'.ownBlock = v.ownBlock ∨ v'.ownBlock = some w.heap.size)->K (a.put o.dst v') w') : if Region.wanted o (yielded ops a.tmps) = true then Oper.wp Tryz.prog o a w K Q else E := by
 obtain ⟨ii0, hii, hiz0, hiz1, hiz2⟩ := info_parts info_con
 have hw : Region.wanted o (yielded ops a.tmps) = true := by simp [Region.wanted, hgd]
 rw [if_pos hw]
 obtain ⟨v', w', hr, g1, g2, g3⟩ : ∃ v' w', (Builtin.append_ #[26, 26] o.type #[v, .slice ao m c]).run Tryz.prog w = .ok v' w'/\w'.ownsRow base 28 6 v' (n + m) (xs ++ news)/\w.grownBy w' v.ownBlock/\(v'.ownBlock = v.ownBlock ∨ v'.ownBlock = some w.heap.size) := by
  cases ao with
  | none =>
    obtain ⟨rfl, rfl⟩ := hno rfl
    obtain rfl : news = [] := List.eq_nil_of_length_eq_zero (by simpa using hl)
    exact ⟨v, w, run_append_owned_none w base _ o.type 28 ii0 6 Tryz.underlying26 hii v n xs hown, by rw [List.append_nil]; exact hown, ⟨rfl, rfl, rfl, Nat.le_refl _, fun _ _ _ => rfl⟩, .inl rfl⟩
  | some ad =>
    obtain ⟨v', w', hr, h2, h3, _, h5⟩ := run_append_own_at w base 26 o.type 28 ii0 (.agg #[.int .i64 0, .int .i64 0, .string ⟨#[]⟩, .slice none 0 0, .slice none 0 0, .slice none 0 0]) 6 104 Tryz.underlying26 hii hiz0 hiz1 hiz2 rfl (by decide) v n xs hown ad m c news hl (hnews ad rfl) h1 h63 hbytes hbase
    exact ⟨v', w', hr, h2, h3, h5⟩
 unfold Oper.wp execOp
 simp only [ho, resolve, invoke, builtin, Sem.run_bind, Sem.run_pure, Result.andThen_ok, List.map_toArray, List.map_cons, List.map_nil, hs, hx, hr]
 exact h v' w' g1 g2 g3
theorem grown_fresh {V U W : World} {e : TypeId} {s n : Nat} {v : Value} {xs : List Value} (h : V.grownBy U none) (ho : U.ownsRow V.heap.size e s v n xs) (hg : U.grownBy W v.ownBlock) : V.grownBy W none := by
 cases hv : v.ownBlock with
 | none => rw [hv] at hg; exact gBQ h hg
 | some k => rw [hv] at hg; exact gOQ h hg (ho.lt k hv).1
def RSpOk (P : Nat->Prop) (T : Cn) (w : World) (e : Ending) (w' : World) : Prop :=
 ∃ (d : ConD) (a : Option Addr) (c : Nat) (ds : List ConD), e = .returned (.tuple #[conV d, .slice a ds.length c])/\IsCon P w' d/\pC d = (spineC T).1/\RowP P w' (.slice a ds.length c) ds.length (cCQ ds)/\(∀ y ∈ ds, IsCon P w' y)/\ds.map pC = (spineC T).2/\(a = none->ds.length = 0/\c = 0)/\Below w.heap.size w w'
theorem rsp_mk {P : Nat->Prop} {T : Cn} {w w' : World} {d : ConD} {a : Option Addr} {c n : Nat} {ds : List ConD} {v : Value} (hv : v = conV d) (hd : IsCon P w' d) (hp : pC d = (spineC T).1) (hn : ds.length = n) (hr : RowP P w' (.slice a ds.length c) ds.length (cCQ ds)) (ha : ∀ y ∈ ds, IsCon P w' y) (hm : ds.map pC = (spineC T).2) (hz : a = none->ds.length = 0/\c = 0) (hb : Below w.heap.size w w') : RSpOk P T w (.returned (.tuple #[v, .slice a n c])) w' := by
 subst hv; subst hn
 exact ⟨d, a, c, ds, rfl, hd, hp, hr, ha, hm, hz, hb⟩
def RSpAll (x : ConD) : Prop := ∀ (P : Nat->Prop) (w : World), (∀ b, w.heap.size<=b->P b)->IsCon P w x->frmC (pC x) = true->sizeC (pC x)<=20000->Calls Tryz.prog 38 #[conV x] w (RSpOk P (pC x) w)
theorem cells_one (l : List ConD) {P : Nat->Prop} {w : World} (h : ∀ y ∈ l, IsCon P w y) : ∀ u ∈ cCQ l, u.oneCell' = true := fun u hu => by
 unfold cCQ at hu
 obtain ⟨y, hy, hu⟩ := List.mem_flatMap.1 hu
 obtain ⟨yop, yn, ys, yk, yns, yl, yka, ykn, ykc, yna, ync, ya, ycc, rfl, hyk, _⟩ := cSQ (h y hy)
 have hu : u ∈ [_, _, _, yk.v, _, _] := hu
 rw [hyk] at hu
 simp at hu
 rcases hu with rfl | rfl | rfl | rfl | rfl | rfl <;> rfl
theorem row_news {P : Nat->Prop} {w : World} {a : Option Addr} {n c : Nat} {xs : List Value} {ad : Addr} {j : Nat} {u : Value} (h : RowP P w (.slice a n c) n xs) (ha : a = some ad) (hu : xs[j]? = some u) (hl : xs.length = n * 6) : w.cell? (ad.add j) = some u := by
 obtain ⟨a', c', hv, _, hc⟩ := h
 obtain ⟨rfl, _, _⟩ := Value.slice.inj hv
 have hj : j < xs.length := (List.getElem?_eq_some_iff.1 hu).1
 obtain ⟨b, off, hb, _, _, hx⟩ := hc (by omega)
 rw [ha] at hb
 obtain rfl := oJQ hb
 have hadd : (⟨b, off, none⟩ : Addr).add j = ⟨b, off + j, none⟩ := by unfold Addr.add; split <;> simp_all
 rw [hadd, hx j hj]
 simp [List.getD, hu]
theorem rspine_one (x : ConD) (ih : ∀ y ∈ x.l, RSpAll y) : RSpAll x := by
 intro P w hP h hfr hsz
 obtain ⟨xop, xn, xs, xk, xns, xl, xka, xkn, xkc, xna, xnc, xa, xcc, rfl, hxk, _⟩ := cSQ h
 have HI := hJQ ih
 have HXV := hJQ (cVQ (op := xop) (n := xn) (s := xs) (nv := .slice xna xns.length xnc) (lv := .slice xa xl.length xcc) (ns := xns) (l := xl) hxk)
 rw [HXV.out]
 obtain ⟨g1, kR, kB, hbW, hsW⟩ := two_box (nHQ w (.cells #[.int .i64 xop, .int .i64 xn, .string xs, .slice xka xkn xkc, .slice xna xns.length xnc, .slice xa xl.length xcc] 28))
 have HSW := hJQ hsW
 clear hsW
 obtain ⟨c0, c1, c2, c3, c4, c5⟩ := cnQ kB
 have HB0 := hJQ kB
 have HPP := hJQ hP
 clear g1 kB hxk ih
 by_cases hop : xop = 12
 ·subst hop
  obtain ⟨b, off, fop, fn, fs, fk, fns, fl, fka, fkn, fkc, fna, fnc, fa, fcc, rop, rn, rs, rk, rns, rl, rka, rkn, rkc, rna, rnc, ra, rcc, rfl, rfl, ⟨hPb, hbl⟩, hF, hG, hfk, hrk, hfc, hgc⟩ := open_12 h hfr
  have hm : pC (.mk 12 xn xs xk (.slice xna xns.length xnc) xns (.slice (some ⟨b, off, none⟩) [(ConD.mk fop fn fs fk (.slice fna fns.length fnc) fns (.slice fa fl.length fcc) fl), (ConD.mk rop rn rs rk (.slice rna rns.length rnc) rns (.slice ra rl.length rcc) rl)].length xcc) [(ConD.mk fop fn fs fk (.slice fna fns.length fnc) fns (.slice fa fl.length fcc) fl), (ConD.mk rop rn rs rk (.slice rna rns.length rnc) rns (.slice ra rl.length rcc) rl)]) = .mk 12 xn xs (pK xk) xns [pC (ConD.mk fop fn fs fk (.slice fna fns.length fnc) fns (.slice fa fl.length fcc) fl), pC (ConD.mk rop rn rs rk (.slice rna rns.length rnc) rns (.slice ra rl.length rcc) rl)] := pMQ ..
  rw [hm] at hfr hsz ⊢
  have hsp := spine_app hfr
  obtain ⟨TX, hTX⟩ : ∃ T, (Cn.mk 12 xn xs (pK xk) xns [pC (ConD.mk fop fn fs fk (.slice fna fns.length fnc) fns (.slice fa fl.length fcc) fl), pC (ConD.mk rop rn rs rk (.slice rna rns.length rnc) rns (.slice ra rl.length rcc) rl)]) = T := ⟨_, rfl⟩
  rw [hTX] at hsp ⊢
  have hfs := (fSQ hfr).2.2.2.1 (pC (ConD.mk fop fn fs fk (.slice fna fns.length fnc) fns (.slice fa fl.length fcc) fl)) (by simp)
  have hzf : sizeC (pC (ConD.mk fop fn fs fk (.slice fna fns.length fnc) fns (.slice fa fl.length fcc) fl))<=20000 := by rw [sMQ, sizeCL_cons] at hsz; omega
  have hslen := spineN_len (sizeC (pC (ConD.mk fop fn fs fk (.slice fna fns.length fnc) fns (.slice fa fl.length fcc) fl))) (pC (ConD.mk fop fn fs fk (.slice fna fns.length fnc) fns (.slice fa fl.length fcc) fl)) [] hfs
  have HFP := hJQ (hF.lt.mono (Q := (fun b => P b/\b ≠ w.heap.size + 1)) (fun b hb _ => ⟨hb.1, by have := hb.2; omega⟩))
  have HGP := hJQ (hG.lt.mono (Q := (fun b => P b/\b ≠ w.heap.size + 1)) (fun b hb _ => ⟨hb.1, by have := hb.2; omega⟩))
  have HFV := hJQ (cVQ (op := fop) (n := fn) (s := fs) (nv := .slice fna fns.length fnc) (lv := .slice fa fl.length fcc) (ns := fns) (l := fl) hfk)
  have HRC : Hid (∀ U, Below w.heap.size w U->w.heap.size + 2<=U.heap.size->Calls Tryz.prog 38 #[.agg #[.int .i64 fop, .int .i64 fn, .string fs, .slice fka fkn fkc, .slice fna fns.length fnc, .slice fa fl.length fcc]] U (RSpOk (fun b => P b/\b ≠ w.heap.size + 1) (pC (ConD.mk fop fn fs fk (.slice fna fns.length fnc) fns (.slice fa fl.length fcc) fl)) U)) := fun U hU hU2 => by
   have := HI.out (ConD.mk fop fn fs fk (.slice fna fns.length fnc) fns (.slice fa fl.length fcc) fl) (by show _ ∈ [_, _]; simp) (fun b => P b/\b ≠ w.heap.size + 1) U (fun b hb => ⟨hP b (by have := hU.size; omega), by omega⟩) (iBQ HFP.out hU) hfs hzf
   rw [HFV.out] at this
   exact this
  have HRK2 : Hid (cEQ (ConD.mk rop rn rs rk (.slice rna rns.length rnc) rns (.slice ra rl.length rcc) rl) = [.int .i64 rop, .int .i64 rn, .string rs, .slice rka rkn rkc, .slice rna rns.length rnc, .slice ra rl.length rcc]) := by show [_, _, _, rk.v, _, _] = _; rw [hrk]; rfl
  have hslen2 : (spineC (pC (ConD.mk fop fn fs fk (.slice fna fns.length fnc) fns (.slice fa fl.length fcc) fl))).2.length<=20000 := by have h3 : (spineC (pC (ConD.mk fop fn fs fk (.slice fna fns.length fnc) fns (.slice fa fl.length fcc) fl))).2.length<=0 + sizeC (pC (ConD.mk fop fn fs fk (.slice fna fns.length fnc) fns (.slice fa fl.length fcc) fl)) := hslen; omega
  have HSL := hJQ hslen2
  have HSP := hJQ hsp
  have HR0 := hJQ kR
  have HGC := hJQ hgc
  have hpc : ∀ (o : Nat) (v : Value), w.cell? ⟨b, o, none⟩ = some v->((w.alloc (.cells #[.int .i64 12, .int .i64 xn, .string xs, .slice xka xkn xkc, .slice xna xns.length xnc, .slice (some ⟨b, off, none⟩) [(ConD.mk fop fn fs fk (.slice fna fns.length fnc) fns (.slice fa fl.length fcc) fl), (ConD.mk rop rn rs rk (.slice rna rns.length rnc) rns (.slice ra rl.length rcc) rl)].length xcc] 28)).alloc (.cells #[.int .i64 0, .int .i64 0, .string ⟨#[]⟩, .slice none 0 0, .slice none 0 0, .slice none 0 0] 28)).cell? ⟨b, o, none⟩ = some v := fun o v hc => (World.cell?_of_block (a := ⟨b, o, none⟩) (hbW.block b hbl)).trans hc
  obtain ⟨f0, f1, f2, f3, f4, f5⟩ := hfc
  have p0 := hpc _ _ f0
  have p1 := hpc _ _ f1
  have p2 := hpc _ _ f2
  have p3 := hpc _ _ f3
  have p4 := hpc _ _ f4
  have p5 := hpc _ _ f5
  clear h hfr hsz HI hsp hTX hfs hzf hslen hslen2 hm hfk hrk hgc f0 f1 f2 f3 f4 f5 hpc hF hG hP HXV HFV kR
  generalize pC (ConD.mk fop fn fs fk (.slice fna fns.length fnc) fns (.slice fa fl.length fcc) fl) = TF at *
  go_enter Tryz.func38, Tryz.ntmps38
  go_upto_region 3 with fail
  generalize ((w.alloc (.cells #[.int .i64 12, .int .i64 xn, .string xs, .slice xka xkn xkc, .slice xna xns.length xnc, .slice (some ⟨b, off, none⟩) [(ConD.mk fop fn fs fk (.slice fna fns.length fnc) fns (.slice fa fl.length fcc) fl), (ConD.mk rop rn rs rk (.slice rna rns.length rnc) rns (.slice ra rl.length rcc) rl)].length xcc] 28)).alloc (.cells #[.int .i64 0, .int .i64 0, .string ⟨#[]⟩, .slice none 0 0, .slice none 0 0, .slice none 0 0] 28)) = W at *
  go_wp2_with fail
  refine (HRC.out _ hbW (by have := HSW.out; omega)).mono ?_
  rintro e w3 ⟨d, oa, oc, ds, rfl, hd, hpd, hrw, hall, hmp, hno, hb3⟩
  obtain ⟨zop, zn, zs, zk, zns, zl, zka, zkn, zkc, zna, znc, za, zcc, rfl, hzk, _⟩ := cSQ hd
  have HZV := hJQ (cVQ (op := zop) (n := zn) (s := zs) (nv := .slice zna zns.length znc) (lv := .slice za zl.length zcc) (ns := zns) (l := zl) hzk)
  rw [HZV.out]
  obtain ⟨hgZ, kZ, hrow, kZ2, hb34⟩ := fresh_put w3 #[.int .i64 zop, .int .i64 zn, .string zs, .slice zka zkn zkc, .slice zna zns.length znc, .slice za zl.length zcc]
  have hs3 := hb3.size
  have hbV := hbW.trans (hb3.mono hbW.size)
  have hbV := hbV.trans (hb34.mono hbV.size)
  have k3R := (hb3.block _ (hLQ HR0.out)).trans HR0.out
  have kRV := (hb34.block _ (hLQ k3R)).trans k3R
  have k3B := (hb3.block _ (hLQ HB0.out)).trans HB0.out
  have HB0V := hJQ ((hb34.block _ (hLQ k3B)).trans k3B)
  have HDV := hJQ (iBQ hd hb34)
  have HZ2 := hJQ kZ2
  have HNO := hJQ hno
  have HON := hJQ (cells_one ds hall)
  have HPD := hJQ hpd
  have HMP := hJQ hmp
  have HAL : Hid (∀ y ∈ ds, IsCon (fun b => P b/\b ≠ w.heap.size + 1) ((w3.alloc (.cells #[.int .i64 0, .int .i64 0, .string ⟨#[]⟩, .slice none 0 0, .slice none 0 0, .slice none 0 0] 28)).setRow w3.heap.size #[.int .i64 zop, .int .i64 zn, .string zs, .slice zka zkn zkc, .slice zna zns.length znc, .slice za zl.length zcc]) y) := fun y hy => iBQ (hall y hy) hb34
  have hrwV := hrw.keep hb34.size (fun b _ hlt => hb34.block b hlt)
  have HRW := hJQ hrwV
  have hlen : ds.length<=20000 := by have h1 := HSL.out; rw [← hmp, List.length_map] at h1; exact h1
  have kBV := hbV.block b hbl
  have HNZ : Hid (w3.heap.size ≠ w.heap.size + 1) := by show _ ≠ _; have := HSW.out; omega
  clear hgZ hrow kZ2 hb34 hd hpd hrw hall hmp hno hb3 hzk k3R k3B HRC hs3 hrwV
  go_upto_region 4 with (refine wpList_store_row rfl 28 _ _ rfl w3.heap.size _ rfl rfl 28 _ kZ cIQ rfl (all_one _ rfl) ?_)
  clear kZ p0 p1 p2 p3 p4 p5 c0 c1 c2 c3 c4 c5
  generalize (w3.alloc (.cells #[.int .i64 0, .int .i64 0, .string ⟨#[]⟩, .slice none 0 0, .slice none 0 0, .slice none 0 0] 28)).setRow w3.heap.size #[.int .i64 zop, .int .i64 zn, .string zs, .slice zka zkn zkc, .slice zna zns.length znc, .slice za zl.length zcc] = V at *
  have hltR := hLQ kRV
  have hltB := hLQ HB0V.out
  have hltZ := hLQ HZ2.out
  have hsV := hbV.size
  have HSS : Hid (∀ U, V.grownBy U (some (w.heap.size + 1))->(fun w9 => w9.cell? ⟨w3.heap.size, 0, none⟩ = some (.int .i64 zop)/\w9.cell? ⟨w3.heap.size, 1, none⟩ = some (.int .i64 zn)/\w9.cell? ⟨w3.heap.size, 2, none⟩ = some (.string zs)/\w9.cell? ⟨w3.heap.size, 3, none⟩ = some (.slice zka zkn zkc)/\w9.cell? ⟨w3.heap.size, 4, none⟩ = some (.slice zna zns.length znc)/\w9.cell? ⟨w3.heap.size, 5, none⟩ = some (.slice za zl.length zcc)/\w9.cell? ⟨w.heap.size, 5, none⟩ = some (.slice (some ⟨b, off, none⟩) 2 xcc)/\w9.cell? ⟨b, off + 6, none⟩ = some (.int .i64 rop)/\w9.cell? ⟨b, off + 6 + 1, none⟩ = some (.int .i64 rn)/\w9.cell? ⟨b, off + 6 + 2, none⟩ = some (.string rs)/\w9.cell? ⟨b, off + 6 + 3, none⟩ = some (.slice rka rkn rkc)/\w9.cell? ⟨b, off + 6 + 4, none⟩ = some (.slice rna rns.length rnc)/\w9.cell? ⟨b, off + 6 + 5, none⟩ = some (.slice ra rl.length rcc)) U) := fun U hU => by
   have hr : ∀ (o : Nat) (v : Value), w.cell? ⟨b, o, none⟩ = some v->U.cell? ⟨b, o, none⟩ = some v := fun o v hc => (World.cell?_of_block (a := ⟨b, o, none⟩) ((hU.block b (by omega) (fun e => by have e2 : b = w.heap.size + 1 := oJQ e; omega)).trans kBV)).trans hc
   obtain ⟨g0, g1, g2, g3, g4, g5⟩ := HGC.out
   obtain ⟨y0, y1, y2, y3, y4, y5⟩ := cnQ ((hU.block _ hltZ (fun e => HNZ.out (oJQ e))).trans HZ2.out)
   exact ⟨y0, y1, y2, y3, y4, y5, (cnQ ((hU.block _ hltB (fun e => by have e2 : w.heap.size = w.heap.size + 1 := oJQ e; omega)).trans HB0V.out)).2.2.2.2.2, hr _ _ g0, hr _ _ g1, hr _ _ g2, hr _ _ g3, hr _ _ g4, hr _ _ g5⟩
  have HNW : Hid (∀ U, V.grownBy U none->∀ ad, oa = some ad->∀ j u, (cCQ ds)[j]? = some u->U.cell? (ad.add j) = some u) := fun U hU ad had j u hu => row_news (HRW.out.keep hU.size (fun b _ hlt => hU.block b hlt (by nofun))) had hu (conCells_length ds)
  have HFIN : Hid (∀ (U : World) (g2 c2 : Nat), V.grownBy U none->U.ownsRow V.heap.size 28 6 (.slice (some ⟨g2, 0, none⟩) (ds.length + 1) c2) (ds.length + 1) (cCQ ds ++ [.int .i64 rop, .int .i64 rn, .string rs, .slice rka rkn rkc, .slice rna rns.length rnc, .slice ra rl.length rcc])->RSpOk P TX w (.returned (.tuple #[.agg #[.int .i64 zop, .int .i64 zn, .string zs, .slice zka zkn zkc, .slice zna zns.length znc, .slice za zl.length zcc], .slice (some ⟨g2, 0, none⟩) (ds.length + 1) c2])) (U.setRow (w.heap.size + 1) #[.int .i64 zop, .int .i64 zn, .string zs, .slice zka zkn zkc, .slice zna zns.length znc, .slice za zl.length zcc])) := fun U g2 c2 hU hown => by
   have hrw := gRQ U (w.heap.size + 1) #[.int .i64 zop, .int .i64 zn, .string zs, .slice zka zkn zkc, .slice zna zns.length znc, .slice za zl.length zcc]
   have hgF := gBQ (fNQ hU (some (w.heap.size + 1))) hrw
   have hPR : ∀ q, some (w.heap.size + 1) = some q->¬ (fun b => P b/\b ≠ w.heap.size + 1) q := fun q hq hp => hp.2 (oJQ hq).symm
   have hall : ∀ y ∈ ds ++ [(ConD.mk rop rn rs rk (.slice rna rns.length rnc) rns (.slice ra rl.length rcc) rl)], IsCon P (U.setRow (w.heap.size + 1) #[.int .i64 zop, .int .i64 zn, .string zs, .slice zka zkn zkc, .slice zna zns.length znc, .slice za zl.length zcc]) y := fun y hy => by
    rcases List.mem_append.1 hy with hy | hy
    ·exact ((HAL.out y hy).grown hgF hPR).mono (fun b hb _ => hb.1)
    ·rw [List.mem_singleton.1 hy]; exact ((iBQ HGP.out hbV).grown hgF hPR).mono (fun b hb _ => hb.1)
   have hrow : RowP P (U.setRow (w.heap.size + 1) #[.int .i64 zop, .int .i64 zn, .string zs, .slice zka zkn zkc, .slice zna zns.length znc, .slice za zl.length zcc]) (.slice (some ⟨g2, 0, none⟩) (ds ++ [(ConD.mk rop rn rs rk (.slice rna rns.length rnc) rns (.slice ra rl.length rcc) rl)]).length c2) (ds ++ [(ConD.mk rop rn rs rk (.slice rna rns.length rnc) rns (.slice ra rl.length rcc) rl)]).length (cCQ (ds ++ [(ConD.mk rop rn rs rk (.slice rna rns.length rnc) rns (.slice ra rl.length rcc) rl)])) := by
    rw [List.length_append, conCells_app, one_enc, HRK2.out]
    exact ((rowP_owns hown (P := (fun b => P b/\b ≠ w.heap.size + 1)) (fun b hb => ⟨HPP.out b (by omega), by omega⟩)).grown hrw hPR).mono (fun b hb _ => hb.1)
   exact rsp_mk HZV.out.symm ((HDV.out.grown hgF hPR).mono (fun b hb _ => hb.1)) (by rw [HPD.out, HSP.out]) (by rw [List.length_append]; rfl) hrow hall (by rw [List.map_append, HMP.out, HSP.out]; rfl) (fun e => by cases e) (hbV.trans (gUQ (B := w.heap.size) hgF hsV (fun q hq => by have e2 : w.heap.size + 1 = q := oJQ hq; omega)))
  have hgD : V.grownBy V.drew none := gDQ V
  clear HGP HAL HRW HDV HPD HMP HSP HZ2 HB0V HRK2 HPP hbV kBV HGC HNZ hltB hltZ hbW
  refine wp_region_held_drew (S := (fun w9 => w9.cell? ⟨w3.heap.size, 0, none⟩ = some (.int .i64 zop)/\w9.cell? ⟨w3.heap.size, 1, none⟩ = some (.int .i64 zn)/\w9.cell? ⟨w3.heap.size, 2, none⟩ = some (.string zs)/\w9.cell? ⟨w3.heap.size, 3, none⟩ = some (.slice zka zkn zkc)/\w9.cell? ⟨w3.heap.size, 4, none⟩ = some (.slice zna zns.length znc)/\w9.cell? ⟨w3.heap.size, 5, none⟩ = some (.slice za zl.length zcc)/\w9.cell? ⟨w.heap.size, 5, none⟩ = some (.slice (some ⟨b, off, none⟩) 2 xcc)/\w9.cell? ⟨b, off + 6, none⟩ = some (.int .i64 rop)/\w9.cell? ⟨b, off + 6 + 1, none⟩ = some (.int .i64 rn)/\w9.cell? ⟨b, off + 6 + 2, none⟩ = some (.string rs)/\w9.cell? ⟨b, off + 6 + 3, none⟩ = some (.slice rka rkn rkc)/\w9.cell? ⟨b, off + 6 + 4, none⟩ = some (.slice rna rns.length rnc)/\w9.cell? ⟨b, off + 6 + 5, none⟩ = some (.slice ra rl.length rcc))) (by kernel_rfl) (HSS.out _ (fNQ hgD _)) (fun hHeld => ?_)
  refine tks (b := ?_) (by kernel_rfl) (fun _ _ _ _ _ h => h) (HSS.out _ (fNQ hgD _)) 6 [0, 2, 4, 5, 6, 7] (by kernel_rfl) ?_ ?_
  rotate_left
  ·iterate 6 (refine yc (v := ?_) rfl rfl (by rfl) (fun w9 hSw => ?_) ?_; rotate_left; (focus go_simp; try rfl); simp only [Act.put, l1Q, l2Q, l3Q])
   exact rfl
  generalize V.drew = U0 at *
  refine wpAnyH_ready (rs := [1, 8]) (by kernel_rfl) (by simp) (AllReadyH.cons (by rfl) (fun K hK => ?r1) (AllReadyH.cons (by rfl) (fun K hK => ?r8) (AllReadyH.nil)))
  case r1 =>
   have HEG : Hid (V.heap.size<=U0.heap.size) := hgD.size
   go_simp
   have hg1 := gBQ hgD (gAQ U0 (.cells #[] 28))
   have hoE : (U0.alloc (.cells #[] 28)).ownsRow V.heap.size 28 6 (.slice (some ⟨U0.heap.size, 0, none⟩) 0 0) 0 [] := World.ownsRow_made U0 #[] 0 hgD.size (Nat.zero_le _) rfl
   have HEB : Hid (U0.heap.size < (U0.alloc (.cells #[] 28)).heap.size) := by show _ < _; simp
   refine hK.out _ _ (HSS.out _ (fNQ hg1 _)) (fun _ => ?_)
   clear hK K
   generalize U0.alloc (.cells #[] 28) = U1 at *
   refine wpAnyH_ready (rs := [3, 8]) (by kernel_rfl) (by simp) (AllReadyH.cons (by rfl) (fun K hK => ?r3) (AllReadyH.cons (by rfl) (fun K hK => ?r9) (AllReadyH.nil)))
   case r3 =>
    refine step_append_con (by rfl) _ _ (by rfl) V.heap.size (.slice (some ⟨U0.heap.size, 0, none⟩) 0 0) 0 [] (by rfl) hoE oa oc ds.length (cCQ ds) (by rfl) HNO.out (conCells_length ds) (HNW.out U1 hg1) HON.out (by unfold maxLen; omega) (by omega) hg1.size (fun v1 U3 hown1 hgr1 hat1 => ?_)
    go_simp
    rw [Nat.zero_add, List.nil_append] at hown1
    have hg3 := gOQ hg1 hgr1 HEG.out
    refine hK.out _ _ (HSS.out _ (fNQ hg3 _)) (fun _ => ?_)
    clear hK K
    refine rd1 8 (by kernel_rfl) (by rfl) (fun K hK => ?_)
    go_simp
    have hg4 := gBQ hg3 (gAQ U3 (.cells #[.int .i64 rop, .int .i64 rn, .string rs, .slice rka rkn rkc, .slice rna rns.length rnc, .slice ra rl.length rcc] 28))
    have kRow : (U3.alloc (.cells #[.int .i64 rop, .int .i64 rn, .string rs, .slice rka rkn rkc, .slice rna rns.length rnc, .slice ra rl.length rcc] 28)).heap[U3.heap.size]? = some (.cells #[.int .i64 rop, .int .i64 rn, .string rs, .slice rka rkn rkc, .slice rna rns.length rnc, .slice ra rl.length rcc] 28 (0, 0)) := nHQ U3 (.cells #[.int .i64 rop, .int .i64 rn, .string rs, .slice rka rkn rkc, .slice rna rns.length rnc, .slice ra rl.length rcc] 28)
    have HRB : Hid (U3.heap.size < (U3.alloc (.cells #[.int .i64 rop, .int .i64 rn, .string rs, .slice rka rkn rkc, .slice rna rns.length rnc, .slice ra rl.length rcc] 28)).heap.size) := by show _ < _; simp
    have hown1 := hown1.alloc (.cells #[.int .i64 rop, .int .i64 rn, .string rs, .slice rka rkn rkc, .slice rna rns.length rnc, .slice ra rl.length rcc] 28)
    refine hK.out _ _ (HSS.out _ (fNQ hg4 _)) (fun _ => ?_)
    clear hK K
    generalize U3.alloc (.cells #[.int .i64 rop, .int .i64 rn, .string rs, .slice rka rkn rkc, .slice rna rns.length rnc, .slice ra rl.length rcc] 28) = U4 at *
    refine rd1 9 (by kernel_rfl) (by rfl) (fun K hK => ?_)
    refine step_append_con (by rfl) _ _ (by rfl) V.heap.size v1 ds.length (cCQ ds) (by rfl) hown1 (some ⟨U3.heap.size, 0, none⟩) 1 1 [.int .i64 rop, .int .i64 rn, .string rs, .slice rka rkn rkc, .slice rna rns.length rnc, .slice ra rl.length rcc] (by rfl) (fun e => by cases e) rfl (fun ad e => by obtain rfl := oJQ e; exact World.news_of_block (cs := #[.int .i64 rop, .int .i64 rn, .string rs, .slice rka rkn rkc, .slice rna rns.length rnc, .slice ra rl.length rcc]) kRow) (by intro u hu; simp at hu; rcases hu with rfl | rfl | rfl | rfl | rfl | rfl <;> rfl) (by unfold maxLen; omega) (by omega) hg4.size (fun v2 U42 hown2 hgr2 hat2 => ?_)
    go_simp
    have hg2 := grown_fresh hg4 hown1 hgr2
    refine hK.out _ _ (HSS.out _ (fNQ hg2 _)) (fun _ => ?_)
    clear hK K
    obtain ⟨g2, c2, rfl, hgb2, hgl2⟩ := hown2.form (Nat.succ_pos _)
    have kR2 : U42.heap[(w.heap.size + 1)]? = some (.cells #[.int .i64 0, .int .i64 0, .string ⟨#[]⟩, .slice none 0 0, .slice none 0 0, .slice none 0 0] 28) := (hg2.block _ (hLQ kRV) (by nofun)).trans kRV
    have hgS := gBQ (fNQ hg2 (some (w.heap.size + 1))) (gRQ U42 (w.heap.size + 1) #[.int .i64 zop, .int .i64 zn, .string zs, .slice zka zkn zkc, .slice zna zns.length znc, .slice za zl.length zcc])
    refine held_store 10 (by kernel_rfl) (by rfl) (by rfl) (by rfl) 28 _ _ (by rfl) (w.heap.size + 1) #[.int .i64 zop, .int .i64 zn, .string zs, .slice zka zkn zkc, .slice zna zns.length znc, .slice za zl.length zcc] (by rfl) (by rfl) 28 _ kR2 cIQ rfl (all_one _ rfl) (HSS.out _ hgS) ?_
    refine tks (b := ?_) (by kernel_rfl) (fun _ _ _ _ _ h => h) (HSS.out _ hgS) 1 [11] (by kernel_rfl) ?_ ?_
    rotate_left
    ·refine yc (v := ?_) rfl rfl (by rfl) (fun w9 hSw => ?_) ?_; rotate_left; (focus go_simp; try rfl); simp only [Act.put, l1Q, l2Q, l3Q]
     exact rfl
    refine wpAnyH_done (by kernel_rfl) ?_ _
    have HRF := hJQ (setRow_heap U42 (w.heap.size + 1) _ #[.int .i64 zop, .int .i64 zn, .string zs, .slice zka zkn zkc, .slice zna zns.length znc, .slice za zl.length zcc] _ _ kR2)
    have HFN := hJQ (HFIN.out U42 g2 c2 hg2 hown2)
    clear hHeld hgS hg2 hgr2 hown2 hown1 hgr1 hat1 hat2 kR2 kRow HSS HNW hoE
    generalize U42.setRow (w.heap.size + 1) #[.int .i64 zop, .int .i64 zn, .string zs, .slice zka zkn zkc, .slice zna zns.length znc, .slice za zl.length zcc] = V6 at *
    go_wp2_with fail
    refine bodyPost_ret (res2 rfl rfl rfl HRF.out) rfl HFN.out
   case r9 =>
    go_simp
    have hg4 := gBQ hg1 (gAQ U1 (.cells #[.int .i64 rop, .int .i64 rn, .string rs, .slice rka rkn rkc, .slice rna rns.length rnc, .slice ra rl.length rcc] 28))
    have kRow : (U1.alloc (.cells #[.int .i64 rop, .int .i64 rn, .string rs, .slice rka rkn rkc, .slice rna rns.length rnc, .slice ra rl.length rcc] 28)).heap[U1.heap.size]? = some (.cells #[.int .i64 rop, .int .i64 rn, .string rs, .slice rka rkn rkc, .slice rna rns.length rnc, .slice ra rl.length rcc] 28 (0, 0)) := nHQ U1 (.cells #[.int .i64 rop, .int .i64 rn, .string rs, .slice rka rkn rkc, .slice rna rns.length rnc, .slice ra rl.length rcc] 28)
    have HRB : Hid (U1.heap.size < (U1.alloc (.cells #[.int .i64 rop, .int .i64 rn, .string rs, .slice rka rkn rkc, .slice rna rns.length rnc, .slice ra rl.length rcc] 28)).heap.size) := by show _ < _; simp
    have hoE := hoE.alloc (.cells #[.int .i64 rop, .int .i64 rn, .string rs, .slice rka rkn rkc, .slice rna rns.length rnc, .slice ra rl.length rcc] 28)
    refine hK.out _ _ (HSS.out _ (fNQ hg4 _)) (fun _ => ?_)
    clear hK K
    generalize U1.alloc (.cells #[.int .i64 rop, .int .i64 rn, .string rs, .slice rka rkn rkc, .slice rna rns.length rnc, .slice ra rl.length rcc] 28) = U4 at *
    refine rd1 3 (by kernel_rfl) (by rfl) (fun K hK => ?_)
    refine step_append_con (by rfl) _ _ (by rfl) V.heap.size (.slice (some ⟨U0.heap.size, 0, none⟩) 0 0) 0 [] (by rfl) hoE oa oc ds.length (cCQ ds) (by rfl) HNO.out (conCells_length ds) (HNW.out U4 hg4) HON.out (by unfold maxLen; omega) (by omega) hg4.size (fun v1 U3 hown1 hgr1 hat1 => ?_)
    go_simp
    rw [Nat.zero_add, List.nil_append] at hown1
    have hg3 := gOQ hg4 hgr1 HEG.out
    have kRow := (hgr1.block _ HRB.out (fun e => by have e2 : U1.heap.size = U0.heap.size := oJQ e; have := HEB.out; omega)).trans kRow
    refine hK.out _ _ (HSS.out _ (fNQ hg3 _)) (fun _ => ?_)
    clear hK K
    refine rd1 9 (by kernel_rfl) (by rfl) (fun K hK => ?_)
    refine step_append_con (by rfl) _ _ (by rfl) V.heap.size v1 ds.length (cCQ ds) (by rfl) hown1 (some ⟨U1.heap.size, 0, none⟩) 1 1 [.int .i64 rop, .int .i64 rn, .string rs, .slice rka rkn rkc, .slice rna rns.length rnc, .slice ra rl.length rcc] (by rfl) (fun e => by cases e) rfl (fun ad e => by obtain rfl := oJQ e; exact World.news_of_block (cs := #[.int .i64 rop, .int .i64 rn, .string rs, .slice rka rkn rkc, .slice rna rns.length rnc, .slice ra rl.length rcc]) kRow) (by intro u hu; simp at hu; rcases hu with rfl | rfl | rfl | rfl | rfl | rfl <;> rfl) (by unfold maxLen; omega) (by omega) hg3.size (fun v2 U32 hown2 hgr2 hat2 => ?_)
    go_simp
    have hg2 := grown_fresh hg3 hown1 hgr2
    refine hK.out _ _ (HSS.out _ (fNQ hg2 _)) (fun _ => ?_)
    clear hK K
    obtain ⟨g2, c2, rfl, hgb2, hgl2⟩ := hown2.form (Nat.succ_pos _)
    have kR2 : U32.heap[(w.heap.size + 1)]? = some (.cells #[.int .i64 0, .int .i64 0, .string ⟨#[]⟩, .slice none 0 0, .slice none 0 0, .slice none 0 0] 28) := (hg2.block _ (hLQ kRV) (by nofun)).trans kRV
    have hgS := gBQ (fNQ hg2 (some (w.heap.size + 1))) (gRQ U32 (w.heap.size + 1) #[.int .i64 zop, .int .i64 zn, .string zs, .slice zka zkn zkc, .slice zna zns.length znc, .slice za zl.length zcc])
    refine held_store 10 (by kernel_rfl) (by rfl) (by rfl) (by rfl) 28 _ _ (by rfl) (w.heap.size + 1) #[.int .i64 zop, .int .i64 zn, .string zs, .slice zka zkn zkc, .slice zna zns.length znc, .slice za zl.length zcc] (by rfl) (by rfl) 28 _ kR2 cIQ rfl (all_one _ rfl) (HSS.out _ hgS) ?_
    refine tks (b := ?_) (by kernel_rfl) (fun _ _ _ _ _ h => h) (HSS.out _ hgS) 1 [11] (by kernel_rfl) ?_ ?_
    rotate_left
    ·refine yc (v := ?_) rfl rfl (by rfl) (fun w9 hSw => ?_) ?_; rotate_left; (focus go_simp; try rfl); simp only [Act.put, l1Q, l2Q, l3Q]
     exact rfl
    refine wpAnyH_done (by kernel_rfl) ?_ _
    have HRF := hJQ (setRow_heap U32 (w.heap.size + 1) _ #[.int .i64 zop, .int .i64 zn, .string zs, .slice zka zkn zkc, .slice zna zns.length znc, .slice za zl.length zcc] _ _ kR2)
    have HFN := hJQ (HFIN.out U32 g2 c2 hg2 hown2)
    clear hHeld hgS hg2 hgr2 hown2 hown1 hgr1 hat1 hat2 kR2 kRow HSS HNW hoE
    generalize U32.setRow (w.heap.size + 1) #[.int .i64 zop, .int .i64 zn, .string zs, .slice zka zkn zkc, .slice zna zns.length znc, .slice za zl.length zcc] = V6 at *
    go_wp2_with fail
    refine bodyPost_ret (res2 rfl rfl rfl HRF.out) rfl HFN.out
  case r8 =>
   go_simp
   have hg4 := gBQ hgD (gAQ U0 (.cells #[.int .i64 rop, .int .i64 rn, .string rs, .slice rka rkn rkc, .slice rna rns.length rnc, .slice ra rl.length rcc] 28))
   have kRow : (U0.alloc (.cells #[.int .i64 rop, .int .i64 rn, .string rs, .slice rka rkn rkc, .slice rna rns.length rnc, .slice ra rl.length rcc] 28)).heap[U0.heap.size]? = some (.cells #[.int .i64 rop, .int .i64 rn, .string rs, .slice rka rkn rkc, .slice rna rns.length rnc, .slice ra rl.length rcc] 28 (0, 0)) := nHQ U0 (.cells #[.int .i64 rop, .int .i64 rn, .string rs, .slice rka rkn rkc, .slice rna rns.length rnc, .slice ra rl.length rcc] 28)
   have HRB : Hid (U0.heap.size < (U0.alloc (.cells #[.int .i64 rop, .int .i64 rn, .string rs, .slice rka rkn rkc, .slice rna rns.length rnc, .slice ra rl.length rcc] 28)).heap.size) := by show _ < _; simp
   refine hK.out _ _ (HSS.out _ (fNQ hg4 _)) (fun _ => ?_)
   clear hK K
   generalize U0.alloc (.cells #[.int .i64 rop, .int .i64 rn, .string rs, .slice rka rkn rkc, .slice rna rns.length rnc, .slice ra rl.length rcc] 28) = U4 at *
   refine rd1 1 (by kernel_rfl) (by rfl) (fun K hK => ?_)
   have HEG : Hid (V.heap.size<=U4.heap.size) := hg4.size
   go_simp
   have hg1 := gBQ hg4 (gAQ U4 (.cells #[] 28))
   have hoE : (U4.alloc (.cells #[] 28)).ownsRow V.heap.size 28 6 (.slice (some ⟨U4.heap.size, 0, none⟩) 0 0) 0 [] := World.ownsRow_made U4 #[] 0 hg4.size (Nat.zero_le _) rfl
   have HEB : Hid (U4.heap.size < (U4.alloc (.cells #[] 28)).heap.size) := by show _ < _; simp
   refine hK.out _ _ (HSS.out _ (fNQ hg1 _)) (fun _ => ?_)
   clear hK K
   have kRow := ((gAQ U4 (.cells #[] 28)).block _ HRB.out (by nofun)).trans kRow
   generalize U4.alloc (.cells #[] 28) = U1 at *
   refine rd1 3 (by kernel_rfl) (by rfl) (fun K hK => ?_)
   refine step_append_con (by rfl) _ _ (by rfl) V.heap.size (.slice (some ⟨U4.heap.size, 0, none⟩) 0 0) 0 [] (by rfl) hoE oa oc ds.length (cCQ ds) (by rfl) HNO.out (conCells_length ds) (HNW.out U1 hg1) HON.out (by unfold maxLen; omega) (by omega) hg1.size (fun v1 U3 hown1 hgr1 hat1 => ?_)
   go_simp
   rw [Nat.zero_add, List.nil_append] at hown1
   have hg3 := gOQ hg1 hgr1 HEG.out
   have kRow := (hgr1.block _ (Nat.lt_trans HRB.out HEB.out) (fun e => by have e2 : U0.heap.size = U4.heap.size := oJQ e; have := HRB.out; omega)).trans kRow
   refine hK.out _ _ (HSS.out _ (fNQ hg3 _)) (fun _ => ?_)
   clear hK K
   refine rd1 9 (by kernel_rfl) (by rfl) (fun K hK => ?_)
   refine step_append_con (by rfl) _ _ (by rfl) V.heap.size v1 ds.length (cCQ ds) (by rfl) hown1 (some ⟨U0.heap.size, 0, none⟩) 1 1 [.int .i64 rop, .int .i64 rn, .string rs, .slice rka rkn rkc, .slice rna rns.length rnc, .slice ra rl.length rcc] (by rfl) (fun e => by cases e) rfl (fun ad e => by obtain rfl := oJQ e; exact World.news_of_block (cs := #[.int .i64 rop, .int .i64 rn, .string rs, .slice rka rkn rkc, .slice rna rns.length rnc, .slice ra rl.length rcc]) kRow) (by intro u hu; simp at hu; rcases hu with rfl | rfl | rfl | rfl | rfl | rfl <;> rfl) (by unfold maxLen; omega) (by omega) hg3.size (fun v2 U32 hown2 hgr2 hat2 => ?_)
   go_simp
   have hg2 := grown_fresh hg3 hown1 hgr2
   refine hK.out _ _ (HSS.out _ (fNQ hg2 _)) (fun _ => ?_)
   clear hK K
   obtain ⟨g2, c2, rfl, hgb2, hgl2⟩ := hown2.form (Nat.succ_pos _)
   have kR2 : U32.heap[(w.heap.size + 1)]? = some (.cells #[.int .i64 0, .int .i64 0, .string ⟨#[]⟩, .slice none 0 0, .slice none 0 0, .slice none 0 0] 28) := (hg2.block _ (hLQ kRV) (by nofun)).trans kRV
   have hgS := gBQ (fNQ hg2 (some (w.heap.size + 1))) (gRQ U32 (w.heap.size + 1) #[.int .i64 zop, .int .i64 zn, .string zs, .slice zka zkn zkc, .slice zna zns.length znc, .slice za zl.length zcc])
   refine held_store 10 (by kernel_rfl) (by rfl) (by rfl) (by rfl) 28 _ _ (by rfl) (w.heap.size + 1) #[.int .i64 zop, .int .i64 zn, .string zs, .slice zka zkn zkc, .slice zna zns.length znc, .slice za zl.length zcc] (by rfl) (by rfl) 28 _ kR2 cIQ rfl (all_one _ rfl) (HSS.out _ hgS) ?_
   refine tks (b := ?_) (by kernel_rfl) (fun _ _ _ _ _ h => h) (HSS.out _ hgS) 1 [11] (by kernel_rfl) ?_ ?_
   rotate_left
   ·refine yc (v := ?_) rfl rfl (by rfl) (fun w9 hSw => ?_) ?_; rotate_left; (focus go_simp; try rfl); simp only [Act.put, l1Q, l2Q, l3Q]
    exact rfl
   refine wpAnyH_done (by kernel_rfl) ?_ _
   have HRF := hJQ (setRow_heap U32 (w.heap.size + 1) _ #[.int .i64 zop, .int .i64 zn, .string zs, .slice zka zkn zkc, .slice zna zns.length znc, .slice za zl.length zcc] _ _ kR2)
   have HFN := hJQ (HFIN.out U32 g2 c2 hg2 hown2)
   clear hHeld hgS hg2 hgr2 hown2 hown1 hgr1 hat1 hat2 kR2 kRow HSS HNW hoE
   generalize U32.setRow (w.heap.size + 1) #[.int .i64 zop, .int .i64 zn, .string zs, .slice zka zkn zkc, .slice zna zns.length znc, .slice za zl.length zcc] = V6 at *
   go_wp2_with fail
   refine bodyPost_ret (res2 rfl rfl rfl HRF.out) rfl HFN.out
 ·have hop' : (xop != 12) = true := nNQ hop
  have HSN : Hid (spineC (pC (ConD.mk xop xn xs xk (.slice xna xns.length xnc) xns (.slice xa xl.length xcc) xl)) = (pC (ConD.mk xop xn xs xk (.slice xna xns.length xnc) xns (.slice xa xl.length xcc) xl), [])) := spine_leaf _ (by rw [pMQ]; exact hop)
  have HX := hJQ (h.lt.mono (Q := (fun b => P b/\b ≠ w.heap.size + 1)) (fun b hb _ => ⟨hb.1, by have := hb.2; omega⟩))
  have hltR := hLQ kR
  clear h HI hfr hsz
  have hrow := gRQ ((w.alloc (.cells #[.int .i64 xop, .int .i64 xn, .string xs, .slice xka xkn xkc, .slice xna xns.length xnc, .slice xa xl.length xcc] 28)).alloc (.cells #[.int .i64 0, .int .i64 0, .string ⟨#[]⟩, .slice none 0 0, .slice none 0 0, .slice none 0 0] 28)) (w.heap.size + 1) #[.int .i64 xop, .int .i64 xn, .string xs, .slice xka xkn xkc, .slice xna xns.length xnc, .slice xa xl.length xcc]
  have HRF := hJQ (setRow_heap ((w.alloc (.cells #[.int .i64 xop, .int .i64 xn, .string xs, .slice xka xkn xkc, .slice xna xns.length xnc, .slice xa xl.length xcc] 28)).alloc (.cells #[.int .i64 0, .int .i64 0, .string ⟨#[]⟩, .slice none 0 0, .slice none 0 0, .slice none 0 0] 28)) (w.heap.size + 1) _ #[.int .i64 xop, .int .i64 xn, .string xs, .slice xka xkn xkc, .slice xna xns.length xnc, .slice xa xl.length xcc] _ _ kR)
  have HBF := hJQ (hbW.trans (gUQ (B := w.heap.size) hrow hbW.size (fun q hq => by have e2 : w.heap.size + 1 = q := oJQ hq; omega)))
  have HDF := hJQ (((iBQ HX.out hbW).grown hrow (fun q hq hp => hp.2 (oJQ hq).symm)).mono (Q := P) (fun b hb _ => hb.1))
  clear hrow
  go_enter Tryz.func38, Tryz.ntmps38
  go_upto_region 2 with fail
  generalize ((w.alloc (.cells #[.int .i64 xop, .int .i64 xn, .string xs, .slice xka xkn xkc, .slice xna xns.length xnc, .slice xa xl.length xcc] 28)).alloc (.cells #[.int .i64 0, .int .i64 0, .string ⟨#[]⟩, .slice none 0 0, .slice none 0 0, .slice none 0 0] 28)) = W at *
  go_wp2_with (refine wpList_store_row rfl 28 _ _ rfl (w.heap.size + 1) _ rfl rfl 28 _ kR cIQ rfl (all_one _ rfl) ?_)
  refine bodyPost_ret (res2 rfl rfl rfl HRF.out) rfl (rsp_mk (ds := []) HXV.out.symm HDF.out (by rw [HSN.out]) rfl (RowP.nil _ _) (fun y hy => by cases hy) (by rw [HSN.out]; rfl) (fun _ => ⟨rfl, rfl⟩) HBF.out)
theorem rspine_any : ∀ (x : ConD), RSpAll x := ConD.ind (fun op n s k nv ns lv l ih => rspine_one (.mk op n s k nv ns lv l) ih)
end Go.Proofs.YtkiffgdinmpljaaGreatDoor
