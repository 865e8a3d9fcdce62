/- (*counter).normalize. Printed by gen_norm2.py, expanded by mac.py. -/
import Derived.Test.YtkiffgdinmpljaaGreatDoorF20
set_option linter.unusedVariables false
set_option linter.unusedSimpArgs false
namespace Go.Proofs.YtkiffgdinmpljaaGreatDoor
open Go Go.RowKit
set_option maxHeartbeats 8000000
set_option maxRecDepth 100000
def betaN (F : Nat) (T : Cn) : Nat->Option (Cn × Nat)
 | 0 => none
 | m' + 1 => if valC T = true then nrmN F T m' else none
theorem norm_any_over (P : Nat->Prop) (d : ConD) (kb : Nat) (st : Int) (w : World) (hd : ∃ Q, IsCon Q w d) (hC : CtAt w kb st true) : Calls Tryz.prog 54 #[.pointer (some ⟨kb, 0, none⟩), conV d] w (NOk P kb none w) := by
 obtain ⟨Q, hd⟩ := hd
 exact (norm_over Q P d kb st w hd hC).mono fun e w' ⟨he, hc, hg⟩ => ⟨zeroD, true, st, he, hc, hg, zero_con _ _, zero_size, fun _ => rfl, fun y m hh => by cases hh⟩
theorem sizeCL_le (l : List Cn) (N : Nat) (h : ∀ x ∈ l, sizeC x<=N) : sizeCL l<=l.length * N := by
 induction l with
 | nil => rw [sizeCL_nil]; exact Nat.zero_le _
 | cons x r ih =>
   rw [sizeCL_cons, List.length_cons, Nat.succ_mul]
   have h1 := h x (by simp)
   have h2 := ih (fun y hy => h y (by simp [hy]))
   omega
theorem normL_left (f : Cn->Nat->Option (Cn × Nat)) (hf : ∀ c a y b, f c a = some (y, b)->b<=a) : ∀ (l : List Cn) (left : Nat) (ys : List Cn) (m : Nat), normL f l left = some (ys, m)->m<=left
 | [], left, ys, m, h => by
   rw [normL] at h
   obtain ⟨rfl, rfl⟩ := Prod.mk.inj (oJQ h)
   exact Nat.le_refl _
 | x :: r, left, ys, m, h => by
   rw [normL] at h
   split at h
   ·cases h
   ·rename_i y m1 hx
    cases hr : normL f r m1 with
    | none => rw [hr] at h; cases h
    | some q =>
      rw [hr] at h
      obtain ⟨rfl, rfl⟩ := Prod.mk.inj (oJQ h)
      exact Nat.le_trans (normL_left f hf r m1 q.1 q.2 hr) (hf _ _ _ _ hx)
theorem map_one {f0 : Cn} (ds : List ConD) (h : ds.map pC = [f0]) : ∃ yd, ds = [yd]/\pC yd = f0 := by
 match ds, h with
 | [], h => cases h
 | [x], h => exact ⟨x, rfl, (List.cons.inj h).1⟩
 | _ :: _ :: _, h => cases (List.cons.inj h).2
theorem map_two {f0 a0 : Cn} (ds : List ConD) (h : ds.map pC = [f0, a0]) : ∃ fd gd, ds = [fd, gd]/\pC fd = f0 := by
 match ds, h with
 | [], h => cases h
 | [x], h => cases (List.cons.inj h).2
 | [x, y], h => exact ⟨x, y, rfl, (List.cons.inj h).1⟩
 | _ :: _ :: _ :: _, h => cases (List.cons.inj (List.cons.inj h).2).2
theorem norm_left : ∀ (F : Nat) (c : Cn) (a : Nat) (y : Cn) (b : Nat), nrmN F c a = some (y, b)->b<=a
 | 0, c, a, y, b, h => by cases h
 | F + 1, .mk op n s k ns l, a, y, b, h => by
   have h : normN cstB labsB (F + 1) (.mk op n s k ns l) a = some (y, b) := h
   rw [normN_mk] at h
   split at h
   ·cases h
   ·rename_i l' m1 hl
    have h1 := normL_left (nrmN F) (norm_left F) l a l' m1 hl
    unfold hNQ at h
    split at h
    ·cases h
    ·split at h
     ·split at h
      ·cases h
      ·rename_i m'
       split at h
       ·have := norm_left F _ _ _ _ h; omega
       ·cases h
     ·split at h
      ·obtain ⟨rfl, rfl⟩ := Prod.mk.inj (oJQ h); exact h1
      ·obtain ⟨rfl, rfl⟩ := Prod.mk.inj (oJQ h); exact h1
theorem norm_step (kb F : Nat) (IHF : ∀ x, NormAll2 kb F x) (x : ConD) : NormAll2 kb (F + 1) x := by
 intro P w left hEK h hP hup0 hf hbd hC hl1 hfu hdp hsz
 obtain ⟨op, n, s, k, nv, ns, lv, l⟩ := x
 rw [pMQ] at hf hbd hfu hdp hsz ⊢
 have hfs := fSQ hf
 have hlp := frm_parts hf
 have hbs := ((bndC_mk ..).1 hbd).2.2.2
 rw [depthC_mk] at hfu hdp
 rw [sMQ] at hsz
 rw [List.length_map] at hlp
 obtain ⟨ka, kc, kn, na, nc, a, c, rfl, _, rfl, _, hks, hcv, hll, hnn, hb0, gC, hsz0, HP, HC0, c0, c1, c2, c3, c4, c5⟩ := open_box h
 rw [hcv]
 clear hcv
 obtain ⟨hg1, kR, kB, hszW⟩ := fo_box gC
 have hgW := gBQ (gAQ w (.cells #[.int .i64 op, .int .i64 n, .string s, .slice ka kn kc, .slice na ns.length nc, .slice a l.length c] 28)) hg1
 have kC := hC.grown hgW (by nofun)
 have hlk := hLQ hC
 have g3 := gAQ ((w.alloc (.cells #[.int .i64 op, .int .i64 n, .string s, .slice ka kn kc, .slice na ns.length nc, .slice a l.length c] 28)).alloc (.cells #[.int .i64 0, .int .i64 0, .string ⟨#[]⟩, .slice none 0 0, .slice none 0 0, .slice none 0 0] 28)) (.cells #[.int .i64 op, .int .i64 n, .string s, .slice ka kn kc, .slice na ns.length nc, .slice a l.length c] 28)
 have HHH := hJQ h
 have HEK := hJQ hEK
 have HFS := hJQ hfs
 have HBD := hJQ hbs
 have HFR := hJQ hf
 have HBF := hJQ hbd
 have HKS := hJQ hks
 clear c0 c1 c2 c3 c4 c5 hb0 gC HP HC0 hsz0 hg1 hC hks h hEK hfs hbs hf hbd
 go_enter Tryz.func54, Tryz.ntmps54
 go_upto_region 1 with fail
 generalize (w.alloc (.cells #[.int .i64 op, .int .i64 n, .string s, .slice ka kn kc, .slice na ns.length nc, .slice a l.length c] 28)).alloc (.cells #[.int .i64 0, .int .i64 0, .string ⟨#[]⟩, .slice none 0 0, .slice none 0 0, .slice none 0 0] 28) = W at *
 obtain ⟨k0, k1, f0, f1⟩ := kC.cells
 obtain ⟨c0, c1, c2, c3, c4, c5⟩ := cnQ kB
 have kO := nHQ W (.cells #[.int .i64 op, .int .i64 n, .string s, .slice ka kn kc, .slice na ns.length nc, .slice a l.length c] 28)
 have kO5 := heap_set_same (i := 5) kO (.slice none 0 0)
 have hgO := gAQ W (.cells #[.int .i64 op, .int .i64 n, .string s, .slice ka kn kc, .slice na ns.length nc, .slice a l.length c] 28)
 have hgS := gSQ (W.alloc (.cells #[.int .i64 op, .int .i64 n, .string s, .slice ka kn kc, .slice na ns.length nc, .slice a l.length c] 28)) W.heap.size 5 (.slice none 0 0)
 go_upto_region 5 with fail
 clear k0 k1 f0 f1 kO kO5 hgO hgS
 have kO := nHQ W (.cells #[.int .i64 op, .int .i64 n, .string s, .slice ka kn kc, .slice na ns.length nc, .slice none 0 0] 28)
 rw [hszW] at kO
 have hgO := gAQ W (.cells #[.int .i64 op, .int .i64 n, .string s, .slice ka kn kc, .slice na ns.length nc, .slice none 0 0] 28)
 have hszO : (W.alloc (.cells #[.int .i64 op, .int .i64 n, .string s, .slice ka kn kc, .slice na ns.length nc, .slice none 0 0] 28)).heap.size = w.heap.size + 3 := by simp [hszW]
 have kB0 := (hgO.block _ (hLQ kB) (by nofun)).trans kB
 have kR0 := (hgO.block _ (hLQ kR) (by nofun)).trans kR
 have HCt3 := hJQ (kC.grown hgO (by nofun))
 have HG3 := hJQ (fNQ (gBQ hgW hgO) (some kb))
 clear c0 c1 c2 c3 c4 c5 kB kR kC hgW hgO
 generalize W.alloc (.cells #[.int .i64 op, .int .i64 n, .string s, .slice ka kn kc, .slice na ns.length nc, .slice none 0 0] 28) = V0 at *
 have HC3 : Hid (MkC (fun b => P b/\b ≠ w.heap.size + 1) V0 (w.heap.size + 3) (w.heap.size + 2) (.int .i64 op) (.int .i64 n) (.string s) (.slice ka kn kc) (.slice na ns.length nc) (.slice none 0 0) []) := MkC.nil kO (by omega) (by omega)
 have HB0 := hJQ kB0
 have HR0 := hJQ kR0
 have HLE : Hid (∀ (c : Cn) (a : Nat) (y : Cn) (b : Nat), nrmN F c a = some (y, b)->b<=a) := fun c a y b hh => norm_left F c a y b hh
 obtain ⟨c0, c1, c2, c3, c4, c5⟩ := cnQ kB0
 clear kO kB0 kR0
 go_wp2_with fail
 clear c0 c1 c2 c3 c4 c5
 go_loopw [20] (fun i wr => ∃ (cv : Value) (ds : List ConD) (st : Int) (ov : Bool), ds.length<=l.length/\i = .int .i64 ds.length/\Hid (MkC (fun b => P b/\b ≠ w.heap.size + 1) wr (w.heap.size + 3) (w.heap.size + 2) (.int .i64 op) (.int .i64 n) (.string s) (.slice ka kn kc) (.slice na ns.length nc) cv ds)/\Hid (CtAt wr kb st ov)/\Hid (Kept (Q3 (w.heap.size + 3) (w.heap.size + 2) kb) V0 wr)/\Hid (w.grownBy wr (some kb))/\Hid ((∀ d ∈ ds, sizeC (pC d)<=20000)/\(normL (nrmN F) ((l.map pC).take ds.length) left = none->ov = true)/\(∀ ys m, normL (nrmN F) ((l.map pC).take ds.length) left = some (ys, m)->ov = false/\ds.map pC = ys/\st = 10000 - (m : Int)/\m<=left))) (fun i _ => l.length - (intOf i).toNat)
 case atStart => exact ⟨.slice none 0 0, [], _, false, Nat.zero_le _, rfl, HC3, HCt3, Kept.refl _ _, HG3, (fun d hd => by cases hd), (fun hh => by rw [List.length_nil, List.take_zero, normL] at hh; cases hh), fun ys m hh => by
  rw [List.length_nil, List.take_zero, normL] at hh
  obtain ⟨rfl, rfl⟩ := Prod.mk.inj (oJQ hh)
  exact ⟨rfl, rfl, rfl, Nat.le_refl _⟩⟩
 case round =>
  rename World => V
  obtain ⟨cv, ds, st, ov, hj, rfl, HM, HCt, HKp, HG, HInv⟩ := hrel
  obtain ⟨oa, oc, hcv⟩ := HM.out.slice
  subst hcv
  have hltV := HM.out.lt
  have hown := HM.out.own
  by_cases hjl : ds.length < l.length
  ·have HP := hJQ HHH.out.lt.parts
   have HV : Hid (Kept (fun b => P b/\b < w.heap.size) w V) := ⟨HG.out.size, fun b hp hlt => HG.out.block b hlt (fun e => by have e2 : b = kb := oJQ e; rw [e2] at hp; exact hP hp.1)⟩
   have hjl0 := hjl
   obtain ⟨b, off, yop, yn, ys, yk, yns, yl, yka, ykn, ykc, yna, ync, ya, yc, fd, hbl, hq, hy, hmem, hv, HT, e0, e1, e2, e3, e4, e5⟩ := part_at (HV.out.row HP.out.row) (fun y hy => HV.out.con (HP.out.all y hy)) ds.length hjl
   subst fd
   have HT := hJQ HT
   obtain ⟨f0, f1, f2, f3, f4, f5⟩ := cnQ (nHQ V (.cells #[.int .i64 yop, .int .i64 yn, .string ys, .slice yka ykn ykc, .slice yna yns.length ync, .slice ya yl.length yc] 28))
   have hgX := gAQ V (.cells #[.int .i64 yop, .int .i64 yn, .string ys, .slice yka ykn ykc, .slice yna yns.length ync, .slice ya yl.length yc] 28)
   have HMX := hJQ (HM.out.grown hgX (by nofun))
   obtain ⟨x0, x1, x2, x3, x4, x5⟩ := cnQ HMX.out.cell
   have hszX : (V.alloc (.cells #[.int .i64 yop, .int .i64 yn, .string ys, .slice yka ykn ykc, .slice yna yns.length ync, .slice ya yl.length yc] 28)).heap.size = V.heap.size + 1 := by simp
   have hm' : pC (.mk yop yn ys yk (.slice yna yns.length ync) yns (.slice ya yl.length yc) yl) ∈ l.map pC := List.mem_map_of_mem hmem
   have hownX := HMX.out.own
   have HC : Hid (∀ W', (V.alloc (.cells #[.int .i64 yop, .int .i64 yn, .string ys, .slice yka ykn ykc, .slice yna yns.length ync, .slice ya yl.length yc] 28)).grownBy W' none->Calls Tryz.prog 54 #[.pointer (some ⟨kb, 0, none⟩), (.agg #[.int .i64 yop, .int .i64 yn, .string ys, .slice yka ykn ykc, .slice yna yns.length ync, .slice ya yl.length yc])] W' fun e w' => ∃ (d : ConD) (ov' : Bool) (st' : Int), e = .returned (conV d)/\CtAt w' kb st' ov'/\W'.grownBy w' (some kb)/\IsCon (fun b => ((P b/\b ≠ w.heap.size + 1)/\b ≠ w.heap.size + 2)/\(Value.slice oa ds.length oc).ownBlock ≠ some b) w' d/\sizeC (pC d)<=20000/\(ov = true->ov' = true)/\(∀ m : Nat, ov = false->st = 10000 - (m : Int)->m<=left->(nrmN F (pC (.mk yop yn ys yk (.slice yna yns.length ync) yns (.slice ya yl.length yc) yl)) m = none->ov' = true)/\(∀ y m', nrmN F (pC (.mk yop yn ys yk (.slice yna yns.length ync) yns (.slice ya yl.length yc) yl)) m = some (y, m')->ov' = false/\pC d = y/\st' = 10000 - (m' : Int)))) := fun W' hW' => by
    have hgg := gBQ hgX hW'
    have hy' := hy.grown hgg (by nofun)
    have hgw' := gBQ HG.out (fNQ hgg (some kb))
    have hszW' := hW'.size
    have hup : ∀ b, (P b/\b < w.heap.size)->b < W'.heap.size->(((P b/\b ≠ w.heap.size + 1)/\b ≠ w.heap.size + 2)/\(Value.slice oa ds.length oc).ownBlock ≠ some b) := fun b hb _ => ⟨⟨⟨hb.1, by have := hb.2; omega⟩, by have := hb.2; omega⟩, fun e => by have := (hown.lt b e).1; have := hb.2; omega⟩
    cases ov with
    | true =>
      have := norm_over _ P _ kb st W' hy' (HCt.out.grown hgg (by nofun))
      rw [hv] at this
      exact this.mono fun e w' ⟨he, hc, hg⟩ => ⟨zeroD, true, st, he, hc, hg, zero_con _ _, zero_size, fun _ => rfl, fun m hh => by cases hh⟩
    | false =>
      obtain ⟨i1, i2, i3⟩ := HInv.out
      cases hNL : normL (nrmN F) ((l.map pC).take ds.length) left with
      | none => have := i2 hNL; cases this
      | some q =>
        obtain ⟨qs, m⟩ := q
        obtain ⟨_, i4, i5, i6⟩ := i3 qs m hNL
        have hdm := dGQ _ _ hm'
        have := IHF _ (fun b => ((P b/\b ≠ w.heap.size + 1)/\b ≠ w.heap.size + 2)/\(Value.slice oa ds.length oc).ownBlock ≠ some b) W' m (HEK.out.grown hgw') (hy'.mono hup) (fun hp => hP hp.1.1.1) (fun b hb => ⟨⟨⟨hup0 b (by have := hgw'.size; omega), by omega⟩, by omega⟩, fun e => by have := (hown.lt b e).2; omega⟩) (HFS.out.2.2.2.1 _ hm') (HBD.out _ hm') (by rw [← i5]; exact HCt.out.grown hgg (by nofun)) (by omega) (by have : m * 401<=left * 401 := Nat.mul_le_mul_right _ i6; omega) (by omega) (by have := sLQ _ _ hm'; omega)
        rw [hv] at this
        refine this.mono ?_
        rintro e w' ⟨d, ov', st', he, hc, hg, hd, hsz, hno, hyes⟩
        refine ⟨d, ov', st', he, hc, hg, hd, hsz, (fun hh => by cases hh), fun m2 _ hm2 _ => ?_⟩
        have : m2 = m := by omega
        subst this
        exact ⟨hno, hyes⟩
   have HNL : Hid (normL (nrmN F) ((l.map pC).take (ds.length + 1)) left = normL (nrmN F) ((l.map pC).take ds.length ++ [pC (.mk yop yn ys yk (.slice yna yns.length ync) yns (.slice ya yl.length yc) yl)]) left) := by show _ = _; rw [HT.out]
   clear hy hmem hv hq hm' HV HP HT
   generalize pC (.mk yop yn ys yk (.slice yna yns.length ync) yns (.slice ya yl.length yc) yl) = py at *
   obtain ⟨ii0, hii, hiz0, hiz1, hiz2⟩ := info_parts info_con
   go_upto_region 8 with fail
   generalize V.alloc (.cells #[.int .i64 yop, .int .i64 yn, .string ys, .slice yka ykn ykc, .slice yna yns.length ync, .slice ya yl.length yc] 28) = VX at *
   have hVXlt := HMX.out.lt
   have hVXs := HG.out.size
   go_region_law
    (first
      | (fail_if_success (have guard9 := hgy)
         go_simp; go_at_call 54
         refine (HC.out _ (gDQ VX)).mono ?_
         rintro e w1 ⟨dd, ov2, st2, rfl, hc2, hgy, hdd, hdz, hov, hres⟩
         have hg9 : VX.grownBy w1 (some kb) := gBQ (fNQ (gDQ VX) _) hgy
         have HM1 := hJQ (HMX.out.grown hg9 (fun q hq => by have e2 : kb = q := oJQ hq; subst e2; exact ⟨fun hp => hP hp.1, by omega, fun e => by have := (HMX.out.own.lt _ e).1; omega⟩))
         obtain ⟨y20, y21, y22, y23, y24, y2⟩ := cnQ HM1.out.cell
         obtain ⟨zop, zn, zs, zk, zns, zl, zka, zkn, zkc, zna, znc, za, zc, hde, hzk, _⟩ := cSQ hdd
         subst hde
         have HD := hJQ hdd
         have HDZ := hJQ hdz
         have HOV := hJQ hov
         have HRS := hJQ hres
         rw [cVQ hzk]
         have y3 := (World.cell?_of_block (a := ⟨w.heap.size + 2, 5, none⟩) ((gAQ w1 (.cells #[.int .i64 zop, .int .i64 zn, .string zs, .slice zka zkn zkc, .slice zna zns.length znc, .slice za zl.length zc] 28)).block (w.heap.size + 2) (by have := HM1.out.lt; omega) (by nofun))).trans y2)
      | (have guard9 := hgy; clear guard9
         refine step_append_lies _ (by rfl) _ _ _ (by rfl) (w.heap.size + 3) 28 ii0 (.agg #[.int .i64 0, .int .i64 0, .string ⟨#[]⟩, .slice none 0 0, .slice none 0 0, .slice none 0 0]) 6 104 Tryz.underlying26 hii hiz0 hiz1 hiz2 (by rfl) (by decide) _ ds.length (cCQ ds) (by rfl) (HM1.out.own.alloc _) ⟨w1.heap.size, 0, none⟩ 1 1 [.int .i64 zop, .int .i64 zn, .string zs, .slice zka zkn zkc, .slice zna zns.length znc, .slice za zl.length zc] (by rfl) (by rfl) (World.news_of_block (cs := #[.int .i64 zop, .int .i64 zn, .string zs, .slice zka zkn zkc, .slice zna zns.length znc, .slice za zl.length zc]) (nHQ w1 _)) (by intro u hu; simp at hu; rcases hu with rfl | rfl | rfl | rfl | rfl | rfl <;> rfl) (by decide) (by unfold maxLen; omega) (by omega) (by have := HM1.out.lt; simp; omega) _ rfl ?_
         intro gN cN w4 hown4 hgrow4 hat4 hlt4
         have HK4 := hJQ ((hgrow4.block (w.heap.size + 2) (by have := HM1.out.lt; simp; omega) (fun e => by have := HM1.out.own.lt _ e.symm; omega)).trans (((gAQ w1 (.cells #[.int .i64 zop, .int .i64 zn, .string zs, .slice zka zkn zkc, .slice zna zns.length znc, .slice za zl.length zc] 28)).block (w.heap.size + 2) (by have := HM1.out.lt; omega) (by nofun)).trans HM1.out.cell))
         obtain ⟨y40, y41, y42, y43, y44, y4⟩ := cnQ HK4.out
         have fz4 : w4.frozen? ⟨w.heap.size + 2, 5, none⟩ = false := Lib.frozen_of_heap HK4.out 5))
   all_goals
    have hgA := gAQ w1 (.cells #[.int .i64 zop, .int .i64 zn, .string zs, .slice zka zkn zkc, .slice zna zns.length znc, .slice za zl.length zc] 28)
    have hgS := gSQ w4 (w.heap.size + 2) 5 (.slice (some ⟨gN, 0, none⟩) (ds.length + 1) cN)
    have hce : cEQ (ConD.mk zop zn zs zk (.slice zna zns.length znc) zns (.slice za zl.length zc) zl) = [.int .i64 zop, .int .i64 zn, .string zs, .slice zka zkn zkc, .slice zna zns.length znc, .slice za zl.length zc] := by show [_, _, _, zk.v, _, _] = _; rw [hzk]; rfl
    rw [← hce] at hown4
    have hMK := HM1.out.push (y := (ConD.mk zop zn zs zk (.slice zna zns.length znc) zns (.slice za zl.length zc) zl)) HD.out hown4 hgrow4 hat4
    have hB1 := HM1.out.lt
    have hs1 := hg9.size
    have hs4 := hgrow4.size
    have hsA := hgA.size
    have hM4 : CtAt (w4.setCell ⟨w.heap.size + 2, 5, none⟩ (.slice (some ⟨gN, 0, none⟩) (ds.length + 1) cN)) kb st2 ov2 := ((hc2.grown hgA (by nofun)).grown hgrow4 (fun e => by have := (HM1.out.own.lt _ e).1; omega)).grown hgS (fun e => by have e2 : w.heap.size + 2 = kb := oJQ e; omega)
    have hG4 : w.grownBy (w4.setCell ⟨w.heap.size + 2, 5, none⟩ (.slice (some ⟨gN, 0, none⟩) (ds.length + 1) cN)) (some kb) := gOQ (grown_more (gBQ (gBQ (gBQ HG.out (fNQ hgX _)) hg9) (fNQ hgA _)) hgrow4 (fun q hq => by have := (HM1.out.own.lt q hq).1; omega)) hgS (by omega)
    have hK4 : Kept (Q3 (w.heap.size + 3) (w.heap.size + 2) kb) V0 (w4.setCell ⟨w.heap.size + 2, 5, none⟩ (.slice (some ⟨gN, 0, none⟩) (ds.length + 1) cN)) := ((((HKp.out.trans (Kept.of_grown hgX (by nofun))).trans (Kept.of_grown hg9 (fun q hq hp => hp.2.2 (oJQ hq).symm))).trans (Kept.of_grown hgA (by nofun))).trans (Kept.of_grown hgrow4 (fun q hq hp => by have := (HM1.out.own.lt q hq).1; have := hp.1; omega))).trans (Kept.of_grown hgS (fun q hq hp => hp.2.1 (oJQ hq).symm))
    have HZ := hJQ hMK
    have HZM := hJQ hM4
    have HZG := hJQ hG4
    have HZK := hJQ hK4
    have HZI : Hid ((∀ d ∈ ds ++ [(ConD.mk zop zn zs zk (.slice zna zns.length znc) zns (.slice za zl.length zc) zl)], sizeC (pC d)<=20000)/\(normL (nrmN F) ((l.map pC).take (ds ++ [(ConD.mk zop zn zs zk (.slice zna zns.length znc) zns (.slice za zl.length zc) zl)]).length) left = none->ov2 = true)/\(∀ ys m, normL (nrmN F) ((l.map pC).take (ds ++ [(ConD.mk zop zn zs zk (.slice zna zns.length znc) zns (.slice za zl.length zc) zl)]).length) left = some (ys, m)->ov2 = false/\(ds ++ [(ConD.mk zop zn zs zk (.slice zna zns.length znc) zns (.slice za zl.length zc) zl)]).map pC = ys/\st2 = 10000 - (m : Int)/\m<=left)) := by
     obtain ⟨i1, i2, i3⟩ := HInv.out
     show _/\_/\_
     rw [List.length_append, show [(ConD.mk zop zn zs zk (.slice zna zns.length znc) zns (.slice za zl.length zc) zl)].length = 1 from rfl, HNL.out, normL_snoc]
     refine ⟨fun d hd => ?_, ?_, ?_⟩
     ·rcases List.mem_append.1 hd with hd | hd
      ·exact i1 d hd
      ·rw [List.mem_singleton.1 hd]; exact HDZ.out
     ·cases hNL : normL (nrmN F) ((l.map pC).take ds.length) left with
      | none => exact fun _ => HOV.out (i2 hNL)
      | some q =>
        obtain ⟨qs, m⟩ := q
        obtain ⟨i4, i5, i6, i7⟩ := i3 qs m hNL
        have hr := HRS.out m i4 i6 i7
        intro hh
        refine hr.1 ?_
        cases hq : nrmN F py m with
        | none => rfl
        | some r => dsimp only at hh; rw [hq] at hh; cases hh
     ·cases hNL : normL (nrmN F) ((l.map pC).take ds.length) left with
      | none => exact fun ys m hh => by cases hh
      | some q =>
        obtain ⟨qs, m⟩ := q
        obtain ⟨i4, i5, i6, i7⟩ := i3 qs m hNL
        have hr := HRS.out m i4 i6 i7
        intro ys m2 hh
        cases hq : nrmN F py m with
        | none => dsimp only at hh; rw [hq] at hh; cases hh
        | some r =>
          obtain ⟨ry, rm⟩ := r
          dsimp only at hh
          rw [hq] at hh
          obtain ⟨rfl, rfl⟩ := Prod.mk.inj (oJQ hh)
          obtain ⟨r1, r2, r3⟩ := hr.2 ry rm hq
          have hle := (HLE.out py m ry rm hq)
          exact ⟨r1, by rw [List.map_append, i5, ← r2]; rfl, r3, by omega⟩
    clear hMK hM4 hG4 hK4 hgA hgS hownX hown4 hgrow4 hat4 HM1 HMX HD hdd hc2 hgy hov hres HInv HC hown hg9 hs1 hs4 hsA hdz
    go_wp2_with fail
    go_roundw
    case rel => exact ⟨_, ds ++ [(ConD.mk zop zn zs zk (.slice zna zns.length znc) zns (.slice za zl.length zc) zl)], st2, ov2, by rw [List.length_append]; exact hjl0, by rw [List.length_append]; go_num, HZ, HZM, HZK, HZG, HZI⟩
    case measure => simp [intOf]; omega
  ·have hjl' : Hid (ds.length = l.length) := by show _ = _; omega
   have hnot : ¬ (ds.length : Int) < l.length := by omega
   have hdl : Hid (ds.length<=1000) := by show _<=_; omega
   have kRV := HKp.out.heap (q := w.heap.size + 1) ⟨by omega, by omega, by omega⟩ HR0.out
   have hPk : ∀ q, some kb = some q->¬ ((P q/\q ≠ w.heap.size + 1)/\q ≠ w.heap.size + 2) := fun q hq hp => by have e2 : kb = q := oJQ hq; rw [← e2] at hp; exact hP hp.1.1
   have hPk2 : ∀ q, some kb = some q->¬ (P q/\q < w.heap.size) := fun q hq hp => by have e2 : kb = q := oJQ hq; rw [← e2] at hp; exact hP hp.1
   have HOut : Hid (IsCon (fun b => (P b/\b ≠ w.heap.size + 1)/\b ≠ w.heap.size + 2) V (ConD.mk op n s k (.slice na ns.length nc) ns (.slice oa ds.length oc) ds)) := by
    refine IsCon.mk ?_ ?_ (by have := HHH.out.parts.nlen; exact this) ?_ (by have : maxLen = 9223372036854775807 := (by decide); omega) (fun y hy => (HM.out.els y hy).mono (fun b hb _ => hb.1))
    ·exact (HHH.out.lt.parts.kind.grown HG.out hPk2).mono (fun b hb _ => ⟨⟨hb.1, by have := hb.2; omega⟩, by have := hb.2; omega⟩)
    ·exact (HHH.out.lt.parts.names.grown HG.out hPk2).mono (fun b hb _ => ⟨⟨hb.1, by have := hb.2; omega⟩, by have := hb.2; omega⟩)
    ·exact rowP_owns hown (fun b hb => ⟨⟨hup0 b (by omega), by omega⟩, by omega⟩)
   have HPO : Hid (pC (ConD.mk op n s k (.slice na ns.length nc) ns (.slice oa ds.length oc) ds) = .mk op n s (pK k) ns (ds.map pC)) := pMQ ..
   have HVO : Hid (conV (ConD.mk op n s k (.slice na ns.length nc) ns (.slice oa ds.length oc) ds) = .agg #[.int .i64 op, .int .i64 n, .string s, .slice ka kn kc, .slice na ns.length nc, .slice oa ds.length oc]) := cVQ HKS.out
   have hszO2 : sizeC (pC (ConD.mk op n s k (.slice na ns.length nc) ns (.slice oa ds.length oc) ds))<=1000000000 := by
    rw [HPO.out, sMQ]
    have h1 := sizeCL_le (ds.map pC) 20000 (fun x hx => by obtain ⟨d, hd, rfl⟩ := List.mem_map.1 hx; exact HInv.out.1 d hd)
    rw [List.length_map] at h1
    have h2 := hdl.out
    have h3 : ds.length * 20000<=1000 * 20000 := Nat.mul_le_mul_right _ h2
    omega
   have HKept := kept_any _ (ConD.mk op n s k (.slice na ns.length nc) ns (.slice oa ds.length oc) ds) kb st ov V HOut.out HCt.out hszO2
   rw [HVO.out] at HKept
   have HKept := hJQ HKept
   obtain ⟨x0, x1, x2, x3, x4, x5⟩ := cnQ HM.out.cell
   clear hPk2 hszO2
   go_wp2_with fail
   refine HKept.out.mono ?_
   rintro e w4 ⟨d4, rfl, hc4, hg4, hd4, hd4z⟩
   have kO4 := (hg4.block (w.heap.size + 2) (hLQ HM.out.cell) (fun e => by have e2 : w.heap.size + 2 = kb := oJQ e; omega)).trans HM.out.cell
   have kR4 := (hg4.block (w.heap.size + 1) (hLQ kRV) (fun e => by have e2 : w.heap.size + 1 = kb := oJQ e; omega)).trans kRV
   have hG4 := gBQ HG.out hg4
   have HO4 := hJQ (HOut.out.grown hg4 hPk)
   have hltw4 := hG4.size
   obtain ⟨ov4, hov4⟩ : ∃ q9, (ov || !smallC (pC (ConD.mk op n s k (.slice na ns.length nc) ns (.slice oa ds.length oc) ds))) = q9 := ⟨_, rfl⟩
   rw [hov4] at hc4 hd4 hd4z
   have HOV4 := hJQ hov4
   clear hov4 HKept x0 x1 x2 x3 x4 x5 hg4 hown
   cases ov4
   rotate_left
   ·obtain rfl := hd4z rfl
    have HRN : Hid (nrmN (F + 1) (.mk op n s (pK k) ns (l.map pC)) left = none) := by
     show normN cstB labsB (F + 1) _ left = none
     rw [normN_mk]
     obtain ⟨i1, i2, i3⟩ := HInv.out
     rw [hjl'.out, take_all] at i2 i3
     cases hNL : normL (nrmN F) (l.map pC) left with
     | none => rfl
     | some q =>
       obtain ⟨ys, m⟩ := q
       obtain ⟨i4, i5, i6, i7⟩ := i3 ys m hNL
       have h1 := HOV4.out
       rw [i4, HPO.out, i5] at h1
       have h2 : smallC (.mk op n s (pK k) ns ys) = false := by cases hq : smallC (.mk op n s (pK k) ns ys) with
        | true => rw [hq] at h1; cases h1
        | false => rfl
       show hNQ cstB labsB _ (.mk op n s (pK k) ns ys) m = none
       unfold hNQ
       rw [if_pos h2]
    have HZ : Hid (conV zeroD = .agg #[.int .i64 0, .int .i64 0, .string ⟨#[]⟩, .slice none 0 0, .slice none 0 0, .slice none 0 0]) := rfl
    rw [HZ.out]
    have hr1 := gRQ w4 (w.heap.size + 2) #[.int .i64 0, .int .i64 0, .string ⟨#[]⟩, .slice none 0 0, .slice none 0 0, .slice none 0 0]
    have kR5 := (hr1.block (w.heap.size + 1) (hLQ kR4) (fun e => by have e2 : w.heap.size + 1 = w.heap.size + 2 := oJQ e; omega)).trans kR4
    have Ct5 := hc4.grown hr1 (by intro e; have e2 : w.heap.size + 2 = kb := oJQ e; omega)
    have hG5 := gOQ hG4 hr1 (by omega)
    obtain ⟨j0, j1, fj0, fj1⟩ := Ct5.cells
    have hr2 := gRQ (w4.setRow (w.heap.size + 2) #[.int .i64 0, .int .i64 0, .string ⟨#[]⟩, .slice none 0 0, .slice none 0 0, .slice none 0 0]) (w.heap.size + 1) #[.int .i64 0, .int .i64 0, .string ⟨#[]⟩, .slice none 0 0, .slice none 0 0, .slice none 0 0]
    have HRF := hJQ (setRow_heap (w4.setRow (w.heap.size + 2) #[.int .i64 0, .int .i64 0, .string ⟨#[]⟩, .slice none 0 0, .slice none 0 0, .slice none 0 0]) (w.heap.size + 1) _ #[.int .i64 0, .int .i64 0, .string ⟨#[]⟩, .slice none 0 0, .slice none 0 0, .slice none 0 0] _ _ kR5)
    have HGF := hJQ (gOQ hG5 hr2 (by omega))
    have HCF := hJQ (Ct5.grown hr2 (by intro e; have e2 : w.heap.size + 1 = kb := oJQ e; omega))
    clear hr1 hr2 HInv HKp HM HOut HO4 hd4 hd4z
    go_wp2_with (first | (refine wpList_store_row rfl 28 _ _ rfl (w.heap.size + 2) _ rfl rfl 28 _ kO4 cIQ rfl (all_one _ rfl) ?_) | (refine wpList_store_row rfl 28 _ _ rfl (w.heap.size + 1) _ rfl rfl 28 _ kR5 cIQ rfl (all_one _ rfl) ?_))
    refine bodyPost_ret (results_cell_row rfl _ _ (w.heap.size + 1) 28 #[.int .i64 0, .int .i64 0, .string ⟨#[]⟩, .slice none 0 0, .slice none 0 0, .slice none 0 0] (0, 0) _ rfl HRF.out Tryz.underlying28 rfl cIQ) rfl ?_
    exact ⟨zeroD, true, st, by rw [HZ.out], HCF.out, HGF.out, zero_con _ _, zero_size, fun _ => rfl, fun y m hh => by rw [HRN.out] at hh; cases hh⟩
   ·obtain rfl := hd4 rfl
    have hsm : smallC (pC (ConD.mk op n s k (.slice na ns.length nc) ns (.slice oa ds.length oc) ds)) = true := by cases hq : smallC (pC (ConD.mk op n s k (.slice na ns.length nc) ns (.slice oa ds.length oc) ds)) with
     | true => rfl
     | false => have := HOV4.out; rw [hq] at this; cases ov <;> cases this
    obtain ⟨m, hst, hml, HRes0, hfr0, hbo0⟩ : ∃ m : Nat, st = 10000 - (m : Int)/\m<=left/\nrmN (F + 1) (.mk op n s (pK k) ns (l.map pC)) left = hNQ cstB labsB (nrmN F) (pC (ConD.mk op n s k (.slice na ns.length nc) ns (.slice oa ds.length oc) ds)) m/\frmC (pC (ConD.mk op n s k (.slice na ns.length nc) ns (.slice oa ds.length oc) ds)) = true/\bndC (pC (ConD.mk op n s k (.slice na ns.length nc) ns (.slice oa ds.length oc) ds)) := by
     obtain ⟨i1, i2, i3⟩ := HInv.out
     rw [hjl'.out, take_all] at i2 i3
     cases hNL : normL (nrmN F) (l.map pC) left with
     | none => have := i2 hNL; have h1 := HOV4.out; rw [this] at h1; cases h1
     | some q =>
       obtain ⟨ys, m⟩ := q
       obtain ⟨i4, i5, i6, i7⟩ := i3 ys m hNL
       refine ⟨m, i6, i7, ?_, ?_, ?_⟩
       ·show normN cstB labsB (F + 1) _ left = _
        rw [normN_mk, HPO.out, i5]
        show (match normL (nrmN F) (l.map pC) left with | none => none | some (l', m) => hNQ cstB labsB (nrmN F) (.mk op n s (pK k) ns l') m) = _
        rw [hNL]
       ·rw [HPO.out, i5]; exact (mid_form F op n s (pK k) ns (l.map pC) left ys m HFR.out hNL).1
       ·rw [HPO.out, i5]
        obtain ⟨b1, b2, b3, b4⟩ := (bndC_mk ..).1 HBF.out
        exact (bndC_mk ..).2 ⟨b1, b2, b3, normL_mem (Pr := bndC) (nrmN F) (l.map pC) left ys m (fun x hx a b d hn => norm_bnd F x a b d (HFS.out.2.2.2.1 x hx) (b4 x hx) hn) hNL⟩
    have HRes := hJQ HRes0
    have HFr := hJQ hfr0
    have HBo := hJQ hbo0
    have HSm := hJQ hsm
    rw [HVO.out]
    have hr1 := gRQ w4 (w.heap.size + 2) #[.int .i64 op, .int .i64 n, .string s, .slice ka kn kc, .slice na ns.length nc, .slice oa ds.length oc]
    have kO5 := setRow_heap w4 (w.heap.size + 2) _ #[.int .i64 op, .int .i64 n, .string s, .slice ka kn kc, .slice na ns.length nc, .slice oa ds.length oc] _ _ kO4
    have kR5 := (hr1.block (w.heap.size + 1) (hLQ kR4) (fun e => by have e2 : w.heap.size + 1 = w.heap.size + 2 := oJQ e; omega)).trans kR4
    have Ct5 : CtAt (w4.setRow (w.heap.size + 2) #[.int .i64 op, .int .i64 n, .string s, .slice ka kn kc, .slice na ns.length nc, .slice oa ds.length oc]) kb st false := hc4.grown hr1 (by intro e; have e2 : w.heap.size + 2 = kb := oJQ e; omega)
    have hG5 := gOQ hG4 hr1 (by omega)
    have HO5 := hJQ (HO4.out.grown hr1 (fun q hq hp => hp.2 (oJQ hq).symm))
    obtain ⟨j0, j1, fj0, fj1⟩ := Ct5.cells
    clear hr1 HInv HKp HM HOut HO4 hd4 hd4z HRes0 hfr0 hbo0 hsm
    go_upto_region 13 with (refine wpList_store_row rfl 28 _ _ rfl (w.heap.size + 2) _ rfl rfl 28 _ kO4 cIQ rfl (all_one _ rfl) ?_)
    clear j0 j1 fj0 fj1 kO4 hG4 kR4 hc4
    generalize w4.setRow (w.heap.size + 2) #[.int .i64 op, .int .i64 n, .string s, .slice ka kn kc, .slice na ns.length nc, .slice oa ds.length oc] = V5 at *
    have HG5 := hJQ hG5
    have hltV5 := hG5.size
    have HPk := hJQ hPk
    clear hG5 hPk
    obtain ⟨x0, x1, x2, x3, x4, x5⟩ := cnQ kO5
    have hdw : dCQ (pC (ConD.mk op n s k (.slice na ns.length nc) ns (.slice oa ds.length oc) ds))<=400/\sizeC (pC (ConD.mk op n s k (.slice na ns.length nc) ns (.slice oa ds.length oc) ds))<=20000 := by have := smallC_iff.1 HSm.out; exact ⟨this.2, this.1⟩
    have HEta : Hid (Calls Tryz.prog 57 #[.agg #[.int .i64 op, .int .i64 n, .string s, .slice ka kn kc, .slice na ns.length nc, .slice oa ds.length oc]] V5 fun e w' => e = .returned (.bool (etaC (pC (ConD.mk op n s k (.slice na ns.length nc) ns (.slice oa ds.length oc) ds))))/\Below V5.heap.size V5 w') := by
     have := eta_any _ (ConD.mk op n s k (.slice na ns.length nc) ns (.slice oa ds.length oc) ds) V5 HO5.out HFr.out (by omega)
     rw [HVO.out] at this
     exact this
    have hds12 : Hid (op = 12->∃ fd gd, ds = [fd, gd]) := fun h12 => by
     have := HFr.out
     rw [HPO.out] at this
     subst h12
     exact two_parts this
    by_cases q12 : op = 12
    ·obtain ⟨fd, gd, hds0⟩ := hds12.out q12
     have hds := hJQ hds0
     clear hds0
     have hrow2 : RowP (fun b => (P b/\b ≠ w.heap.size + 1)/\b ≠ w.heap.size + 2) V5 (.slice oa [fd, gd].length oc) [fd, gd].length (cCQ [fd, gd]) := by have := HO5.out.parts.row; rw [hds.out] at this; exact this
     obtain ⟨pb, pof, hoa, ⟨hPb, hPl⟩, u0, u1, u2, u3, u4, u5⟩ := part_0 (x := fd) (l := [gd]) hrow2
     subst hoa
     obtain ⟨v0, v1, v2, v3, v4, v5⟩ := part_1 (x := fd) (y := gd) (l := []) hrow2
     have hfc : IsCon (fun b => (P b/\b ≠ w.heap.size + 1)/\b ≠ w.heap.size + 2) V5 fd := HO5.out.parts.all fd (by rw [hds.out]; simp)
     have hgc : IsCon (fun b => (P b/\b ≠ w.heap.size + 1)/\b ≠ w.heap.size + 2) V5 gd := HO5.out.parts.all gd (by rw [hds.out]; simp)
     have hl0 : (0 : Int) < ds.length := by rw [hds.out]; simp
     have hl1 : (1 : Int) < ds.length := by rw [hds.out]; simp
     have hfr2 := HFr.out
     have hbo2 := HBo.out
     rw [HPO.out] at hfr2 hbo2
     have hff : frmC (pC fd) = true := (fSQ hfr2).2.2.2.1 _ (by rw [hds.out]; simp)
     have hfg : frmC (pC gd) = true := (fSQ hfr2).2.2.2.1 _ (by rw [hds.out]; simp)
     have hbf : bndC (pC fd) := bnd_part hbo2 (by rw [hds.out]; simp)
     have hbg : bndC (pC gd) := bnd_part hbo2 (by rw [hds.out]; simp)
     have hsm2 := HSm.out
     clear hrow2 hfr2 hbo2
     have q12b : (op == 12) = true := beq_iff_eq.2 q12
     by_cases q11 : fd.op = 11
     ·skip
      have hG5 := HG5.out
      have hlo5 := hLQ kO5
      obtain ⟨fop, fn, fs, fk, fns, fl, fka, fkn, fkc, fna, fnc, fa, fc, rfl, hfk, _⟩ := cSQ hfc
      obtain ⟨gop, gn, gs, gk, gns, gl, gka, gkn, gkc, gna, gnc, ga, gc, rfl, hgk, _⟩ := cSQ hgc
      have q11 : fop = 11 := q11
      subst q11
      simp only [ConD.op, ConD.n, ConD.s, ConD.k, ConD.nv, ConD.lv, hfk] at u0 u1 u2 u3 u4 u5
      simp only [ConD.op, ConD.n, ConD.s, ConD.k, ConD.nv, ConD.lv, hgk] at v0 v1 v2 v3 v4 v5
      have hff2 := hff
      rw [pMQ] at hff2
      obtain ⟨yd, hfl⟩ := one_part hff2 rfl
      have u5 : V5.cell? ⟨pb, pof + 5, none⟩ = some (.slice fa 1 fc) := by rw [u5, hfl]; rfl
      have HCV : Hid (conV (.mk 11 fn fs fk (.slice fna fns.length fnc) fns (.slice fa fl.length fc) fl) = .agg #[.int .i64 11, .int .i64 fn, .string fs, .slice fka fkn fkc, .slice fna fns.length fnc, .slice fa 1 fc]) := by
       show _ = _
       rw [cVQ hfk, hfl]; rfl
      have HGV : Hid (conV (ConD.mk gop gn gs gk (.slice gna gns.length gnc) gns (.slice ga gl.length gc) gl) = .agg #[.int .i64 gop, .int .i64 gn, .string gs, .slice gka gkn gkc, .slice gna gns.length gnc, .slice ga gl.length gc]) := cVQ hgk
      have hszp := pSQ (pC (.mk 11 fn fs fk (.slice fna fns.length fnc) fns (.slice fa fl.length fc) fl)) op n s (pK k) ns (ds.map pC) (by rw [hds.out]; simp)
      have hszg := pSQ (pC (ConD.mk gop gn gs gk (.slice gna gns.length gnc) gns (.slice ga gl.length gc) gl)) op n s (pK k) ns (ds.map pC) (by rw [hds.out]; simp)
      rw [← HPO.out] at hszp hszg
      have hvy : valC (pC yd) = true := by
       have h1 := pSQ (pC yd) 11 fn fs (pK fk) fns (fl.map pC) (by rw [hfl]; simp)
       rw [← pMQ 11 fn fs fk (.slice fna fns.length fnc) fns (.slice fa fl.length fc) fl] at h1
       exact val_iff.2 ⟨by omega, by omega, (fSQ hff2).2.2.2.1 _ (by rw [hfl]; simp)⟩
      have hvg : valC (pC (ConD.mk gop gn gs gk (.slice gna gns.length gnc) gns (.slice ga gl.length gc) gl)) = true := val_iff.2 ⟨by omega, by omega, hfg⟩
      have hby : bndC (pC yd) := by
       have := hbf
       rw [pMQ] at this
       exact bnd_part this (by rw [hfl]; simp)
      have hBe : ∀ U, V5.grownBy U none->Calls Tryz.prog 96 #[.pointer (some ⟨kb, 0, none⟩), .agg #[.int .i64 11, .int .i64 fn, .string fs, .slice fka fkn fkc, .slice fna fns.length fnc, .slice fa 1 fc], .agg #[.int .i64 gop, .int .i64 gn, .string gs, .slice gka gkn gkc, .slice gna gns.length gnc, .slice ga gl.length gc]] U (BetaOk kb (sC9 [pC (ConD.mk gop gn gs gk (.slice gna gns.length gnc) gns (.slice ga gl.length gc) gl)] 0 (pC yd)) st U) := fun U hU => by
       have hfu := hfc.grown hU (by nofun)
       rw [hfl] at hfu
       have := beta_any _ kb fn fs fk (.slice fna fns.length fnc) fns (.slice fa fl.length fc) yd (ConD.mk gop gn gs gk (.slice gna gns.length gnc) gns (.slice ga gl.length gc) gl) st U (HEK.out.grown (gBQ hG5 (fNQ hU (some kb)))) (by rw [hfl]; exact hfu) (hgc.grown hU (by nofun)) (fun hp => hP hp.1.1) hvy hvg hby hbg (Ct5.grown hU (by nofun)) (by omega) (by omega)
       rw [← HCV.out, ← HGV.out]
       rw [show ConD.mk 11 fn fs fk (.slice fna fns.length fnc) fns (.slice fa fl.length fc) fl = ConD.mk 11 fn fs fk (.slice fna fns.length fnc) fns (.slice fa fl.length fc) [yd] by rw [hfl]]
       rw [show ConD.mk 11 fn fs fk (.slice fna fns.length fnc) fns (.slice fa fl.length fc) [yd] = ConD.mk 11 fn fs fk (.slice fna fns.length fnc) fns (.slice fa fl.length fc) [yd] from rfl] at this
       exact this
      have HBe := hJQ hBe
      have HHead : Hid (hNQ cstB labsB (nrmN F) (pC (ConD.mk op n s k (.slice na ns.length nc) ns (.slice (some ⟨pb, pof, none⟩) ds.length oc) ds)) m = betaN F (sC9 [pC (ConD.mk gop gn gs gk (.slice gna gns.length gnc) gns (.slice ga gl.length gc) gl)] 0 (pC yd)) m) := by
       show _ = _
       rw [HPO.out, hds.out] at hsm2 ⊢
       subst hfl
       subst q12
       unfold hNQ
       rw [if_neg (by rw [hsm2]; decide), if_pos (show (Cn.mk 12 n s (pK k) ns _).op = 12/\_ from ⟨rfl, by rw [List.map_cons, pMQ]; rfl⟩)]
       rw [List.map_cons, List.map_cons, List.map_nil, pMQ 11]
       cases m <;> rfl
      have hbT : bndC (sC9 [pC (ConD.mk gop gn gs gk (.slice gna gns.length gnc) gns (.slice ga gl.length gc) gl)] 0 (pC yd)) := bnd_subst _ (fun x hx => by rw [List.mem_singleton.1 hx]; exact hbg) _ 0 hby
      generalize hT : sC9 [pC (ConD.mk gop gn gs gk (.slice gna gns.length gnc) gns (.slice ga gl.length gc) gl)] 0 (pC yd) = T at *
      have hpbk : pb ≠ kb := fun e => by rw [e] at hPb; exact hP hPb.1.1
      have hln2 : Hid (ds.length = 2) := by show _ = _; rw [hds.out]; rfl
      have SALL : ∀ U, V5.grownBy U (some kb)->U.heap[w.heap.size + 2]? = some (.cells #[.int .i64 op, .int .i64 n, .string s, .slice ka kn kc, .slice na ns.length nc, .slice (some ⟨pb, pof, none⟩) ds.length oc] 28 (0, 0))->(fun w9 => w9.cell? ⟨w.heap.size + 2, 5, none⟩ = some (.slice (some ⟨pb, pof, none⟩) 2 oc)/\w9.cell? ⟨pb, pof, none⟩ = some (.int .i64 11)/\w9.cell? ⟨pb, pof + 1, none⟩ = some (.int .i64 fn)/\w9.cell? ⟨pb, pof + 2, none⟩ = some (.string fs)/\w9.cell? ⟨pb, pof + 3, none⟩ = some (.slice fka fkn fkc)/\w9.cell? ⟨pb, pof + 4, none⟩ = some (.slice fna fns.length fnc)/\w9.cell? ⟨pb, pof + 5, none⟩ = some (.slice fa 1 fc)/\w9.cell? ⟨pb, pof + 6, none⟩ = some (.int .i64 gop)/\w9.cell? ⟨pb, pof + 6 + 1, none⟩ = some (.int .i64 gn)/\w9.cell? ⟨pb, pof + 6 + 2, none⟩ = some (.string gs)/\w9.cell? ⟨pb, pof + 6 + 3, none⟩ = some (.slice gka gkn gkc)/\w9.cell? ⟨pb, pof + 6 + 4, none⟩ = some (.slice gna gns.length gnc)/\w9.cell? ⟨pb, pof + 6 + 5, none⟩ = some (.slice ga gl.length gc)) U := fun U hU hO => by
       have cU : ∀ (o : Nat) (v : Value), V5.cell? ⟨pb, o, none⟩ = some v->U.cell? ⟨pb, o, none⟩ = some v := fun o v hc => World.grownBy.cell (a := ⟨pb, o, none⟩) hU hc (fun e => hpbk (oJQ e))
       exact ⟨(congrArg (fun q => some (Value.slice (some ⟨pb, pof, none⟩) q oc)) hln2.out) ▸ (cnQ hO).2.2.2.2.2, cU _ _ u0, cU _ _ u1, cU _ _ u2, cU _ _ u3, cU _ _ u4, cU _ _ u5, cU _ _ v0, cU _ _ v1, cU _ _ v2, cU _ _ v3, cU _ _ v4, cU _ _ v5⟩
      have HSA := hJQ SALL
      have HT := hJQ hT
      have HBT := hJQ hbT
      have HFL := hJQ hfl
      clear q12 SALL hBe hfl hff2 hff hfg hbf hbg hvy hvg hby hszp hszg hfc hgc hfk hgk u1 u2 u3 u4 u5 v0 v1 v2 v3 v4 v5 hsm2 hT hbT HEta
      go_upto_region 14 with fail
      clear u0
      have hdr := gDQ V5
      have S0 := HSA.out V5.drew (fNQ hdr _) kO5
      refine wp_region_held_drew (S := (fun w9 => w9.cell? ⟨w.heap.size + 2, 5, none⟩ = some (.slice (some ⟨pb, pof, none⟩) 2 oc)/\w9.cell? ⟨pb, pof, none⟩ = some (.int .i64 11)/\w9.cell? ⟨pb, pof + 1, none⟩ = some (.int .i64 fn)/\w9.cell? ⟨pb, pof + 2, none⟩ = some (.string fs)/\w9.cell? ⟨pb, pof + 3, none⟩ = some (.slice fka fkn fkc)/\w9.cell? ⟨pb, pof + 4, none⟩ = some (.slice fna fns.length fnc)/\w9.cell? ⟨pb, pof + 5, none⟩ = some (.slice fa 1 fc)/\w9.cell? ⟨pb, pof + 6, none⟩ = some (.int .i64 gop)/\w9.cell? ⟨pb, pof + 6 + 1, none⟩ = some (.int .i64 gn)/\w9.cell? ⟨pb, pof + 6 + 2, none⟩ = some (.string gs)/\w9.cell? ⟨pb, pof + 6 + 3, none⟩ = some (.slice gka gkn gkc)/\w9.cell? ⟨pb, pof + 6 + 4, none⟩ = some (.slice gna gns.length gnc)/\w9.cell? ⟨pb, pof + 6 + 5, none⟩ = some (.slice ga gl.length gc))) (by kernel_rfl) S0 (fun hHeld => ?_)
      refine tks (b := ?_) (by kernel_rfl) (fun _ _ _ _ _ h => h) S0 10 [0, 1, 2, 3, 4, 5, 6, 7, 8, 9] (by kernel_rfl) ?_ ?_
      rotate_left
      ·iterate 10 (refine yc (v := ?_) rfl rfl (by rfl) (fun w9 hSw => ?_) ?_; rotate_left; (focus go_simp; try rfl); simp only [Act.put, l1Q, l2Q, l3Q])
       exact rfl
      refine rd1 10 (by kernel_rfl) (by rfl) (fun K hK => ?_)
      go_simp
      go_at_call 96
      refine (HBe.out V5.drew hdr).mono ?_
      rintro e w6 ⟨d6, ov6, rfl, hc6, hg6', hov6, hd6, hd6z⟩
      have hg6 : V5.grownBy w6 (some kb) := gBQ (fNQ hdr _) hg6'
      have kO6 := (hg6.block _ (hLQ kO5) (fun e => by have e2 : w.heap.size + 2 = kb := oJQ e; omega)).trans kO5
      have hlo6 := hLQ kO6
      have kR6 := (hg6.block _ (hLQ kR5) (fun e => by have e2 : w.heap.size + 1 = kb := oJQ e; omega)).trans kR5
      have hG6 := gBQ HG5.out hg6
      have hs6 := hg6.size
      refine hK.out _ _ (HSA.out _ hg6 kO6) (fun _ => ?_)
      clear hK K
      refine rd1 11 (by kernel_rfl) (by rfl) (fun K hK => ?_)
      go_simp
      go_at_call 54
      have HNext : Calls Tryz.prog 54 #[.pointer (some ⟨kb, 0, none⟩), conV d6] w6 (NOk (fun b => P b/\b ≠ w.heap.size + 1) kb (nrmN (F + 1) (.mk op n s (pK k) ns (l.map pC)) left) w6) := by
       rw [HRes.out, HHead.out]
       cases ov6 with
       | true =>
         have hres : betaN F T m = none := by
          cases m with
          | zero => rfl
          | succ m' =>
            have h1 : (decide (st < 10000) && valC T) = false := by cases hq : (decide (st < 10000) && valC T) with
             | false => rfl
             | true => rw [hq] at hov6; cases hov6
            rw [decide_eq_true (show st < 10000 by omega)] at h1
            have h2 : valC T = false := h1
            show (if valC T = true then nrmN F T m' else none) = none
            rw [if_neg (by rw [h2]; decide)]
         rw [hres]
         have hz : IsCon (fun _ => True) w6 zeroD := zero_con _ _
         refine (norm_any_over (fun b => P b/\b ≠ w.heap.size + 1) d6 kb (st + 1) w6 ⟨fun _ => True, by rw [hd6z rfl]; exact zero_con _ _⟩ hc6)
       | false =>
         obtain ⟨hd7, hd8⟩ := hd6 rfl
         have h1 : decide (st < 10000) = true/\valC T = true := by
          have h2 : (decide (st < 10000) && valC T) = true := by cases hq : (decide (st < 10000) && valC T) with
           | true => rfl
           | false => rw [hq] at hov6; cases hov6
          exact Bool.and_eq_true_iff.1 h2
         have h3 := of_decide_eq_true h1.1
         obtain ⟨t1, t2, t3⟩ := val_iff.1 h1.2
         cases m with
         | zero => omega
         | succ m' =>
           show Calls _ _ _ _ (NOk _ kb (if valC T = true then nrmN F T m' else none) w6)
           rw [if_pos h1.2, ← hd8]
           refine IHF d6 (fun b => P b/\b ≠ w.heap.size + 1) w6 m' (HEK.out.grown hG6) (hd7.mono (fun b hb _ => by have hb : V5.drew.heap.size<=b := hb; have h9 : V5.drew.heap.size = V5.heap.size := rfl; exact ⟨hup0 b (by omega), by omega⟩)) (fun hp => hP hp.1) (fun b hb => ⟨hup0 b (by have := hG6.size; omega), by have := hG6.size; omega⟩) (by rw [hd8]; exact t3) (by rw [hd8]; exact HBT.out) (by rw [show (10000 - (m' : Int)) = st + 1 by omega]; exact hc6) (by omega) ?_ (by rw [hd8]; exact t2) (by rw [hd8]; exact t1)
           rw [hd8]
           have h8 : (m' + 1) * 401<=left * 401 := Nat.mul_le_mul_right _ hml
           omega
      refine HNext.mono ?_
      rintro e w7 ⟨d7, ov7, st7, rfl, hc7, hg7, hd7, hz7, hno7, hyes7⟩
      obtain ⟨xop, xn, xs, xk, xns, xl, xka, xkn, xkc, xna, xnc, xa, xc, rfl, hxk, _⟩ := cSQ hd7
      have hxv := cVQ (op := xop) (n := xn) (s := xs) (nv := .slice xna xns.length xnc) (lv := .slice xa xl.length xc) (ns := xns) (l := xl) hxk
      rw [hxv]
      have kO7 := (hg7.block _ (hLQ kO6) (fun e => by have e2 : w.heap.size + 2 = kb := oJQ e; omega)).trans kO6
      have kR7 := (hg7.block _ (hLQ kR6) (fun e => by have e2 : w.heap.size + 1 = kb := oJQ e; omega)).trans kR6
      have hG7 := gBQ hG6 hg7
      have hg57 := gBQ hg6 hg7
      have hrw := gRQ w7 (w.heap.size + 1) #[.int .i64 xop, .int .i64 xn, .string xs, .slice xka xkn xkc, .slice xna xns.length xnc, .slice xa xl.length xc]
      have kO8 := (hrw.block _ (hLQ kO7) (fun e => by have e2 : w.heap.size + 2 = w.heap.size + 1 := oJQ e; omega)).trans kO7
      have S8 : (fun w9 => w9.cell? ⟨w.heap.size + 2, 5, none⟩ = some (.slice (some ⟨pb, pof, none⟩) 2 oc)/\w9.cell? ⟨pb, pof, none⟩ = some (.int .i64 11)/\w9.cell? ⟨pb, pof + 1, none⟩ = some (.int .i64 fn)/\w9.cell? ⟨pb, pof + 2, none⟩ = some (.string fs)/\w9.cell? ⟨pb, pof + 3, none⟩ = some (.slice fka fkn fkc)/\w9.cell? ⟨pb, pof + 4, none⟩ = some (.slice fna fns.length fnc)/\w9.cell? ⟨pb, pof + 5, none⟩ = some (.slice fa 1 fc)/\w9.cell? ⟨pb, pof + 6, none⟩ = some (.int .i64 gop)/\w9.cell? ⟨pb, pof + 6 + 1, none⟩ = some (.int .i64 gn)/\w9.cell? ⟨pb, pof + 6 + 2, none⟩ = some (.string gs)/\w9.cell? ⟨pb, pof + 6 + 3, none⟩ = some (.slice gka gkn gkc)/\w9.cell? ⟨pb, pof + 6 + 4, none⟩ = some (.slice gna gns.length gnc)/\w9.cell? ⟨pb, pof + 6 + 5, none⟩ = some (.slice ga gl.length gc)) (w7.setRow (w.heap.size + 1) #[.int .i64 xop, .int .i64 xn, .string xs, .slice xka xkn xkc, .slice xna xns.length xnc, .slice xa xl.length xc]) := by
       obtain ⟨_, s1, s2, s3, s4, s5, s6, s7, s8, s9, s10, s11, s12⟩ := HSA.out _ hg57 kO7
       have cU : ∀ (o : Nat) (v : Value), w7.cell? ⟨pb, o, none⟩ = some v->(w7.setRow (w.heap.size + 1) #[.int .i64 xop, .int .i64 xn, .string xs, .slice xka xkn xkc, .slice xna xns.length xnc, .slice xa xl.length xc]).cell? ⟨pb, o, none⟩ = some v := fun o v hc => World.grownBy.cell (a := ⟨pb, o, none⟩) hrw hc (fun e => hPb.1.2 (oJQ e))
       exact ⟨(congrArg (fun q => some (Value.slice (some ⟨pb, pof, none⟩) q oc)) hln2.out) ▸ (cnQ kO8).2.2.2.2.2, cU _ _ s1, cU _ _ s2, cU _ _ s3, cU _ _ s4, cU _ _ s5, cU _ _ s6, cU _ _ s7, cU _ _ s8, cU _ _ s9, cU _ _ s10, cU _ _ s11, cU _ _ s12⟩
      have HRF := hJQ (setRow_heap w7 (w.heap.size + 1) _ #[.int .i64 xop, .int .i64 xn, .string xs, .slice xka xkn xkc, .slice xna xns.length xnc, .slice xa xl.length xc] _ _ kR7)
      have HGF := hJQ (gOQ hG7 hrw (by omega))
      have HCF := hJQ (hc7.grown hrw (by intro e; have e2 : w.heap.size + 1 = kb := oJQ e; omega))
      have HDF := hJQ ((hd7.grown hrw (fun q hq hp => hp.2 (oJQ hq).symm)).mono (Q := P) (fun b hb _ => hb.1))
      have HXV := hJQ hxv
      have HN7 := hJQ hno7
      have HY7 := hJQ hyes7
      have HZ7 := hJQ hz7
      refine hK.out _ _ (HSA.out _ hg57 kO7) (fun _ => ?_)
      clear hK K
      clear HNext hyes7 hno7 hxv hd7 hz7 kO8
      refine held_store 12 (by kernel_rfl) (by rfl) (by rfl) (by rfl) 28 _ _ (by rfl) (w.heap.size + 1) #[.int .i64 xop, .int .i64 xn, .string xs, .slice xka xkn xkc, .slice xna xns.length xnc, .slice xa xl.length xc] (by rfl) (by rfl) 28 _ kR7 cIQ rfl (all_one _ rfl) S8 ?_
      refine wpAnyH_done (by kernel_rfl) ?_ _
      clear hrw
      go_wp2_with fail
      refine bodyPost_ret (results_cell_row rfl _ _ (w.heap.size + 1) 28 #[.int .i64 xop, .int .i64 xn, .string xs, .slice xka xkn xkc, .slice xna xns.length xnc, .slice xa xl.length xc] (0, 0) _ rfl HRF.out Tryz.underlying28 rfl cIQ) rfl ?_
      exact ⟨_, ov7, st7, by rw [HXV.out], HCF.out, HGF.out, HDF.out, HZ7.out, HN7.out, HY7.out⟩
     ·have q11b : (fd.op == 11) = false := nEQ q11
      have hno11 : op ≠ 11 := by omega
      have hef : etaC (pC (ConD.mk op n s k (.slice na ns.length nc) ns (.slice (some ⟨pb, pof, none⟩) ds.length oc) ds)) = false := by
       rw [HPO.out]
       have h7 : ((Cn.mk op n s (pK k) ns (ds.map pC)).op == 11) = false := nEQ hno11
       unfold etaC
       rw [h7]; rfl
      have HHead : Hid (hNQ cstB labsB (nrmN F) (pC (ConD.mk op n s k (.slice na ns.length nc) ns (.slice (some ⟨pb, pof, none⟩) ds.length oc) ds)) m = some (pC (ConD.mk op n s k (.slice na ns.length nc) ns (.slice (some ⟨pb, pof, none⟩) ds.length oc) ds), m)) := by
       show _ = _
       unfold hNQ
       rw [if_neg (by rw [hsm2]; decide), if_neg (fun hh => ?_), if_neg (by rw [hef]; decide)]
       have h8 := hh.2
       rw [HPO.out, hds.out] at h8
       have h8 : (pC fd).op = 11 := h8
       rw [ConD.op_pure] at h8
       exact q11 h8
      rw [hef] at HEta
      clear q12 q11 hef hno11 hsm2 hfc hgc hff hfg hbf hbg hl1 hds u1 u2 u3 u4 u5 v0 v1 v2 v3 v4 v5
      go_wp2_with fail
      refine HEta.out.mono ?_
      rintro e w6 ⟨rfl, hb6⟩
      have kR6 := (hb6.block _ (hLQ kR5)).trans kR5
      have kO6 := (hb6.block _ (hLQ kO5)).trans kO5
      have Ct6 := Ct5.grown (gLQ hb6) (by nofun)
      have hG6 := gBQ HG5.out (fNQ (gLQ hb6) (some kb))
      have HO6 := iBQ HO5.out hb6
      have hs6 := hb6.size
      obtain ⟨z0, z1, z2, z3, z4, z5⟩ := cnQ kO6
      have hrw := gRQ w6 (w.heap.size + 1) #[.int .i64 op, .int .i64 n, .string s, .slice ka kn kc, .slice na ns.length nc, .slice (some ⟨pb, pof, none⟩) ds.length oc]
      have HRF := hJQ (setRow_heap w6 (w.heap.size + 1) _ #[.int .i64 op, .int .i64 n, .string s, .slice ka kn kc, .slice na ns.length nc, .slice (some ⟨pb, pof, none⟩) ds.length oc] _ _ kR6)
      have HGF := hJQ (gOQ hG6 hrw (by omega))
      have HCF := hJQ (Ct6.grown hrw (by intro e; have e2 : w.heap.size + 1 = kb := oJQ e; omega))
      have HDF := hJQ ((HO6.grown hrw (fun q hq hp => hp.1.2 (oJQ hq).symm)).mono (Q := P) (fun b hb _ => hb.1.1))
      clear hrw HEta hG6 HO6 Ct6 hb6 kO6 kO5 kR5 Ct5
      go_wp2_with (refine wpList_store_row rfl 28 _ _ rfl (w.heap.size + 1) _ rfl rfl 28 _ kR6 cIQ rfl (all_one _ rfl) ?_)
      refine bodyPost_ret (results_cell_row rfl _ _ (w.heap.size + 1) 28 #[.int .i64 op, .int .i64 n, .string s, .slice ka kn kc, .slice na ns.length nc, .slice (some ⟨pb, pof, none⟩) ds.length oc] (0, 0) _ rfl HRF.out Tryz.underlying28 rfl cIQ) rfl ?_
      exact ⟨(ConD.mk op n s k (.slice na ns.length nc) ns (.slice (some ⟨pb, pof, none⟩) ds.length oc) ds), false, st, by rw [HVO.out], HCF.out, HGF.out, HDF.out, hdw.2, (fun hh => by rw [HRes.out, HHead.out] at hh; cases hh), (fun y' m' hh => by
       rw [HRes.out, HHead.out] at hh
       obtain ⟨rfl, rfl⟩ := Prod.mk.inj (oJQ hh)
       exact ⟨rfl, rfl, hst⟩)⟩
    ·have q12b : (op == 12) = false := nEQ q12
     have hsm2 := HSm.out
     obtain ⟨be, hbe⟩ : ∃ q9, etaC (pC (ConD.mk op n s k (.slice na ns.length nc) ns (.slice oa ds.length oc) ds)) = q9 := ⟨_, rfl⟩
     rw [hbe] at HEta
     cases be
     ·have HHead : Hid (hNQ cstB labsB (nrmN F) (pC (ConD.mk op n s k (.slice na ns.length nc) ns (.slice oa ds.length oc) ds)) m = some (pC (ConD.mk op n s k (.slice na ns.length nc) ns (.slice oa ds.length oc) ds), m)) := by
       show _ = _
       unfold hNQ
       rw [if_neg (by rw [hsm2]; decide), if_neg (fun hh => ?_), if_neg (by rw [hbe]; decide)]
       have h8 := hh.1
       rw [HPO.out] at h8
       exact q12 h8
      clear q12 hbe hsm2
      go_wp2_with fail
      refine HEta.out.mono ?_
      rintro e w6 ⟨rfl, hb6⟩
      have kR6 := (hb6.block _ (hLQ kR5)).trans kR5
      have kO6 := (hb6.block _ (hLQ kO5)).trans kO5
      have Ct6 := Ct5.grown (gLQ hb6) (by nofun)
      have hG6 := gBQ HG5.out (fNQ (gLQ hb6) (some kb))
      have HO6 := iBQ HO5.out hb6
      have hs6 := hb6.size
      obtain ⟨z0, z1, z2, z3, z4, z5⟩ := cnQ kO6
      have hrw := gRQ w6 (w.heap.size + 1) #[.int .i64 op, .int .i64 n, .string s, .slice ka kn kc, .slice na ns.length nc, .slice oa ds.length oc]
      have HRF := hJQ (setRow_heap w6 (w.heap.size + 1) _ #[.int .i64 op, .int .i64 n, .string s, .slice ka kn kc, .slice na ns.length nc, .slice oa ds.length oc] _ _ kR6)
      have HGF := hJQ (gOQ hG6 hrw (by omega))
      have HCF := hJQ (Ct6.grown hrw (by intro e; have e2 : w.heap.size + 1 = kb := oJQ e; omega))
      have HDF := hJQ ((HO6.grown hrw (fun q hq hp => hp.1.2 (oJQ hq).symm)).mono (Q := P) (fun b hb _ => hb.1.1))
      clear hrw HEta hG6 HO6 Ct6 hb6 kO6 kO5 kR5 Ct5
      go_wp2_with (refine wpList_store_row rfl 28 _ _ rfl (w.heap.size + 1) _ rfl rfl 28 _ kR6 cIQ rfl (all_one _ rfl) ?_)
      refine bodyPost_ret (results_cell_row rfl _ _ (w.heap.size + 1) 28 #[.int .i64 op, .int .i64 n, .string s, .slice ka kn kc, .slice na ns.length nc, .slice oa ds.length oc] (0, 0) _ rfl HRF.out Tryz.underlying28 rfl cIQ) rfl ?_
      exact ⟨(ConD.mk op n s k (.slice na ns.length nc) ns (.slice oa ds.length oc) ds), false, st, by rw [HVO.out], HCF.out, HGF.out, HDF.out, hdw.2, (fun hh => by rw [HRes.out, HHead.out] at hh; cases hh), (fun y' m' hh => by
       rw [HRes.out, HHead.out] at hh
       obtain ⟨rfl, rfl⟩ := Prod.mk.inj (oJQ hh)
       exact ⟨rfl, rfl, hst⟩)⟩
     ·clear q12
      go_wp2_with fail
      refine HEta.out.mono ?_
      rintro e w5x ⟨rfl, hb5x⟩
      have hgx := gLQ hb5x
      have hsm2 := HSm.out
      have kR5' := (hgx.block _ (hLQ kR5) (by nofun)).trans kR5
      have kO5' := (hgx.block _ (hLQ kO5) (by nofun)).trans kO5
      have Ct5' := Ct5.grown hgx (by nofun)
      have HG5' := hJQ (gBQ HG5.out (fNQ hgx (some kb)))
      have HO5' := hJQ (HO5.out.grown hgx (by nofun))
      clear kR5 kO5 Ct5 HG5 HO5 HEta hltV5 hb5x hgx x0 x1 x2 x3 x4 x5
      have kR5 := kR5'
      have kO5 := kO5'
      have Ct5 := Ct5'
      have HG5 := HG5'
      have HO5 := HO5'
      clear kR5' kO5' Ct5' HG5' HO5'
      have hlo5 := hLQ kO5
      have hG5 := HG5.out
      obtain ⟨n1, s1, k1, ns1, n2, s2, k2, ns2, f0, a0, hsh, _, _, hoc, hff0⟩ := eta_shape cstB labsB HFr.out hbe
      have hsh2 := hsh
      rw [HPO.out] at hsh2
      obtain ⟨yd, hds, hyd⟩ := map_one ds (congrArg Cn.l hsh2)
      obtain ⟨yop, yn, ys, yk, ynv, yns, ylv, yl⟩ := yd
      rw [pMQ] at hyd
      obtain ⟨fd, gd, hyl, hfd⟩ := map_two yl (congrArg Cn.l hyd)
      have hrow1 : RowP (fun b => (P b/\b ≠ w.heap.size + 1)/\b ≠ w.heap.size + 2) w5x (.slice oa [ConD.mk yop yn ys yk ynv yns ylv yl].length oc) [ConD.mk yop yn ys yk ynv yns ylv yl].length (cCQ [ConD.mk yop yn ys yk ynv yns ylv yl]) := by have := HO5.out.parts.row; rw [hds] at this; exact this
      obtain ⟨pb, pof, hoa, ⟨hPb, hPl⟩, _, _, _, _, _, u5q⟩ := part_0 hrow1
      subst hoa
      have hyc9 : IsCon (fun b => (P b/\b ≠ w.heap.size + 1)/\b ≠ w.heap.size + 2) w5x (ConD.mk yop yn ys yk ynv yns ylv yl) := HO5.out.parts.all _ (by rw [hds]; simp)
      have hrow2 := hyc9.parts.row
      obtain ⟨ya9, yc9, rfl, _⟩ := rSQ hrow2
      have u5 : w5x.cell? ⟨pb, pof + 5, none⟩ = some (.slice ya9 yl.length yc9) := u5q
      clear u5q
      have hrow3 : RowP (fun b => (P b/\b ≠ w.heap.size + 1)/\b ≠ w.heap.size + 2) w5x (.slice ya9 [fd, gd].length yc9) [fd, gd].length (cCQ [fd, gd]) := by rw [hyl] at hrow2; exact hrow2
      obtain ⟨pb2, pof2, hya, ⟨hPb2, hPl2⟩, v0, v1, v2, v3, v4, v5⟩ := part_0 hrow3
      subst hya
      have hfc : IsCon (fun b => (P b/\b ≠ w.heap.size + 1)/\b ≠ w.heap.size + 2) w5x fd := hyc9.parts.all fd (by rw [hyl]; simp)
      have hl0 : (0 : Int) < ds.length := by rw [hds]; simp
      have hl1 : (0 : Int) < yl.length := by rw [hyl]; simp
      have hffd : frmC (pC fd) = true := by rw [hfd]; exact hff0
      have hocd : occC 0 (pC fd) = false := by rw [hfd]; exact hoc
      have hbnd2 := HBo.out
      rw [hsh] at hbnd2
      have hbfd : bndC (pC fd) := by
       rw [hfd]
       have h8 : bndC (.mk 12 n2 s2 k2 ns2 [f0, a0]) := bnd_part hbnd2 (List.mem_singleton.2 rfl)
       exact bnd_part h8 (List.mem_cons.2 (.inl rfl))
      have hvfd : valC (pC fd) = true := by
       have h7 := pSQ f0 12 n2 s2 k2 ns2 [f0, a0] (by simp)
       have h8 := pSQ (.mk 12 n2 s2 k2 ns2 [f0, a0]) 11 n1 s1 k1 ns1 [.mk 12 n2 s2 k2 ns2 [f0, a0]] (by simp)
       rw [← hsh] at h8
       exact val_iff.2 ⟨by rw [hfd]; omega, by rw [hfd]; omega, hffd⟩
      have HVT := hJQ (shift_val _ hvfd hocd)
      have HHead : Hid (hNQ cstB labsB (nrmN F) (pC (ConD.mk op n s k (.slice na ns.length nc) ns (.slice (some ⟨pb, pof, none⟩) ds.length oc) ds)) m = some (shiftC (-1) 0 (pC fd), m)) := by
       show _ = _
       rw [hsh] at hsm2 hbe ⊢
       unfold hNQ
       rw [if_neg (by rw [hsm2]; decide), if_neg (fun hh => by have h7 : (11 : Int) = 12 := hh.1; omega), if_pos hbe, hfd]
       rfl
      obtain ⟨fop, fn, fs, fk, fns, fl, fka, fkn, fkc, fna, fnc, fa, fc, rfl, hfk, _⟩ := cSQ hfc
      simp only [ConD.op, ConD.n, ConD.s, ConD.k, ConD.nv, ConD.lv, hfk] at v0 v1 v2 v3 v4 v5
      have HSh : Hid (Calls Tryz.prog 97 #[.agg #[.int .i64 fop, .int .i64 fn, .string fs, .slice fka fkn fkc, .slice fna fns.length fnc, .slice fa fl.length fc], .int .i64 (-1), .int .i64 0] w5x (ReplOk (shiftC (-1) 0 (pC (ConD.mk fop fn fs fk (.slice fna fns.length fnc) fns (.slice fa fl.length fc) fl))) w5x)) := by
       have := shift_any _ (ConD.mk fop fn fs fk (.slice fna fns.length fnc) fns (.slice fa fl.length fc) fl) w5x (HEK.out w5x hG5) hfc hvfd hbfd hocd
       rw [cVQ hfk] at this
       exact this
      have hw5 := cnQ kO5
      clear hrow1 hrow2 hrow3 hyc9 hfc hfk hffd hocd hbnd2 hbfd hvfd hsm2 hbe hoc hff0 hsh hsh2 hds hyd hyl hfd
      obtain ⟨x0, x1, x2, x3, x4, x5⟩ := hw5
      go_wp2_with fail
      refine HSh.out.mono ?_
      rintro e w6 ⟨dd, er, rfl, hdd, hb6, hyes, _⟩
      obtain ⟨her, hpd⟩ := hyes HVT.out
      subst her
      obtain ⟨xop, xn, xs, xk, xns, xl, xka, xkn, xkc, xna, xnc, xa, xc, rfl, hxk, _⟩ := cSQ hdd
      have hxv := cVQ (op := xop) (n := xn) (s := xs) (nv := .slice xna xns.length xnc) (lv := .slice xa xl.length xc) (ns := xns) (l := xl) hxk
      rw [hxv]
      have HXV := hJQ hxv
      have hg6 := gLQ hb6
      clear x0 x1 x2 x3 x4 x5 u5 v0 v1 v2 v3 v4 v5 hl0 hl1 HSh hyes hxv hxk
      go_upto_region 17 with fail
      have hga := gAQ w6 (.cells #[.int .i64 xop, .int .i64 xn, .string xs, .slice xka xkn xkc, .slice xna xns.length xnc, .slice xa xl.length xc] 28)
      have hgb : w5x.grownBy (w6.alloc (.cells #[.int .i64 xop, .int .i64 xn, .string xs, .slice xka xkn xkc, .slice xna xns.length xnc, .slice xa xl.length xc] 28)) none := gBQ hg6 hga
      have kR8 := (hgb.block _ (hLQ kR5) (by nofun)).trans kR5
      have Ct8 := Ct5.grown hgb (by nofun)
      have hG8 := gBQ hG5 (fNQ hgb (some kb))
      have hD8 : IsCon (fun b => w5x.heap.size<=b) (w6.alloc (.cells #[.int .i64 xop, .int .i64 xn, .string xs, .slice xka xkn xkc, .slice xna xns.length xnc, .slice xa xl.length xc] 28)) (ConD.mk xop xn xs xk (.slice xna xns.length xnc) xns (.slice xa xl.length xc) xl) := hdd.grown hga (by nofun)
      have kL8 := nHQ w6 (.cells #[.int .i64 xop, .int .i64 xn, .string xs, .slice xka xkn xkc, .slice xna xns.length xnc, .slice xa xl.length xc] 28)
      have hs5 := hG5.size
      have hs6 := hg6.size
      clear hga hgb hdd hb6 hg6
      generalize w6.alloc (.cells #[.int .i64 xop, .int .i64 xn, .string xs, .slice xka xkn xkc, .slice xna xns.length xnc, .slice xa xl.length xc] 28) = V8 at *
      obtain ⟨l0, l1, l2, l3, l4, l5⟩ := cnQ kL8
      have hs8 := hG8.size
      have hrw := gRQ V8 (w.heap.size + 1) #[.int .i64 xop, .int .i64 xn, .string xs, .slice xka xkn xkc, .slice xna xns.length xnc, .slice xa xl.length xc]
      have HRF := hJQ (setRow_heap V8 (w.heap.size + 1) _ #[.int .i64 xop, .int .i64 xn, .string xs, .slice xka xkn xkc, .slice xna xns.length xnc, .slice xa xl.length xc] _ _ kR8)
      have HGF := hJQ (gOQ hG8 hrw (by omega))
      have HCF := hJQ (Ct8.grown hrw (by intro e; have e2 : w.heap.size + 1 = kb := oJQ e; omega))
      have HDF := hJQ ((hD8.grown hrw (fun q hq hp => by have e2 : w.heap.size + 1 = q := oJQ hq; have hp : w5x.heap.size<=q := hp; omega)).mono (Q := P) (fun b hb _ => hup0 b (by have hb : w5x.heap.size<=b := hb; omega)))
      clear hrw hG8 Ct8 hD8 kL8
      go_wp2_with (refine wpList_store_row rfl 28 _ _ rfl (w.heap.size + 1) _ rfl rfl 28 _ kR8 cIQ rfl (all_one _ rfl) ?_)
      refine bodyPost_ret (results_cell_row rfl _ _ (w.heap.size + 1) 28 #[.int .i64 xop, .int .i64 xn, .string xs, .slice xka xkn xkc, .slice xna xns.length xnc, .slice xa xl.length xc] (0, 0) _ rfl HRF.out Tryz.underlying28 rfl cIQ) rfl ?_
      exact ⟨_, false, st, by rw [HXV.out], HCF.out, HGF.out, HDF.out, by rw [hpd]; exact (val_iff.1 HVT.out).1, (fun hh => by rw [HRes.out, HHead.out] at hh; cases hh), (fun y' m' hh => by
       rw [HRes.out, HHead.out] at hh
       obtain ⟨rfl, rfl⟩ := Prod.mk.inj (oJQ hh)
       exact ⟨rfl, hpd, hst⟩)⟩
end Go.Proofs.YtkiffgdinmpljaaGreatDoor
