/- Part of the proof; its texts: Ey8. -/
import Derived.Test.YtbcfdebdikgijaaGreatDoorS39
import Derived.Test.YtbcfdebdikgijaaGreatDoorS40
import Derived.Test.YtbcfdebdikgijaaGreatDoorS41
import Derived.Test.YtbcfdebdikgijaaGreatDoorS42
import Derived.Test.YtbcfdebdikgijaaGreatDoorS43
import Derived.Test.YtbcfdebdikgijaaGreatDoorS44
set_option maxRecDepth 100000
set_option linter.unusedVariables false
set_option linter.unusedSimpArgs false
set_option maxHeartbeats 16000000
namespace Go.Proofs.YtbcfdebdikgijaaGreatDoor
open Go Go.RowKit
theorem arms {op : Int} (h : op = 1 \/ op = 2 \/ op = 3 \/ op = 4 \/ op = 5 \/ op = 6 \/ op = 7 \/ op = 8 \/ op = 9 \/ op = 10 \/ op = 11 \/ op = 12 \/ op = 13 \/ op = 14 \/ op = 15 \/ op = 16) : TQ op := by
 rcases h with rfl | rfl | rfl | rfl | rfl | rfl | rfl | rfl | rfl | rfl | rfl | rfl | rfl | rfl | rfl | rfl
 ·exact dU
 ·exact dS
 ·exact dR
 ·exact dK
 ·exact dQ
 ·exact dN
 ·exact dM
 ·exact dI
 ·exact dL
 ·exact jV
 ·exact jQ
 ·exact jU
 ·exact jT
 ·exact jS
 ·exact jP
 ·exact jR
theorem rG {p : Zz} (hp : QI p) (fuel : Int) (hfu : fuel <= 1000000) : ∀ G, (∀ m, m < G -> Nt p fuel m) -> Nt p fuel G := by
 intro G IH M w0 sb fv tv st ov f arg V hP hB hw0 hM hS hf ha hfo h7 hao ho TD hs0 hs1
 obtain ⟨UF, fn, fs, flv, fl⟩ := f
 obtain ⟨N7, an, NZ, UA, al⟩ := arg
 have ou := (hfo.all).1 (by rw [YF]; exact h7)
 rw [Uc] at ou
 have hn0 : 0 <= fn := ou.1
 have hn1 : fn < (p.Zu.length : Int) := ou.2.1
 obtain ⟨k, rfl⟩ : ∃ k : Nat, fn = (k : Int) := ⟨fn.toNat, by omega⟩
 have hk : k < p.Zu.length := by omega
 obtain ⟨fb, Ue, fc, bB, hfc, Ll, hrow⟩ := kR (hP.1.below hB) k hk
 have hlen := (Ol _).1 (hp.head k hk)
 have hcode := hP.1.2 _ (Zr default p.Zu k hk)
 have HP := Z9 hP
 have SC := Z9 IH
 have HB := Z9 hB
 have HS := Z9 hS
 have HF := Z9 hf
 have HA := Z9 ha
 have P6 := Z9 hfo
 have HAO := Z9 hao
 have hsb := Z6 hS.blk
 have hfn : Xj p (ZW (.mk UF (k : Int) fs flv fl)) = p.Zu.getD k default := by unfold Xj; rw [Uc]; rfl
 have Sn := Z9 hfn
 generalize hfd : p.Zu.getD k default = fd at *
 obtain ⟨ML, fdl, MC, fdv, Yj⟩ := fd
 simp only at hlen hrow hcode
 have cZ := Z9 hcode
 obtain ⟨ca, cc, rfl, hcc, _⟩ := hcode
 obtain ⟨fla, TN, rfl, _⟩ := hf.parts.1
 obtain ⟨NY, NW, rfl, _⟩ := ha.parts.1
 subst bB
 obtain ⟨L, rfl⟩ : ∃ L : Nat, fdl = (L : Int) := ⟨fdl.toNat, by omega⟩
 obtain ⟨iV, WE, UE, UD, UC⟩ := YQ XV
 rw [ZE, ZE]
 generalize hR : Yl p fuel G (ZW (.mk UF (k : Int) fs (.slice fla fl.length TN) fl)) (X8 p (ZW (.mk UF (k : Int) fs (.slice fla fl.length TN) fl)) (ZW (.mk N7 an NZ (.slice NY al.length NW) al))) [] 0 st = R
 have HR := Z9 hR
 clear hR
 obtain ⟨q0, q1, q2, q3, q4, q5, q6, q7⟩ := ZK hS.blk
 have r0 := hrow 0 _ rfl
 rw [Nat.add_zero] at r0
 have r1 := hrow 1 _ rfl
 have r2 := hrow 2 _ rfl
 have r3 := hrow 3 _ rfl
 clear hP hB hS hf ha hfo hao IH ou hfn
 go_in
 go_wp2_with fail
 obtain ⟨g3, b0, b1, b2, hz⟩ := ER V (.cells #[.int .i64 UF, .int .i64 (k : Int), .string fs, .slice fla fl.length TN] 94) (.cells #[.int .i64 N7, .int .i64 an, .string NZ, .slice NY al.length NW] 94) (.cells #[.int .i64 0, .int .i64 0, .string ⟨#[]⟩, .slice none 0 0] 94)
 generalize ((V.alloc (.cells #[.int .i64 UF, .int .i64 (k : Int), .string fs, .slice fla fl.length TN] 94)).alloc (.cells #[.int .i64 N7, .int .i64 an, .string NZ, .slice NY al.length NW] 94)).alloc (.cells #[.int .i64 0, .int .i64 0, .string ⟨#[]⟩, .slice none 0 0] 94) = W at *
 have HSW := Z9 (HS.out.free g3)
 have HZ := Z9 hz
 clear hz
 clear q0 q1 q2 q3 q4 q5 q6 q7
 obtain ⟨q0, q1, q2, q3, q4, q5, q6, q7⟩ := ZK HSW.out.blk
 obtain ⟨p0, p1, p2, p3⟩ := YV b0
 have r0' := cell_kept r0 g3 (by nofun)
 have r1' := cell_kept r1 g3 (by nofun)
 have r2' := cell_kept r2 g3 (by nofun)
 have r3' := cell_kept r3 g3 (by nofun)
 clear r0 r1 r2 r3
 have q0a := Z5 q0 (.cells #[.int .i64 0, .int .i64 0, .int .i64 0, .slice none 0 0] 53)
 have p1a := Z5 p1 (.cells #[.int .i64 0, .int .i64 0, .int .i64 0, .slice none 0 0] 53)
 have r0a := Z5 r0' (.cells #[.int .i64 0, .int .i64 0, .int .i64 0, .slice none 0 0] 53)
 have r1a := Z5 r1' (.cells #[.int .i64 0, .int .i64 0, .int .i64 0, .slice none 0 0] 53)
 have r2a := Z5 r2' (.cells #[.int .i64 0, .int .i64 0, .int .i64 0, .slice none 0 0] 53)
 have r3a := Z5 r3' (.cells #[.int .i64 0, .int .i64 0, .int .i64 0, .slice none 0 0] 53)
 go_region
 go_wp2_with (refine wpList_make_full _ rfl _ _ 92 rfl 0 94 iV (.agg Zf) 4 Tryz.underlying92 WE UE UD .i64 .i64 _ _ L rfl rfl rfl rfl ?c1 ?c2 (Nat.zero_le _) ?_)
 case c1 => rw [UC]; omega
 case c2 => unfold maxLen; omega
 intro w4 Vl hg4
 have hz := HZ.out
 simp only [hz, Nat.add_assoc, Nat.reduceAdd] at Vl ⊢
 have n3 := ZF hz (.cells #[.int .i64 ML, .int .i64 (L : Int), .int .i64 MC, .slice ca Yj.length cc] 53)
 have gW : W.grownBy w4 none := both (both (Z8 W (.cells #[.int .i64 ML, .int .i64 (L : Int), .int .i64 MC, .slice ca Yj.length cc] 53)) (Z4 _)) hg4
 have gW2 := both (Z4 (W.alloc (.cells #[.int .i64 ML, .int .i64 (L : Int), .int .i64 MC, .slice ca Yj.length cc] 53))) hg4
 have d0 := (gW.block _ (Z6 b0) (by nofun)).trans b0
 have d1 := (gW.block _ (Z6 b1) (by nofun)).trans b1
 have d2 := (gW.block _ (Z6 b2) (by nofun)).trans b2
 have d3 := (gW2.block _ (Z6 n3) (by nofun)).trans n3
 have d4 := Ci Vl (by omega)
 have gV := both g3 gW
 have hL1 : 1 <= L := by omega
 have HS4 := Z9 (HS.out.free gV)
 have KV := Z9 (ZG (M := M) gV)
 have HGV := Z9 gV
 obtain ⟨L1, rfl⟩ : ∃ L1, L = L1 + 1 := ⟨L - 1, by omega⟩
 obtain ⟨e0, e1, e2, e3⟩ := YV d1
 obtain ⟨k0, k1, k2, k3⟩ := Mh d4 0 (by simp)
 simp only [Nat.zero_mul, Nat.zero_add] at k0 k1 k2 k3
 have z0 := Lib.frozen_of_heap d4 0
 have z1 := Lib.frozen_of_heap d4 1
 have z2 := Lib.frozen_of_heap d4 2
 have z3 := Lib.frozen_of_heap d4 3
 have D0 := Z9 d0
 have D2 := Z9 d2
 have D3 := Z9 d3
 have D4 := Z9 d4
 have HW4 := Z9 (World.grownBy.size gW)
 clear n3 gW gW2 d0 d1 d2 d3 d4 gV Vl hg4 g3 b0 b1 b2 q0 q1 q2 q3 q4 q5 q6 q7 p0 p1 p2 p3 r0' r1' r2' r3' q0a p1a r0a r1a r2a r3a HSW
 go_wp2_with fail
 have d4 := EP D4.out 0 (by simp) N7 an NZ (.slice NY al.length NW) al
 simp only [Nat.zero_mul, Nat.zero_add] at d4
 have g5 := Pw w4 (V.heap.size + 4) 0 1 2 3 (.int .i64 N7) (.int .i64 an) (.string NZ) (.slice NY al.length NW)
 change Code.wp _ _ _ _ ((((w4.setCell ⟨V.heap.size + 4, 0, none⟩ (.int .i64 N7)).setCell ⟨V.heap.size + 4, 1, none⟩ (.int .i64 an)).setCell ⟨V.heap.size + 4, 2, none⟩ (.string NZ)).setCell ⟨V.heap.size + 4, 3, none⟩ (.slice NY al.length NW))
 generalize (((w4.setCell ⟨V.heap.size + 4, 0, none⟩ (.int .i64 N7)).setCell ⟨V.heap.size + 4, 1, none⟩ (.int .i64 an)).setCell ⟨V.heap.size + 4, 2, none⟩ (.string NZ)).setCell ⟨V.heap.size + 4, 3, none⟩ (.slice NY al.length NW) = w5 at *
 have hLR : LR p fuel G M sb _ tv ov _ R V _ [] _ 0 st ov G (.slice none 0 0) w5 := tX (Oo HGV.out g5 (fun k hk => by cases hk; omega)) HS.out HF.out HA.out (L := L1) (by rw [Sn.out]) d4 ((g5.block _ (Z6 D0.out) (by simp)).trans D0.out) ((g5.block _ (Z6 D2.out) (by simp)).trans D2.out) (by rw [Sn.out]; exact (g5.block _ (Z6 D3.out) (by simp)).trans D3.out) HR.out TD hs0 hs1 HAO.out ho
 have HLR := Z9 hLR
 clear hLR d4 g5 e0 e1 e2 e3 k0 k1 k2 k3 z0 z1 z2 z3
 have PG := Z9 HS.out.own
 have hkp := hk
 have TP := hlen
 have R4 := Z9 hfd
 clear HZ HS4 KV HGV D0 D2 D3 D4 HW4 hz hrow hcc hL1 HS HF HA HAO HR TD hs0 hs1 ho hn0 hn1 hk
 obtain ⟨mu, U7⟩ : ∃ mu : World -> Nat, mu = fun wr => (fuel - intOf ((wr.cell? ⟨sb, 4, none⟩).getD undef)).toNat := ⟨_, rfl⟩
 obtain ⟨rel, Xi⟩ : ∃ rel : Value -> Value -> World -> Prop, rel = fun v9 v10 wr => ∃ (stk lo : List Z0) (at_ : Int) (s : Xc) (o2 : Value) (m : Nat), v10 = .int .i64 at_ /\ Hid (LR p fuel G M sb (.slice (some ⟨fb, Ue, none⟩) p.Zu.length fc) tv ov (.mk UF (k : Int) fs (.slice fla fl.length TN) fl) R V (.slice ca Yj.length cc) stk lo at_ s o2 m v9 wr) := ⟨_, rfl⟩
 refine wp_loop_ghost_k (fA [.pointer (some ⟨sb, 0, none⟩), .agg #[.int .i64 UF, .int .i64 (k : Int), .string fs, .slice fla fl.length TN], .agg #[.int .i64 N7, .int .i64 an, .string NZ, .slice NY al.length NW], undef, .pointer (some ⟨V.heap.size, 0, none⟩), .pointer (some ⟨V.heap.size + 1, 0, none⟩), .pointer (some ⟨V.heap.size + 2, 0, none⟩), .pointer (some ⟨V.heap.size + 3, 0, none⟩), .slice (some ⟨V.heap.size + 4, 0, none⟩) (L1 + 1) (L1 + 1)] rel mu) (mu w5) ⟨rfl, rfl, rfl, ?_, rfl⟩ ?_
 case refine_1 =>
  rw [Xi]; exact ⟨[], _, 0, st, ov, G, rfl, HLR⟩
 case refine_2 =>
  clear HLR w5; rintro nn a wr ⟨hsz, hdf, hpre, hrel, hmu⟩ J K hJ hK; revert hpre hrel; refine WH a hsz hdf ?_; clear hsz hdf a; intro u0 u1 u2 u3 u4 u5 u6 u7 u8 u9 u10 u11 u12 u13 u14 u15 u16 u17 u18 u19 u20 u21 u22 u23 u24 u25 u26 u27 u28 u29 u30 u31 u32 u33 u34 u35 u36 u37 u38 u39 u40 u41 u42 u43 u44 u45 u46 u47 u48 u49 u50 u51 u52 u53 u54 u55 u56 u57 u58 u59 u60 u61 u62 u63 u64 u65 u66 u67 u68 u69 u70 u71 u72 u73 u74 u75 u76 u77 u78 u79 u80 u81 u82 u83 u84 u85 u86 u87 u88 u89 u90 u91 u92 u93 u94 u95 u96 u97 u98 u99 u100 u101 u102 u103 u104 u105 u106 u107 u108 u109 u110 u111 u112 u113 u114 u115 u116 u117 u118 u119 u120 u121 u122 u123 u124 u125 u126 u127 u128 u129 u130 u131 u132 u133 u134 u135 u136 u137 u138 u139 u140 u141 u142 u143 u144 u145 u146 u147 u148 u149 u150 u151 u152 u153 u154 u155 u156 u157 u158 u159 u160 u161 u162 u163 u164 u165 u166 u167 u168 u169 u170 u171 u172 u173 u174 u175 u176 u177 u178 u179 u180 u181 u182 u183 u184 u185 u186 u187 u188 u189 u190 u191 u192 u193 u194 u195 u196 u197 u198 u199 u200 u201 u202 u203 u204 u205 u206 u207 u208 u209 u210 u211 u212 u213 u214 u215 u216 u217 u218 u219 u220 u221 u222 u223 u224 u225 u226 u227 u228 u229 u230 u231 u232 u233 u234 u235 u236 u237 u238 u239 u240 u241 u242 u243 u244 u245 u246 u247 u248 u249 u250 u251 u252 u253 u254 u255 u256 u257 u258 u259 u260 u261 u262 u263 u264 u265 u266 u267 u268 u269 u270 u271 u272 u273 u274 u275 u276 u277 u278 hpre hrel; change [u0, u1, u2, u3, u4, u5, u6, u7, u8] = _ at hpre; cases hpre; change rel u9 u10 wr at hrel; rw [Xi] at hrel; obtain ⟨stk, lo, at_, s, o2, m, rfl, HL⟩ := hrel; have TD := HL.out.ru; have htop := HL.out.top; have hpos := HL.out.pos; obtain ⟨m, rfl⟩ : ∃ m1, m = m1 + 1 := ⟨m - 1, by omega⟩; have heq := HL.out.eq; rw [Yl, Sn.out] at heq; simp only at heq; obtain ⟨q0, q1, q2, q3, q4, q5, q6, q7⟩ := ZK HL.out.base.VL.blk; obtain ⟨y0, y1, y2, y3⟩ := YV (Sn.out ▸ HL.out.base.tZ); have W9 := Z9 heq; clear heq; by_cases he : s.e = 0
  ·rw [Z7 (by simpa using he)] at W9
   have at0 := HL.out.at0; have at1 := HL.out.at1; by_cases hat : (Yj.length : Int) <= at_
   ·rw [ZY (.inr hat)] at W9
    have Py := Z9 (Ym sb _ tv p.main fuel s o2 4 0 wr HL.out.base.VL); go_wp2_with (first
     | (go_at_call 63; refine Py.out.mono ?_; rintro e w2 ⟨rfl, hs2, hE2⟩; obtain ⟨n2, hP⟩ := Xq HL.out.base hsb hs2 hE2 W9.out; have HP := Z9 hP; clear hP hs2 hE2)
     | (refine Zc rfl 94 _ _ rfl (V.heap.size + 2) Zf rfl rfl 94 Zf n2 YX rfl (ZO _ rfl) ?_))
    exact Y4 (YC rfl _ _ (V.heap.size + 2) 94 _ (0, 0) _ rfl (Zd _ _ _ _ _ _ n2) Tryz.underlying94 rfl YX) rfl HP.out
   ·rw [Z7 (by omega)] at W9
    by_cases hsf : s.steps = fuel
    ·rw [ZY hsf] at W9
     go_wp2_with fail; go_region; have Py := Z9 (Ym sb _ tv p.main fuel s o2 3 0 wr.drew (HL.out.base.free (Z4 wr)).VL); go_wp2_with (first
      | (go_at_call 63; refine Py.out.mono ?_; rintro e w2 ⟨rfl, hs2, hE2⟩; obtain ⟨n2, hP⟩ := Xq (HL.out.base.free (Z4 wr)) hsb hs2 hE2 W9.out; have HP := Z9 hP; clear hP hs2 hE2)
      | (refine Zc rfl 94 _ _ rfl (V.heap.size + 2) Zf rfl rfl 94 Zf n2 YX rfl (ZO _ rfl) ?_))
     exact Y4 (YC rfl _ _ (V.heap.size + 2) 94 _ (0, 0) _ rfl (Zd _ _ _ _ _ _ n2) Tryz.underlying94 rfl YX) rfl HP.out
    ·rw [Z7 hsf] at W9
     obtain ⟨t, rfl⟩ : ∃ t : Nat, at_ = (t : Int) := ⟨at_.toNat, by omega⟩; rw [Int.toNat_natCast] at W9; have jC := hp.right k hkp t (by rw [R4.out]; simp only; omega); rw [R4.out] at jC; simp only at jC; have hpk := pX jC (fun n h0 h1 => ((Ol _).1 (hp.head n.toNat (by omega))).1); have HB1 := Z9 (HL.out.base.VL.tick); have HE1 : Hid (Em sb wr (wr.setCell ⟨sb, 4, none⟩ (.int .i64 (s.steps + 1))) o2.ownBlock o2.ownBlock) := Z9 (Em.set wr 4 _ _); have qp := Z9 ((HB.out.trans (HL.out.base.em.below (by omega) hsb (fun q hq => by have := (Zw PG.out q hq).1; omega))).trans (HE1.out.below (B := w0.heap.size) (by omega) (by have := HL.out.base.em.size; omega) (fun q hq => by have := (Zw HL.out.base.VL.own q hq).1; omega))); obtain ⟨ib, SE, rfl, hib, i0, i1, i2⟩ := pW (Xe.below cZ.out qp.out) t (by omega); have hw1 : IntKind.i64.wrap (s.steps + 1) = s.steps + 1 := YJ _ (by omega) (by omega); have hw2 : IntKind.i64.wrap ((t : Int) + 1) = (t : Int) + 1 := YJ _ (by omega) (by omega); obtain ⟨i, hfi⟩ : ∃ i, Yj.getD t default = i := ⟨_, rfl⟩; rw [hfi] at jC hpk i0 i1 i2 W9; obtain ⟨op, ia, ib2⟩ := i; simp only at i0 i1 i2; have z4 := Lib.frozen_of_heap HL.out.base.VL.blk 4; have HBT := Z9 (HL.out.base.step hsb HB1.out HE1.out); have HKT := Z9 (HL.out.base.keep HE1.out); have aU := Z9 hpk; have Qy := Z9 jC; clear hpk jC; obtain ⟨q, hq⟩ : ∃ q, Yd ⟨op, ia, ib2⟩ = q := ⟨_, rfl⟩; rw [hq] at aU W9; have hev : NU op ia ib2 = .tuple #[.int .i64 (q : Int), .int .i64 (Ya op ia ib2).2.1, .int .i64 (Ya op ia ib2).2.2] := by unfold NU; rw [show (Ya op ia ib2).1 = (q : Int) from aU.out.1]
     generalize (Ya op ia ib2).2.1 = e2 at hev; generalize (Ya op ia ib2).2.2 = e3 at hev; have bH := Z9 hev; clear hev; rw [List.length_map] at W9; go_wp2_with fail; go_region; go_wp2_with fail; refine (G6 op ia ib2 _).mono ?_; rintro e w3 ⟨rfl, hb3⟩; rw [bH.out]; have hbx := (both (Z4 _) (Yf hb3)).block wr.heap.size (by simp) (by nofun) |>.trans (ZF (w := wr.setCell ⟨sb, 4, none⟩ (.int .i64 (s.steps + 1))) (k := wr.heap.size) (by simp) (.cells #[.int .i64 op, .int .i64 ia, .int .i64 ib2] 59)); have g3 := both (both (Z8 (wr.setCell ⟨sb, 4, none⟩ (.int .i64 (s.steps + 1))) (.cells #[.int .i64 op, .int .i64 ia, .int .i64 ib2] 59)) (Z4 _)) (Yf hb3); have HB3 := Z9 (HBT.out.free g3); have HK3 := Z9 (HKT.out.trans (ZG g3)); have hz3 : wr.heap.size < w3.heap.size := Z6 hbx; have Pq := Z9 hbx; clear hb3 g3 hbx q0 q1 q2 q3 q4 q5 q6 q7 y0 y1 y2 y3 i0 i1 i2 z4 hw1; have hq1000 := aU.out.2; have hsmall := HL.out.small; by_cases hlen : stk.length < q
     ·rw [ZY hlen] at W9
      obtain ⟨a, c, rfl⟩ : ∃ a c, u9 = .slice a stk.length c := by rcases HL.out.shape with ⟨h1, h2⟩ | ⟨g, c, h1, _⟩; exact ⟨none, 0, by rw [h1, h2]; rfl⟩; exact ⟨_, _, h1⟩
      have Py := Z9 (Ym sb _ tv p.main fuel (tick s) o2 4 0 w3 HB3.out.VL); go_wp2_with (first
       | (go_at_call 63; refine Py.out.mono ?_; rintro e w2 ⟨rfl, hs2, hE2⟩; obtain ⟨n2, hP⟩ := Xq HB3.out hsb hs2 hE2 W9.out; have HP := Z9 hP; clear hP hs2 hE2)
       | (refine Zc rfl 94 _ _ rfl (V.heap.size + 2) Zf rfl rfl 94 Zf n2 YX rfl (ZO _ rfl) ?_))
      exact Y4 (YC rfl _ _ (V.heap.size + 2) 94 _ (0, 0) _ rfl (Zd _ _ _ _ _ _ n2) Tryz.underlying94 rfl YX) rfl HP.out
     ·rw [Z7 hlen] at W9
      obtain ⟨a, c, pa, rfl, hc, hsl1, hsl2, jO, hnews, hash⟩ := yO (M := Mine M V.heap.size) HL.out.shape q (by omega); have HASH := Z9 hash; have HST := Z9 (HL.out.stack.kept HK3.out); have hfr : stk.length - q <= stk.length := Nat.sub_le _ _; have G7 : stk.length - (stk.length - q) = q := by omega
      have hw3 : IntKind.i64.wrap ((stk.length : Int) - (q : Int)) = ((stk.length - q : Nat) : Int) := by rw [YJ _ (by omega) (by omega)]; omega
      obtain ⟨fr, Xw⟩ : ∃ fr, stk.length - q = fr := ⟨_, rfl⟩; rw [Xw] at hsl1 hsl2 jO hnews hfr G7 hw3; rw [Xw] at W9; have hdl : (stk.drop fr).length = q := by rw [List.length_drop]; omega
      have HN := Z9 (hnews w3 HST.out); have Vn : ∀ b, Mine M V.heap.size b -> b < w3.heap.size := fun b hb => by have := HL.out.base.em.size; rcases hb with hb | hb | hb; (have := hM b hb; omega); (have := Z6 HB3.out.RI; omega); (have := Z6 HB3.out.Eb; omega)
      have h1c : ∀ u ∈ ZR (stk.drop fr), u.oneCell' = true := Ns _ (fun y hy => by have hyv := HL.out.Cj y (List.mem_of_mem_drop hy); cases y with | mk yo yn ys yv yl => obtain ⟨a, c, h, _⟩ := hyv.parts.1; exact ⟨a, c, _, h⟩); clear hnews hash; go_wp2_with (first
       | (refine ZH rfl _ _ _ _ _ rfl _ (hsl1 _) ?_)
       | (refine ZH rfl _ _ _ _ _ rfl _ (hsl2 _) ?_)
       | (at_builtin; refine Oj rfl _ _ 92 rfl w3.heap.size 94 iV (.agg Zf) 4 56 Tryz.underlying92 WE UE UD UC rfl (by decide) (.slice none 0 0) 0 [] rfl (World.ownsRow_nil _ _ _ _) pa q (c - fr) (ZR (stk.drop fr)) rfl jO ?c1 HN.out h1c ?c3 ?c4 (Nat.le_refl _) ?_))
      case c1 => rw [Zg, hdl]
      case c3 => unfold maxLen; omega
      case c4 => omega
      intro v4 w4 Vl WS OO abF; have HB4 := Z9 (HB3.out.free (show w3.grownBy w4 none from WS)); have HK4 := Z9 (HK3.out.trans (ZG (show w3.grownBy w4 none from WS))); have Wj := Z9 (KY Vl Vn); have HS2 := Z9 (VR (HL.out.stack.kept HK4.out) fr hfr); have N9 : Hid (∀ y ∈ stk, R9 (Mine M V.heap.size) w4 y) := Z9 (fun y hy => (HL.out.Cj y hy).kept HK4.out); have XA := (WS.block _ hz3 (by nofun)).trans Pq.out; have hz4 := WS.size; have abG := Z9 XA; have j0 : w4.cell? ⟨wr.heap.size, 0, none⟩ = some (.int .i64 op) := by simp [World.cell?, XA]
      have j1 : w4.cell? ⟨wr.heap.size, 1, none⟩ = some (.int .i64 ia) := by simp [World.cell?, XA]
      have j2 : w4.cell? ⟨wr.heap.size, 2, none⟩ = some (.int .i64 ib2) := by simp [World.cell?, XA]
      have HRR := Z9 (Yt Qy.out); have hop := EW Qy.out; simp only at hop; rw [<- List.map_drop, <- List.map_take] at W9; clear Vl WS OO abF XA HN h1c jO bH Pq HB3 HK3 HST aU; have hcases : op = 1 \/ op = 2 \/ op = 3 \/ op = 4 \/ op = 5 \/ op = 6 \/ op = 7 \/ op = 8 \/ op = 9 \/ op = 10 \/ op = 11 \/ op = 12 \/ op = 13 \/ op = 14 \/ op = 15 \/ op = 16 := by omega
      clear hop; refine Po _ rfl rfl ?_; refine (show ∀ (a0 : Act) (w0 : World), Code.wp Tryz.prog XD (Exit.inBlock 1 (Exit.then K (Exit.inBlock 0 (Exit.then _ (bodyPost Tryz.prog Tryz.f33 (MS M sb (.slice (some ⟨fb, Ue, none⟩) p.Zu.length fc) tv p.main fuel ov R V)))))) a0 w0 -> _ from by assumption) _ _ ?_; exact arms hcases hp fuel hfu G SC M w0 sb tv st ov V hw0 hM UF fs fl N7 an NZ al k fb Ue fc HB hsb ML MC Yj cc fla TN h7 P6 NY NW HP R L1 PG hkp mu U7 rel nn wr hmu J K _ hJ hK stk lo s o2 m he hsf t at1 ib SE TP Sn R4 Xi hw2 ia ib2 q hat w3 hz3 hq1000 hlen a c HL hc HASH fr G7 hfr Xw hsl2 hdl Vn v4 w4 HB4 HK4 Wj HS2 N9 hz4 abG.out hfi Qy hq _ rfl rfl rfl rfl rfl
  ·have heb : (s.e == 0) = false := Zt he
   rw [ZY he] at W9; have n2 := HL.out.base.RI; have HX := Z9 (JE HL.out.base hsb W9.out); go_wp2_with (refine Zc rfl 94 _ _ rfl (V.heap.size + 2) Zf rfl rfl 94 Zf n2 YX rfl (ZO _ rfl) ?_); exact Y4 (YC rfl _ _ (V.heap.size + 2) 94 _ (0, 0) _ rfl (Zd _ _ _ _ _ _ n2) Tryz.underlying94 rfl YX) rfl HX.out
theorem rF {p : Zz} (hp : QI p) (fuel : Int) (hfu : fuel <= 1000000) : ∀ G, Nt p fuel G := fun G => Nat.strongRecOn G fun G ih => rG hp fuel hfu G ih
end Go.Proofs.YtbcfdebdikgijaaGreatDoor
