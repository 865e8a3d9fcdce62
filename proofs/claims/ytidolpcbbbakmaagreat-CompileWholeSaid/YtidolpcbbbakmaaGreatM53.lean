/- call of the reference of layer 47: the walk. -/
import Derived.Test.YtidolpcbbbakmaaGreatM47
import Derived.Test.YtidolpcbbbakmaaGreatM48
import Derived.Test.YtidolpcbbbakmaaGreatM49
import Derived.Test.YtidolpcbbbakmaaGreatM50
import Derived.Test.YtidolpcbbbakmaaGreatM51
import Derived.Test.YtidolpcbbbakmaaGreatM52
namespace Go.Proofs.YtidolpcbbbakmaaGreat
open Go Go.RowKit
set_option maxRecDepth 100000 in
set_option maxHeartbeats 16000000 in
theorem call_any {p : ProgD} (hp : GoodP p) (fuel : Int) (hfu : fuel ≤ 1000000) : ∀ G, (∀ m, m < G → CallOk p fuel m) → CallOk p fuel G := by
  intro G IH M w0 sb fv tv st ov f arg V hP hB hw0 hM hS hf ha hfo h7 hao ho hgas hs0 hs1
  obtain ⟨fop, fn, fs, flv, fl⟩ := f
  obtain ⟨aop, an, asx, alv, al⟩ := arg
  have hfo1 := (hfo.all).1 (by rw [strip_op]; exact h7)
  rw [strip_n] at hfo1
  have hn0 : 0 ≤ fn := hfo1.1
  have hn1 : fn < (p.funs.length : Int) := hfo1.2.1
  obtain ⟨k, rfl⟩ : ∃ k : Nat, fn = (k : Int) := ⟨fn.toNat, by omega⟩
  have hk : k < p.funs.length := by omega
  obtain ⟨fb, foff, fc, hfv, hfc, hfb, hrow⟩ := fun_at (hP.1.below hB) k hk
  have hlen := (head_iff _).1 (hp.head k hk)
  have hcode := hP.1.2 _ (getD_mem default p.funs k hk)
  have HP := Lib.hid hP
  have HIH := Lib.hid IH
  have HB := Lib.hid hB
  have HS := Lib.hid hS
  have HF := Lib.hid hf
  have HA := Lib.hid ha
  have HFO := Lib.hid hfo
  have HAO := Lib.hid hao
  have hsb := heap_lt hS.blk
  have hfn : funOf p (stripX (.mk fop (k : Int) fs flv fl)) = p.funs.getD k default := by unfold funOf; rw [strip_n]; rfl
  have HFN := Lib.hid hfn
  generalize hfd : p.funs.getD k default = fd at *
  obtain ⟨fdc, fdl, fdd, fdv, fdcode⟩ := fd
  simp only at hlen hrow hcode
  have HCODE := Lib.hid hcode
  obtain ⟨ca, cc, rfl, hcc, _⟩ := hcode
  obtain ⟨fla, flc, rfl, _⟩ := hf.parts.1
  obtain ⟨ala, alc, rfl, _⟩ := ha.parts.1
  subst hfv
  obtain ⟨L, rfl⟩ : ∃ L : Nat, fdl = (L : Int) := ⟨fdl.toNat, by omega⟩
  obtain ⟨iV, iVhii, iVz0, iVz1, iVz2⟩ := parts_info info_valK
  rw [expV_mk, expV_mk]
  generalize hR : runP p fuel G (stripX (.mk fop (k : Int) fs (.slice fla fl.length flc) fl)) (locals0 p (stripX (.mk fop (k : Int) fs (.slice fla fl.length flc) fl)) (stripX (.mk aop an asx (.slice ala al.length alc) al))) [] 0 st = R
  have HR := Lib.hid hR
  clear hR
  obtain ⟨q0, q1, q2, q3, q4, q5, q6, q7⟩ := eight_cells hS.blk
  have r0 := hrow 0 _ rfl
  rw [Nat.add_zero] at r0
  have r1 := hrow 1 _ rfl
  have r2 := hrow 2 _ rfl
  have r3 := hrow 3 _ rfl
  clear hP hB hS hf ha hfo hao IH hfo1 hfn
  go_enter Tryz.func29, Tryz.ntmps29
  go_wp2_with fail
  obtain ⟨g3, b0, b1, b2, hz⟩ := three_boxes V (.cells #[.int .i64 fop, .int .i64 (k : Int), .string fs, .slice fla fl.length flc] 77) (.cells #[.int .i64 aop, .int .i64 an, .string asx, .slice ala al.length alc] 77) (.cells #[.int .i64 0, .int .i64 0, .string ⟨#[]⟩, .slice none 0 0] 77)
  generalize ((V.alloc (.cells #[.int .i64 fop, .int .i64 (k : Int), .string fs, .slice fla fl.length flc] 77)).alloc (.cells #[.int .i64 aop, .int .i64 an, .string asx, .slice ala al.length alc] 77)).alloc (.cells #[.int .i64 0, .int .i64 0, .string ⟨#[]⟩, .slice none 0 0] 77) = W at *
  have HSW := Lib.hid (HS.out.free g3)
  have HZ := Lib.hid hz
  clear hz
  clear q0 q1 q2 q3 q4 q5 q6 q7
  obtain ⟨q0, q1, q2, q3, q4, q5, q6, q7⟩ := eight_cells HSW.out.blk
  obtain ⟨p0, p1, p2, p3⟩ := cells4 b0
  have r0' := cell_kept r0 g3 (by nofun)
  have r1' := cell_kept r1 g3 (by nofun)
  have r2' := cell_kept r2 g3 (by nofun)
  have r3' := cell_kept r3 g3 (by nofun)
  clear r0 r1 r2 r3
  have q0a := cell_alloc_some q0 (.cells #[.int .i64 0, .int .i64 0, .int .i64 0, .slice none 0 0] 43)
  have p1a := cell_alloc_some p1 (.cells #[.int .i64 0, .int .i64 0, .int .i64 0, .slice none 0 0] 43)
  have r0a := cell_alloc_some r0' (.cells #[.int .i64 0, .int .i64 0, .int .i64 0, .slice none 0 0] 43)
  have r1a := cell_alloc_some r1' (.cells #[.int .i64 0, .int .i64 0, .int .i64 0, .slice none 0 0] 43)
  have r2a := cell_alloc_some r2' (.cells #[.int .i64 0, .int .i64 0, .int .i64 0, .slice none 0 0] 43)
  have r3a := cell_alloc_some r3' (.cells #[.int .i64 0, .int .i64 0, .int .i64 0, .slice none 0 0] 43)
  go_region
  go_wp2_with (refine wpList_make_full _ rfl _ _ 75 rfl 0 77 iV (.agg nil47) 4 Tryz.underlying75 iVhii iVz0 iVz1 .i64 .i64 _ _ L rfl rfl rfl rfl ?c1 ?c2 (Nat.zero_le _) ?_)
  case c1 => rw [iVz2]; omega
  case c2 => unfold maxLen; omega
  intro w4 hown4 hg4
  have hz := HZ.out
  simp only [hz, Nat.add_assoc, Nat.reduceAdd] at hown4 ⊢
  have n3 := heap_alloc_at hz (.cells #[.int .i64 fdc, .int .i64 (L : Int), .int .i64 fdd, .slice ca fdcode.length cc] 43)
  have gW : W.grownBy w4 none := both (both (grown_alloc W (.cells #[.int .i64 fdc, .int .i64 (L : Int), .int .i64 fdd, .slice ca fdcode.length cc] 43)) (grown_drew _)) hg4
  have gW2 := both (grown_drew (W.alloc (.cells #[.int .i64 fdc, .int .i64 (L : Int), .int .i64 fdd, .slice ca fdcode.length cc] 43))) hg4
  have d0 := (gW.block _ (heap_lt b0) (by nofun)).trans b0
  have d1 := (gW.block _ (heap_lt b1) (by nofun)).trans b1
  have d2 := (gW.block _ (heap_lt b2) (by nofun)).trans b2
  have d3 := (gW2.block _ (heap_lt n3) (by nofun)).trans n3
  have d4 := made_block hown4 (by omega)
  have gV := both g3 gW
  have hL1 : 1 ≤ L := by omega
  have HS4 := Lib.hid (HS.out.free gV)
  have KV := Lib.hid (keepV_grown (M := M) gV)
  have HGV := Lib.hid gV
  obtain ⟨L1, rfl⟩ : ∃ L1, L = L1 + 1 := ⟨L - 1, by omega⟩
  obtain ⟨e0, e1, e2, e3⟩ := cells4 d1
  obtain ⟨k0, k1, k2, k3⟩ := rowA_at d4 0 (by simp)
  simp only [Nat.zero_mul, Nat.zero_add] at k0 k1 k2 k3
  have z0 := Lib.frozen_of_heap d4 0
  have z1 := Lib.frozen_of_heap d4 1
  have z2 := Lib.frozen_of_heap d4 2
  have z3 := Lib.frozen_of_heap d4 3
  have D0 := Lib.hid d0
  have D2 := Lib.hid d2
  have D3 := Lib.hid d3
  have D4 := Lib.hid d4
  have HW4 := Lib.hid (World.grownBy.size gW)
  clear n3 gW gW2 d0 d1 d2 d3 d4 gV hown4 hg4 g3 b0 b1 b2 q0 q1 q2 q3 q4 q5 q6 q7 p0 p1 p2 p3 r0' r1' r2' r3' q0a p1a r0a r1a r2a r3a HSW
  go_wp2_with fail
  have d4 := rowA_set D4.out 0 (by simp) aop an asx (.slice ala al.length alc) al
  simp only [Nat.zero_mul, Nat.zero_add] at d4
  have g5 := grown_set4 w4 (V.heap.size + 4) 0 1 2 3 (.int .i64 aop) (.int .i64 an) (.string asx) (.slice ala al.length alc)
  change Code.wp _ _ _ _ ((((w4.setCell ⟨V.heap.size + 4, 0, none⟩ (.int .i64 aop)).setCell ⟨V.heap.size + 4, 1, none⟩ (.int .i64 an)).setCell ⟨V.heap.size + 4, 2, none⟩ (.string asx)).setCell ⟨V.heap.size + 4, 3, none⟩ (.slice ala al.length alc))
  generalize (((w4.setCell ⟨V.heap.size + 4, 0, none⟩ (.int .i64 aop)).setCell ⟨V.heap.size + 4, 1, none⟩ (.int .i64 an)).setCell ⟨V.heap.size + 4, 2, none⟩ (.string asx)).setCell ⟨V.heap.size + 4, 3, none⟩ (.slice ala al.length alc) = w5 at *
  have hLR : LR p fuel G M sb _ tv ov _ R V _ [] _ 0 st ov G (.slice none 0 0) w5 := lr_start (grown_by HGV.out g5 (fun k hk => by cases hk; omega)) HS.out HF.out HA.out (L := L1) (by rw [HFN.out]) d4 ((g5.block _ (heap_lt D0.out) (by simp)).trans D0.out) ((g5.block _ (heap_lt D2.out) (by simp)).trans D2.out) (by rw [HFN.out]; exact (g5.block _ (heap_lt D3.out) (by simp)).trans D3.out) HR.out hgas hs0 hs1 HAO.out ho
  have HLR := Lib.hid hLR
  clear hLR d4 g5 e0 e1 e2 e3 k0 k1 k2 k3 z0 z1 z2 z3
  have HOV := Lib.hid HS.out.own
  have hkp := hk
  have hlenF := hlen
  have hfk := Lib.hid hfd
  clear HZ HS4 KV HGV D0 D2 D3 D4 HW4 hz hrow hcc hL1 HS HF HA HAO HR hgas hs0 hs1 ho hn0 hn1 hk
  obtain ⟨mu, hmu0⟩ : ∃ mu : World → Nat, mu = fun wr => (fuel - intOf ((wr.cell? ⟨sb, 4, none⟩).getD undef)).toNat := ⟨_, rfl⟩
  obtain ⟨rel, hrel0⟩ : ∃ rel : Value → Value → World → Prop, rel = fun v9 v10 wr => ∃ (stk lo : List ExpD) (at_ : Int) (s : StD) (o2 : Value) (m : Nat), v10 = .int .i64 at_ ∧ Hid (LR p fuel G M sb (.slice (some ⟨fb, foff, none⟩) p.funs.length fc) tv ov (.mk fop (k : Int) fs (.slice fla fl.length flc) fl) R V (.slice ca fdcode.length cc) stk lo at_ s o2 m v9 wr) := ⟨_, rfl⟩
  refine wp_loop_ghost_k (InvA [.pointer (some ⟨sb, 0, none⟩), .agg #[.int .i64 fop, .int .i64 (k : Int), .string fs, .slice fla fl.length flc], .agg #[.int .i64 aop, .int .i64 an, .string asx, .slice ala al.length alc], undef, .pointer (some ⟨V.heap.size, 0, none⟩), .pointer (some ⟨V.heap.size + 1, 0, none⟩), .pointer (some ⟨V.heap.size + 2, 0, none⟩), .pointer (some ⟨V.heap.size + 3, 0, none⟩), .slice (some ⟨V.heap.size + 4, 0, none⟩) (L1 + 1) (L1 + 1)] rel mu) (mu w5) ⟨rfl, rfl, rfl, ?_, rfl⟩ ?_
  case refine_1 =>
    rw [hrel0]
    exact ⟨[], _, 0, st, ov, G, rfl, HLR⟩
  case refine_2 =>
    clear HLR w5
    rintro nn a wr ⟨hsz, hdf, hpre, hrel, hmu⟩ J K hJ hK
    revert hpre hrel
    refine act_lit a hsz hdf ?_
    clear hsz hdf a
    intro u0 u1 u2 u3 u4 u5 u6 u7 u8 u9 u10 u11 u12 u13 u14 u15 u16 u17 u18 u19 u20 u21 u22 u23 u24 u25 u26 u27 u28 u29 u30 u31 u32 u33 u34 u35 u36 u37 u38 u39 u40 u41 u42 u43 u44 u45 u46 u47 u48 u49 u50 u51 u52 u53 u54 u55 u56 u57 u58 u59 u60 u61 u62 u63 u64 u65 u66 u67 u68 u69 u70 u71 u72 u73 u74 u75 u76 u77 u78 u79 u80 u81 u82 u83 u84 u85 u86 u87 u88 u89 u90 u91 u92 u93 u94 u95 u96 u97 u98 u99 u100 u101 u102 u103 u104 u105 u106 u107 u108 u109 u110 u111 u112 u113 u114 u115 u116 u117 u118 u119 u120 u121 u122 u123 u124 u125 u126 u127 u128 u129 u130 u131 u132 u133 u134 u135 u136 u137 u138 u139 u140 u141 u142 u143 u144 u145 u146 u147 u148 u149 u150 u151 u152 u153 u154 u155 u156 u157 u158 u159 u160 u161 u162 u163 u164 u165 u166 u167 u168 u169 u170 u171 u172 u173 u174 u175 u176 u177 u178 u179 u180 u181 u182 u183 u184 u185 u186 u187 u188 u189 u190 u191 u192 u193 u194 u195 u196 u197 u198 u199 u200 u201 u202 u203 u204 u205 u206 u207 u208 u209 u210 u211 u212 u213 u214 u215 u216 u217 u218 u219 u220 u221 u222 u223 u224 u225 u226 u227 u228 u229 u230 u231 u232 u233 u234 u235 u236 u237 u238 u239 u240 u241 u242 u243 u244 u245 u246 u247 u248 u249 u250 u251 u252 u253 u254 u255 u256 u257 u258 u259 u260 u261 u262 u263 u264 u265 u266 u267 u268 u269 u270 u271 u272 u273 u274 u275 u276 u277 u278 hpre hrel
    change [u0, u1, u2, u3, u4, u5, u6, u7, u8] = _ at hpre
    cases hpre
    change rel u9 u10 wr at hrel
    rw [hrel0] at hrel
    obtain ⟨stk, lo, at_, s, o2, m, rfl, HL⟩ := hrel
    have hgas := HL.out.gas
    have htop := HL.out.top
    have hpos := HL.out.pos
    obtain ⟨m, rfl⟩ : ∃ m1, m = m1 + 1 := ⟨m - 1, by omega⟩
    have heq := HL.out.eq
    rw [runP, HFN.out] at heq
    simp only at heq
    obtain ⟨q0, q1, q2, q3, q4, q5, q6, q7⟩ := eight_cells HL.out.base.sst.blk
    obtain ⟨y0, y1, y2, y3⟩ := cells4 (HFN.out ▸ HL.out.base.boxc)
    have HEQ := Lib.hid heq
    clear heq
    by_cases he : s.e = 0
    · rw [if_neg (by simpa using he)] at HEQ
      have at0 := HL.out.at0
      have at1 := HL.out.at1
      by_cases hat : (fdcode.length : Int) ≤ at_
      · rw [if_pos (.inr hat)] at HEQ
        have HSt := Lib.hid (stop47_any sb _ tv p.main fuel s o2 4 0 wr HL.out.base.sst)
        go_wp2_with (first
          | (go_at_call 58; refine HSt.out.mono ?_; rintro e w2 ⟨rfl, hs2, hE2⟩; obtain ⟨n2, hP⟩ := exit_stop HL.out.base hsb hs2 hE2 HEQ.out; have HP := Lib.hid hP; clear hP hs2 hE2)
          | (refine wpList_store_row rfl 77 _ _ rfl (V.heap.size + 2) nil47 rfl rfl 77 nil47 n2 info47 rfl (all_one _ rfl) ?_))
        exact bodyPost_ret (results_cell_row rfl _ _ (V.heap.size + 2) 77 _ (0, 0) _ rfl (setRow_heap _ _ _ _ _ _ n2) Tryz.underlying77 rfl info47) rfl HP.out
      · rw [if_neg (by omega)] at HEQ
        by_cases hsf : s.steps = fuel
        · rw [if_pos hsf] at HEQ
          go_wp2_with fail
          go_region
          have HSt := Lib.hid (stop47_any sb _ tv p.main fuel s o2 3 0 wr.drew (HL.out.base.free (grown_drew wr)).sst)
          go_wp2_with (first
            | (go_at_call 58; refine HSt.out.mono ?_; rintro e w2 ⟨rfl, hs2, hE2⟩; obtain ⟨n2, hP⟩ := exit_stop (HL.out.base.free (grown_drew wr)) hsb hs2 hE2 HEQ.out; have HP := Lib.hid hP; clear hP hs2 hE2)
            | (refine wpList_store_row rfl 77 _ _ rfl (V.heap.size + 2) nil47 rfl rfl 77 nil47 n2 info47 rfl (all_one _ rfl) ?_))
          exact bodyPost_ret (results_cell_row rfl _ _ (V.heap.size + 2) 77 _ (0, 0) _ rfl (setRow_heap _ _ _ _ _ _ n2) Tryz.underlying77 rfl info47) rfl HP.out
        · rw [if_neg hsf] at HEQ
          obtain ⟨t, rfl⟩ : ∃ t : Nat, at_ = (t : Int) := ⟨at_.toNat, by omega⟩
          rw [Int.toNat_natCast] at HEQ
          have hri := hp.right k hkp t (by rw [hfk.out]; simp only; omega)
          rw [hfk.out] at hri
          simp only at hri
          have hpk := pops_ok hri (fun n h0 h1 => ((head_iff _).1 (hp.head n.toNat (by omega))).1)
          have HB1 := Lib.hid (HL.out.base.sst.tick)
          have HE1 : Hid (Em sb wr (wr.setCell ⟨sb, 4, none⟩ (.int .i64 (s.steps + 1))) o2.ownBlock o2.ownBlock) := Lib.hid (Em.set wr 4 _ _)
          have HBw := Lib.hid ((HB.out.trans (HL.out.base.em.below (by omega) hsb (fun q hq => by have := (owns_lt HOV.out q hq).1; omega))).trans (HE1.out.below (B := w0.heap.size) (by omega) (by have := HL.out.base.em.size; omega) (fun q hq => by have := (owns_lt HL.out.base.sst.own q hq).1; omega)))
          obtain ⟨ib, ioff, rfl, hib, i0, i1, i2⟩ := insC_at (IsRow.below HCODE.out HBw.out) t (by omega)
          have hw1 : IntKind.i64.wrap (s.steps + 1) = s.steps + 1 := wrap_ok _ (by omega) (by omega)
          have hw2 : IntKind.i64.wrap ((t : Int) + 1) = (t : Int) + 1 := wrap_ok _ (by omega) (by omega)
          obtain ⟨i, hfi⟩ : ∃ i, fdcode.getD t default = i := ⟨_, rfl⟩
          rw [hfi] at hri hpk i0 i1 i2 HEQ
          obtain ⟨op, ia, ib2⟩ := i
          simp only at i0 i1 i2
          have z4 := Lib.frozen_of_heap HL.out.base.sst.blk 4
          have HBT := Lib.hid (HL.out.base.step hsb HB1.out HE1.out)
          have HKT := Lib.hid (HL.out.base.keep HE1.out)
          have HPK := Lib.hid hpk
          have HRI := Lib.hid hri
          clear hpk hri
          obtain ⟨q, hq⟩ : ∃ q, popsOf ⟨op, ia, ib2⟩ = q := ⟨_, rfl⟩
          rw [hq] at HPK HEQ
          have hev : effV op ia ib2 = .tuple #[.int .i64 (q : Int), .int .i64 (effT op ia ib2).2.1, .int .i64 (effT op ia ib2).2.2] := by unfold effV; rw [show (effT op ia ib2).1 = (q : Int) from HPK.out.1]
          generalize (effT op ia ib2).2.1 = e2 at hev
          generalize (effT op ia ib2).2.2 = e3 at hev
          have HEV := Lib.hid hev
          clear hev
          rw [List.length_map] at HEQ
          go_wp2_with fail
          go_region
          go_wp2_with fail
          refine (rEffect_any op ia ib2 _).mono ?_
          rintro e w3 ⟨rfl, hb3⟩
          rw [HEV.out]
          have hbx := (both (grown_drew _) (grown_below hb3)).block wr.heap.size (by simp) (by nofun) |>.trans (heap_alloc_at (w := wr.setCell ⟨sb, 4, none⟩ (.int .i64 (s.steps + 1))) (k := wr.heap.size) (by simp) (.cells #[.int .i64 op, .int .i64 ia, .int .i64 ib2] 57))
          have g3 := both (both (grown_alloc (wr.setCell ⟨sb, 4, none⟩ (.int .i64 (s.steps + 1))) (.cells #[.int .i64 op, .int .i64 ia, .int .i64 ib2] 57)) (grown_drew _)) (grown_below hb3)
          have HB3 := Lib.hid (HBT.out.free g3)
          have HK3 := Lib.hid (HKT.out.trans (keepV_grown g3))
          have hz3 : wr.heap.size < w3.heap.size := heap_lt hbx
          have HBX := Lib.hid hbx
          clear hb3 g3 hbx q0 q1 q2 q3 q4 q5 q6 q7 y0 y1 y2 y3 i0 i1 i2 z4 hw1
          have hq1000 := HPK.out.2
          have hsmall := HL.out.small
          by_cases hlen : stk.length < q
          · rw [if_pos hlen] at HEQ
            obtain ⟨a, c, rfl⟩ : ∃ a c, u9 = .slice a stk.length c := by rcases HL.out.shape with ⟨h1, h2⟩ | ⟨g, c, h1, _⟩; exact ⟨none, 0, by rw [h1, h2]; rfl⟩; exact ⟨_, _, h1⟩
            have HSt := Lib.hid (stop47_any sb _ tv p.main fuel (tick s) o2 4 0 w3 HB3.out.sst)
            go_wp2_with (first
              | (go_at_call 58; refine HSt.out.mono ?_; rintro e w2 ⟨rfl, hs2, hE2⟩; obtain ⟨n2, hP⟩ := exit_stop HB3.out hsb hs2 hE2 HEQ.out; have HP := Lib.hid hP; clear hP hs2 hE2)
              | (refine wpList_store_row rfl 77 _ _ rfl (V.heap.size + 2) nil47 rfl rfl 77 nil47 n2 info47 rfl (all_one _ rfl) ?_))
            exact bodyPost_ret (results_cell_row rfl _ _ (V.heap.size + 2) 77 _ (0, 0) _ rfl (setRow_heap _ _ _ _ _ _ n2) Tryz.underlying77 rfl info47) rfl HP.out
          · rw [if_neg hlen] at HEQ
            obtain ⟨a, c, pa, rfl, hc, hsl1, hsl2, hpan, hnews, hash⟩ := stack_cut (M := Mine M V.heap.size) HL.out.shape q (by omega)
            have HASH := Lib.hid hash
            have HST := Lib.hid (HL.out.stack.kept HK3.out)
            have hfr : stk.length - q ≤ stk.length := Nat.sub_le _ _
            have hfq : stk.length - (stk.length - q) = q := by omega
            have hw3 : IntKind.i64.wrap ((stk.length : Int) - (q : Int)) = ((stk.length - q : Nat) : Int) := by rw [wrap_ok _ (by omega) (by omega)]; omega
            obtain ⟨fr, hfrom⟩ : ∃ fr, stk.length - q = fr := ⟨_, rfl⟩
            rw [hfrom] at hsl1 hsl2 hpan hnews hfr hfq hw3
            rw [hfrom] at HEQ
            have hdl : (stk.drop fr).length = q := by rw [List.length_drop]; omega
            have HN := Lib.hid (hnews w3 HST.out)
            have hltm : ∀ b, Mine M V.heap.size b → b < w3.heap.size := fun b hb => by have := HL.out.base.em.size; rcases hb with hb | hb | hb; (have := hM b hb; omega); (have := heap_lt HB3.out.boxr; omega); (have := heap_lt HB3.out.lob; omega)
            have h1c : ∀ u ∈ expCells (stk.drop fr), u.oneCell' = true := oneCell_expCells _ (fun y hy => by have hyv := HL.out.stackv y (List.mem_of_mem_drop hy); cases y with | mk yo yn ys yv yl => obtain ⟨a, c, h, _⟩ := hyv.parts.1; exact ⟨a, c, _, h⟩)
            clear hnews hash
            go_wp2_with (first
              | (refine wpList_slice_of rfl _ _ _ _ _ rfl _ (hsl1 _) ?_)
              | (refine wpList_slice_of rfl _ _ _ _ _ rfl _ (hsl2 _) ?_)
              | (at_builtin; refine wpList_append_any rfl _ _ 75 rfl w3.heap.size 77 iV (.agg nil47) 4 56 Tryz.underlying75 iVhii iVz0 iVz1 iVz2 rfl (by decide) (.slice none 0 0) 0 [] rfl (World.ownsRow_nil _ _ _ _) pa q (c - fr) (expCells (stk.drop fr)) rfl hpan ?c1 HN.out h1c ?c3 ?c4 (Nat.le_refl _) ?_))
            case c1 => rw [expCells_length, hdl]
            case c3 => unfold maxLen; omega
            case c4 => omega
            intro v4 w4 hown4 hgrow4 hat4 hnn4
            have HB4 := Lib.hid (HB3.out.free (show w3.grownBy w4 none from hgrow4))
            have HK4 := Lib.hid (HK3.out.trans (keepV_grown (show w3.grownBy w4 none from hgrow4)))
            have HROW := Lib.hid (rowV_owned hown4 hltm)
            have HS2 := Lib.hid (rowV_sub (HL.out.stack.kept HK4.out) fr hfr)
            have HVS : Hid (∀ y ∈ stk, IsV (Mine M V.heap.size) w4 y) := Lib.hid (fun y hy => (HL.out.stackv y hy).kept HK4.out)
            have hbx4 := (hgrow4.block _ hz3 (by nofun)).trans HBX.out
            have hz4 := hgrow4.size
            have HBX4 := Lib.hid hbx4
            have j0 : w4.cell? ⟨wr.heap.size, 0, none⟩ = some (.int .i64 op) := by simp [World.cell?, hbx4]
            have j1 : w4.cell? ⟨wr.heap.size, 1, none⟩ = some (.int .i64 ia) := by simp [World.cell?, hbx4]
            have j2 : w4.cell? ⟨wr.heap.size, 2, none⟩ = some (.int .i64 ib2) := by simp [World.cell?, hbx4]
            have HRR := Lib.hid (right_rest HRI.out)
            have hop := right_op HRI.out
            simp only at hop
            rw [← List.map_drop, ← List.map_take] at HEQ
            clear hown4 hgrow4 hat4 hnn4 hbx4 HN h1c hpan HEV HBX HB3 HK3 HST HPK
            have hcases : op = 1 ∨ op = 2 ∨ op = 3 ∨ op = 4 ∨ op = 5 ∨ op = 6 ∨ op = 7 ∨ op = 8 ∨ op = 9 ∨ op = 10 ∨ op = 11 ∨ op = 12 ∨ op = 13 ∨ op = 14 ∨ op = 15 ∨ op = 16 := by omega
            clear hop
            refine wpList_last_assign _ rfl rfl ?_
            refine (show ∀ (a0 : Act) (w0 : World), Code.wp Tryz.prog callRest (Exit.inBlock 1 (Exit.then K (Exit.inBlock 0 (Exit.then _ (bodyPost Tryz.prog Tryz.f29 (RunOk M sb (.slice (some ⟨fb, foff, none⟩) p.funs.length fc) tv p.main fuel ov R V)))))) a0 w0 → _ from by assumption) _ _ ?_
            rcases hcases with rfl | rfl | rfl | rfl | rfl | rfl | rfl | rfl | rfl | rfl | rfl | rfl | rfl | rfl | rfl | rfl
            · exact arm_1 hp fuel hfu G HIH M w0 sb tv st ov V hw0 hM fop fs fl aop an asx al k fb foff fc HB hsb fdc fdd fdcode cc fla flc h7 HFO ala alc HP R L1 HOV hkp mu hmu0 rel nn wr hmu J K _ hJ hK stk lo s o2 m he hsf t at1 ib ioff hlenF HFN hfk hrel0 hw2 ia ib2 q hat w3 hz3 hq1000 hlen a c HL hc HASH fr hfq hfr hfrom hsl2 hdl hltm v4 w4 HB4 HK4 HROW HS2 HVS hz4 HBX4.out hfi HRI hq _ rfl rfl rfl rfl rfl
            · exact arm_2 hp fuel hfu G HIH M w0 sb tv st ov V hw0 hM fop fs fl aop an asx al k fb foff fc HB hsb fdc fdd fdcode cc fla flc h7 HFO ala alc HP R L1 HOV hkp mu hmu0 rel nn wr hmu J K _ hJ hK stk lo s o2 m he hsf t at1 ib ioff hlenF HFN hfk hrel0 hw2 ia ib2 q hat w3 hz3 hq1000 hlen a c HL hc HASH fr hfq hfr hfrom hsl2 hdl hltm v4 w4 HB4 HK4 HROW HS2 HVS hz4 HBX4.out hfi HRI hq _ rfl rfl rfl rfl rfl
            · exact arm_3 hp fuel hfu G HIH M w0 sb tv st ov V hw0 hM fop fs fl aop an asx al k fb foff fc HB hsb fdc fdd fdcode cc fla flc h7 HFO ala alc HP R L1 HOV hkp mu hmu0 rel nn wr hmu J K _ hJ hK stk lo s o2 m he hsf t at1 ib ioff hlenF HFN hfk hrel0 hw2 ia ib2 q hat w3 hz3 hq1000 hlen a c HL hc HASH fr hfq hfr hfrom hsl2 hdl hltm v4 w4 HB4 HK4 HROW HS2 HVS hz4 HBX4.out hfi HRI hq _ rfl rfl rfl rfl rfl
            · exact arm_4 hp fuel hfu G HIH M w0 sb tv st ov V hw0 hM fop fs fl aop an asx al k fb foff fc HB hsb fdc fdd fdcode cc fla flc h7 HFO ala alc HP R L1 HOV hkp mu hmu0 rel nn wr hmu J K _ hJ hK stk lo s o2 m he hsf t at1 ib ioff hlenF HFN hfk hrel0 hw2 ia ib2 q hat w3 hz3 hq1000 hlen a c HL hc HASH fr hfq hfr hfrom hsl2 hdl hltm v4 w4 HB4 HK4 HROW HS2 HVS hz4 HBX4.out hfi HRI hq _ rfl rfl rfl rfl rfl
            · exact arm_5 hp fuel hfu G HIH M w0 sb tv st ov V hw0 hM fop fs fl aop an asx al k fb foff fc HB hsb fdc fdd fdcode cc fla flc h7 HFO ala alc HP R L1 HOV hkp mu hmu0 rel nn wr hmu J K _ hJ hK stk lo s o2 m he hsf t at1 ib ioff hlenF HFN hfk hrel0 hw2 ia ib2 q hat w3 hz3 hq1000 hlen a c HL hc HASH fr hfq hfr hfrom hsl2 hdl hltm v4 w4 HB4 HK4 HROW HS2 HVS hz4 HBX4.out hfi HRI hq _ rfl rfl rfl rfl rfl
            · exact arm_6 hp fuel hfu G HIH M w0 sb tv st ov V hw0 hM fop fs fl aop an asx al k fb foff fc HB hsb fdc fdd fdcode cc fla flc h7 HFO ala alc HP R L1 HOV hkp mu hmu0 rel nn wr hmu J K _ hJ hK stk lo s o2 m he hsf t at1 ib ioff hlenF HFN hfk hrel0 hw2 ia ib2 q hat w3 hz3 hq1000 hlen a c HL hc HASH fr hfq hfr hfrom hsl2 hdl hltm v4 w4 HB4 HK4 HROW HS2 HVS hz4 HBX4.out hfi HRI hq _ rfl rfl rfl rfl rfl
            · exact arm_7 hp fuel hfu G HIH M w0 sb tv st ov V hw0 hM fop fs fl aop an asx al k fb foff fc HB hsb fdc fdd fdcode cc fla flc h7 HFO ala alc HP R L1 HOV hkp mu hmu0 rel nn wr hmu J K _ hJ hK stk lo s o2 m he hsf t at1 ib ioff hlenF HFN hfk hrel0 hw2 ia ib2 q hat w3 hz3 hq1000 hlen a c HL hc HASH fr hfq hfr hfrom hsl2 hdl hltm v4 w4 HB4 HK4 HROW HS2 HVS hz4 HBX4.out hfi HRI hq _ rfl rfl rfl rfl rfl
            · exact arm_8 hp fuel hfu G HIH M w0 sb tv st ov V hw0 hM fop fs fl aop an asx al k fb foff fc HB hsb fdc fdd fdcode cc fla flc h7 HFO ala alc HP R L1 HOV hkp mu hmu0 rel nn wr hmu J K _ hJ hK stk lo s o2 m he hsf t at1 ib ioff hlenF HFN hfk hrel0 hw2 ia ib2 q hat w3 hz3 hq1000 hlen a c HL hc HASH fr hfq hfr hfrom hsl2 hdl hltm v4 w4 HB4 HK4 HROW HS2 HVS hz4 HBX4.out hfi HRI hq _ rfl rfl rfl rfl rfl
            · exact arm_9 hp fuel hfu G HIH M w0 sb tv st ov V hw0 hM fop fs fl aop an asx al k fb foff fc HB hsb fdc fdd fdcode cc fla flc h7 HFO ala alc HP R L1 HOV hkp mu hmu0 rel nn wr hmu J K _ hJ hK stk lo s o2 m he hsf t at1 ib ioff hlenF HFN hfk hrel0 hw2 ia ib2 q hat w3 hz3 hq1000 hlen a c HL hc HASH fr hfq hfr hfrom hsl2 hdl hltm v4 w4 HB4 HK4 HROW HS2 HVS hz4 HBX4.out hfi HRI hq _ rfl rfl rfl rfl rfl
            · exact arm_10 hp fuel hfu G HIH M w0 sb tv st ov V hw0 hM fop fs fl aop an asx al k fb foff fc HB hsb fdc fdd fdcode cc fla flc h7 HFO ala alc HP R L1 HOV hkp mu hmu0 rel nn wr hmu J K _ hJ hK stk lo s o2 m he hsf t at1 ib ioff hlenF HFN hfk hrel0 hw2 ia ib2 q hat w3 hz3 hq1000 hlen a c HL hc HASH fr hfq hfr hfrom hsl2 hdl hltm v4 w4 HB4 HK4 HROW HS2 HVS hz4 HBX4.out hfi HRI hq _ rfl rfl rfl rfl rfl
            · exact arm_11 hp fuel hfu G HIH M w0 sb tv st ov V hw0 hM fop fs fl aop an asx al k fb foff fc HB hsb fdc fdd fdcode cc fla flc h7 HFO ala alc HP R L1 HOV hkp mu hmu0 rel nn wr hmu J K _ hJ hK stk lo s o2 m he hsf t at1 ib ioff hlenF HFN hfk hrel0 hw2 ia ib2 q hat w3 hz3 hq1000 hlen a c HL hc HASH fr hfq hfr hfrom hsl2 hdl hltm v4 w4 HB4 HK4 HROW HS2 HVS hz4 HBX4.out hfi HRI hq _ rfl rfl rfl rfl rfl
            · exact arm_12 hp fuel hfu G HIH M w0 sb tv st ov V hw0 hM fop fs fl aop an asx al k fb foff fc HB hsb fdc fdd fdcode cc fla flc h7 HFO ala alc HP R L1 HOV hkp mu hmu0 rel nn wr hmu J K _ hJ hK stk lo s o2 m he hsf t at1 ib ioff hlenF HFN hfk hrel0 hw2 ia ib2 q hat w3 hz3 hq1000 hlen a c HL hc HASH fr hfq hfr hfrom hsl2 hdl hltm v4 w4 HB4 HK4 HROW HS2 HVS hz4 HBX4.out hfi HRI hq _ rfl rfl rfl rfl rfl
            · exact arm_13 hp fuel hfu G HIH M w0 sb tv st ov V hw0 hM fop fs fl aop an asx al k fb foff fc HB hsb fdc fdd fdcode cc fla flc h7 HFO ala alc HP R L1 HOV hkp mu hmu0 rel nn wr hmu J K _ hJ hK stk lo s o2 m he hsf t at1 ib ioff hlenF HFN hfk hrel0 hw2 ia ib2 q hat w3 hz3 hq1000 hlen a c HL hc HASH fr hfq hfr hfrom hsl2 hdl hltm v4 w4 HB4 HK4 HROW HS2 HVS hz4 HBX4.out hfi HRI hq _ rfl rfl rfl rfl rfl
            · exact arm_14 hp fuel hfu G HIH M w0 sb tv st ov V hw0 hM fop fs fl aop an asx al k fb foff fc HB hsb fdc fdd fdcode cc fla flc h7 HFO ala alc HP R L1 HOV hkp mu hmu0 rel nn wr hmu J K _ hJ hK stk lo s o2 m he hsf t at1 ib ioff hlenF HFN hfk hrel0 hw2 ia ib2 q hat w3 hz3 hq1000 hlen a c HL hc HASH fr hfq hfr hfrom hsl2 hdl hltm v4 w4 HB4 HK4 HROW HS2 HVS hz4 HBX4.out hfi HRI hq _ rfl rfl rfl rfl rfl
            · exact arm_15 hp fuel hfu G HIH M w0 sb tv st ov V hw0 hM fop fs fl aop an asx al k fb foff fc HB hsb fdc fdd fdcode cc fla flc h7 HFO ala alc HP R L1 HOV hkp mu hmu0 rel nn wr hmu J K _ hJ hK stk lo s o2 m he hsf t at1 ib ioff hlenF HFN hfk hrel0 hw2 ia ib2 q hat w3 hz3 hq1000 hlen a c HL hc HASH fr hfq hfr hfrom hsl2 hdl hltm v4 w4 HB4 HK4 HROW HS2 HVS hz4 HBX4.out hfi HRI hq _ rfl rfl rfl rfl rfl
            · exact arm_16 hp fuel hfu G HIH M w0 sb tv st ov V hw0 hM fop fs fl aop an asx al k fb foff fc HB hsb fdc fdd fdcode cc fla flc h7 HFO ala alc HP R L1 HOV hkp mu hmu0 rel nn wr hmu J K _ hJ hK stk lo s o2 m he hsf t at1 ib ioff hlenF HFN hfk hrel0 hw2 ia ib2 q hat w3 hz3 hq1000 hlen a c HL hc HASH fr hfq hfr hfrom hsl2 hdl hltm v4 w4 HB4 HK4 HROW HS2 HVS hz4 HBX4.out hfi HRI hq _ rfl rfl rfl rfl rfl
    · have heb : (s.e == 0) = false := beq_eq_false_iff_ne.2 he
      rw [if_pos he] at HEQ
      have n2 := HL.out.base.boxr
      have HX := Lib.hid (exit_zero HL.out.base hsb HEQ.out)
      go_wp2_with (refine wpList_store_row rfl 77 _ _ rfl (V.heap.size + 2) nil47 rfl rfl 77 nil47 n2 info47 rfl (all_one _ rfl) ?_)
      exact bodyPost_ret (results_cell_row rfl _ _ (V.heap.size + 2) 77 _ (0, 0) _ rfl (setRow_heap _ _ _ _ _ _ n2) Tryz.underlying77 rfl info47) rfl HX.out
theorem call_all {p : ProgD} (hp : GoodP p) (fuel : Int) (hfu : fuel ≤ 1000000) : ∀ G, CallOk p fuel G := fun G => Nat.strongRecOn G fun G ih => call_any hp fuel hfu G ih
end Go.Proofs.YtidolpcbbbakmaaGreat
