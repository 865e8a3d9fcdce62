/- compile.Fun in general. call of the reference of layer 47: what a round needs. -/
import Derived.Test.YtidolpcbbbakmaaGreatM38
import Derived.Test.YtidolpcbbbakmaaGreatM25
import Derived.Test.YtidolpcbbbakmaaGreatM37
namespace Go.Proofs.YtidolpcbbbakmaaGreat
open Go Go.RowKit
open Go.Maps
/-- What Fun answers at a flat function of a valid list, where its texts are in order. -/
def FunG (ts : List ByteArray) (f : FlatD) (w : World) (e : Ending) (w' : World) : Prop :=
  ∃ (g : FunD) (tv' : Value), e = .returned (.tuple #[.agg #[.int .i64 g.c, .int .i64 g.l, .int .i64 g.d, g.v], tv', .int .i64 0]) ∧ IsCode w' g.v g.code ∧ FunOf ((textsX f.body).foldl addT ts) f g ∧ Below w.heap.size w w' ∧ (∀ j, g.v.ownBlock = some j → w.heap.size ≤ j) ∧ OwnS w' w.heap.size tv' ((textsX f.body).foldl addT ts)
theorem textsL_one (x : ExpD) : textsL [x] = textsX x := by rw [textsL, textsL]; exact List.append_nil _
theorem sizeL_one (x : ExpD) : sizeL [x] = sizeX x := by rw [sizeL, sizeL]; rfl
set_option maxHeartbeats 4000000 in
set_option maxRecDepth 100000 in
theorem cFun_more (B : Nat) (fl : List FlatD) (hl : fl.length ≤ 4096) (hcaps : ∀ f ∈ fl, 0 ≤ f.caps ∧ f.caps ≤ 1000) (f : FlatD) (tv : Value) (ts : List ByteArray) (w : World) (hBw : B ≤ w.heap.size) (hx : IsExp B w f.body) (hf : funB (cloV fl) f = true) (hs : sizeX f.body ≤ 600) (hh : heightX f.body ≤ 211)
    (BT : Nat) (hT : OwnS w BT tv ts) (htl : ts.length ≤ 1000) (htz : ∀ s ∈ ts, s.size ≤ maxLen) (hq : (ts ++ textsX f.body).any notQ = false) (hlen : ((textsX f.body).foldl addT ts).length ≤ 1000) (hsz : ∀ s ∈ textsX f.body, s.size ≤ maxLen) (hfz : ∀ s ∈ (textsX f.body).foldl addT ts, s.size ≤ maxLen) :
    Calls Tryz.prog 11 #[flatDV f, tv] w (FunG ts f w) := by
  obtain ⟨caps, ⟨xo, xn, xs, xv, xl⟩⟩ := f
  obtain ⟨xa, xc, rfl, _⟩ := hx.parts.1
  have hLO := cLocals_all B fl hl hcaps ⟨caps, .mk xo xn xs (.slice xa xl.length xc) xl⟩
  have hFU := fun tv2 => cfunF_any B fl hl hcaps ⟨caps, .mk xo xn xs (.slice xa xl.length xc) xl⟩ tv2 ((textsX (.mk xo xn xs (.slice xa xl.length xc) xl)).foldl addT ts)
  have hTL := textsL_one (.mk xo xn xs (.slice xa xl.length xc) xl)
  have hSL := sizeL_one (.mk xo xn xs (.slice xa xl.length xc) xl)
  have hFL : flatDV ⟨caps, .mk xo xn xs (.slice xa xl.length xc) xl⟩ = .agg #[.int .i64 caps, .int .i64 xo, .int .i64 xn, .string xs, .slice xa xl.length xc] := rfl
  have hx' : IsExp B w (.mk xo xn xs (.slice xa xl.length xc) xl) := hx
  have hs' : sizeX (.mk xo xn xs (.slice xa xl.length xc) xl) ≤ 600 := hs
  have hlen' : ((textsX (.mk xo xn xs (.slice xa xl.length xc) xl)).foldl addT ts).length ≤ 1000 := hlen
  have hq' : (ts ++ textsX (.mk xo xn xs (.slice xa xl.length xc) xl)).any notQ = false := hq
  have hsz' : ∀ s ∈ textsX (.mk xo xn xs (.slice xa xl.length xc) xl), s.size ≤ maxLen := hsz
  have hfz' : ∀ s ∈ (textsX (.mk xo xn xs (.slice xa xl.length xc) xl)).foldl addT ts, s.size ≤ maxLen := hfz
  have hFO : ∀ (code : List Ins) (d : Int) (cv : Value), Whole code (textT ((textsX (.mk xo xn xs (.slice xa xl.length xc) xl)).foldl addT ts)) (.mk xo xn xs (.slice xa xl.length xc) xl) → DepOk code d 0 → FunOf ((textsX (.mk xo xn xs (.slice xa xl.length xc) xl)).foldl addT ts) ⟨caps, .mk xo xn xs (.slice xa xl.length xc) xl⟩ ⟨caps, locX 1 (.mk xo xn xs (.slice xa xl.length xc) xl), d, cv, code⟩ := fun _ _ _ h1 h2 => ⟨rfl, rfl, h1, h2⟩
  have HFO := Lib.hid hFO
  rw [hFL]
  have hbb : Below w.heap.size w ((w.alloc (.cells #[.int .i64 caps, .int .i64 xo, .int .i64 xn, .string xs, .slice xa xl.length xc] 31)).alloc (.cells #[.int .i64 0, .int .i64 0, .int .i64 0, .slice none 0 0] 43)) := ((Below.refl _ _).alloc (Nat.le_refl _) _).alloc (by simp) _
  have gP : ((w.alloc (.cells #[.int .i64 caps, .int .i64 xo, .int .i64 xn, .string xs, .slice xa xl.length xc] 31)).alloc (.cells #[.int .i64 0, .int .i64 0, .int .i64 0, .slice none 0 0] 43)).heap[w.heap.size]? = some (.cells #[.int .i64 caps, .int .i64 xo, .int .i64 xn, .string xs, .slice xa xl.length xc] 31 (0, 0)) := (Below.heap_alloc _ _ _ (by simp)).trans (new_heap w _)
  have gR : ((w.alloc (.cells #[.int .i64 caps, .int .i64 xo, .int .i64 xn, .string xs, .slice xa xl.length xc] 31)).alloc (.cells #[.int .i64 0, .int .i64 0, .int .i64 0, .slice none 0 0] 43)).heap[w.heap.size + 1]? = some (.cells #[.int .i64 0, .int .i64 0, .int .i64 0, .slice none 0 0] 43 (0, 0)) := (congrArg _ (by simp)).trans (new_heap (w.alloc _) _)
  have hX1 := hx'.under (hbb.mono hBw)
  have hT1 := hT.grown (grown_below hbb) (by nofun)
  have hLO1 := hLO _ (by have := hbb.size; omega) hX1 hf hs hh
  rw [hFL] at hLO1
  have HLO1 := Lib.hid hLO1
  obtain ⟨ta, tc, rfl⟩ := own_shape hT1.1
  have HT1 := Lib.hid hT1
  have HX1 := Lib.hid hX1
  have HFU := Lib.hid hFU
  have HF := Lib.hid hf
  have HSS := Lib.hid (And.intro hs hh)
  have HTL := Lib.hid hTL
  have HSL := Lib.hid hSL
  have HS' := Lib.hid hs'
  have HLEN := Lib.hid hlen'
  have HQ := Lib.hid hq'
  have HSZ := Lib.hid hsz'
  have HFZ := Lib.hid hfz'
  have HTZ := Lib.hid htz
  clear hx hx' hT hLO hLO1 hT1 hX1 hFL hFU hFO hs hh hq hlen hsz hfz hf hTL hSL hs' hlen' hq' hsz' hfz' htz
  obtain ⟨lx, hlx⟩ : ∃ lx, locX 1 (.mk xo xn xs (.slice xa xl.length xc) xl) = lx := ⟨_, rfl⟩
  have HLX := Lib.hid hlx
  clear hlx
  go_enter Tryz.func11, Tryz.ntmps11
  go_wp2_with fail
  generalize ((w.alloc (.cells #[.int .i64 caps, .int .i64 xo, .int .i64 xn, .string xs, .slice xa xl.length xc] 31)).alloc (.cells #[.int .i64 0, .int .i64 0, .int .i64 0, .slice none 0 0] 43)) = W at *
  refine HLO1.out.mono ?_
  rintro e w2 ⟨rfl, hb2⟩
  have gP2 := (hb2.block _ (heap_lt gP)).trans gP
  have gR2 := (hb2.block _ (heap_lt gR)).trans gR
  have hB2 := hbb.trans (hb2.mono hbb.size)
  have hX2 := HX1.out.under (hb2.mono (Nat.le_trans hBw hbb.size))
  have hT2 := HT1.out.grown (grown_below hb2) (by nofun)
  obtain ⟨p0, p1, p2, p3, p4⟩ := flat_cells gP2
  have hg3 := grown_alloc w2 (.cells #[.int .i64 xo, .int .i64 xn, .string xs, .slice xa xl.length xc] 29)
  have gX := new_heap w2 (.cells #[.int .i64 xo, .int .i64 xn, .string xs, .slice xa xl.length xc] 29)
  have gP3 := (hg3.block _ (heap_lt gP2) (by nofun)).trans gP2
  have gR3 := (hg3.block _ (heap_lt gR2) (by nofun)).trans gR2
  have hX3 := hX2.under (grown_under (B := B) hg3 (by have := hbb.size; have := hb2.size; omega) (by nofun))
  have hT3 := hT2.grown hg3 (by nofun)
  have hB3 := hB2.trans (grown_under (B := w.heap.size) hg3 hB2.size (by nofun))
  have hz3 := hB3.size
  have hrow : RowB (w2.alloc (.cells #[.int .i64 xo, .int .i64 xn, .string xs, .slice xa xl.length xc] 29)).heap.size (w2.alloc (.cells #[.int .i64 xo, .int .i64 xn, .string xs, .slice xa xl.length xc] 29)) (.slice (some ⟨w2.heap.size, 0, none⟩) 1 1) [ExpD.mk xo xn xs (.slice xa xl.length xc) xl].length (expCells [ExpD.mk xo xn xs (.slice xa xl.length xc) xl]) :=
    ⟨_, _, rfl, Nat.le_refl _, fun _ => ⟨_, 0, rfl, heap_lt gX, fun j hj => by
      rw [Nat.zero_add, cell_of_row _ _ j _ _ _ gX]
      have h4 : j < 4 := hj
      have : j = 0 ∨ j = 1 ∨ j = 2 ∨ j = 3 := by omega
      rcases this with rfl | rfl | rfl | rfl <;> rfl⟩⟩
  have HW := Lib.hid (with_more (.slice ta ts.length tc) ts BT _ [ExpD.mk xo xn xs (.slice xa xl.length xc) xl] _ hrow (fun y hy => by rw [List.mem_singleton.1 hy]; exact hX3.mono (by omega)) (by rw [HSL.out]; have := HS'.out; omega) (by rw [HTL.out]; exact HSZ.out) hT3 htl HTZ.out)
  rw [HTL.out] at HW
  have HX3 := Lib.hid hX3
  have HB3 := Lib.hid hB3
  have HP3 := Lib.hid gP3
  have HR3 := Lib.hid gR3
  clear hrow hX3 hX2 hT3 hT2 hb2 gX gP gR gP2 gR2 gP3 gR3 hg3 hB2 hB3 hbb
  go_wp2_with fail
  refine HW.out.mono ?_
  generalize (w2.alloc (.cells #[.int .i64 xo, .int .i64 xn, .string xs, .slice xa xl.length xc] 29)) = w3 at *
  rintro e w4 ⟨hb4, hcase⟩
  rcases hcase with ⟨h1, _⟩ | ⟨_, h2, _⟩ | ⟨_, _, tv', rfl, hO⟩
  · exact absurd (h1.symm.trans HQ.out) (by decide)
  · exact absurd HLEN.out (by omega)
  have gP4 := (hb4.block _ (heap_lt HP3.out)).trans HP3.out
  have gR4 := (hb4.block _ (heap_lt HR3.out)).trans HR3.out
  have hB4 := HB3.out.trans (hb4.mono HB3.out.size)
  have hX4 := HX3.out.under (hb4.mono (by omega))
  have hz4 := hB4.size
  obtain ⟨ua, uc, rfl⟩ := own_shape hO.1
  clear p0 p1 p2 p3 p4
  obtain ⟨p0, p1, p2, p3, p4⟩ := flat_cells gP4
  have hFN := HFU.out _ w4 (by omega) hX4 HF.out HSS.out.1 HSS.out.2 hO.texts (by have := HLEN.out; omega) HFZ.out
  have HFN := Lib.hid hFN
  rw [show flatDV ⟨caps, (.mk xo xn xs (.slice xa xl.length xc) xl)⟩ = .agg #[.int .i64 caps, .int .i64 xo, .int .i64 xn, .string xs, .slice xa xl.length xc] from rfl] at HFN
  have HO := Lib.hid (And.intro (hO.less (by omega : w.heap.size ≤ w3.heap.size)) (owns_lt hO.1))
  have HB4 := Lib.hid hB4
  have HR4 := Lib.hid gR4
  clear hFN hO hB4 hX4 hb4 gP4 gR4 HW
  go_wp2_with fail
  refine HFN.out.mono ?_
  rintro e w5 ⟨code, d, cv, rfl, hI, hWh, hD, hb5, hcb⟩
  have gR5 := (hb5.block _ (heap_lt HR4.out)).trans HR4.out
  have hB5 := HB4.out.trans (hb5.mono hz4)
  have hO5 := HO.out.1.grown (grown_below hb5) (by nofun)
  have HFO5 := Lib.hid (HFO.out code d cv hWh hD)
  rw [HLX.out] at HFO5
  obtain ⟨ca, cc, rfl, hcc, hcell⟩ := hI
  have hI : IsCode w5 (.slice ca code.length cc) code := ⟨ca, cc, rfl, hcc, hcell⟩
  have hg6 := grown_alloc w5 (.cells #[.int .i64 caps, .int .i64 lx, .int .i64 d, .slice ca code.length cc] 43)
  have gX6 := new_heap w5 (.cells #[.int .i64 caps, .int .i64 lx, .int .i64 d, .slice ca code.length cc] 43)
  have gR6 := (hg6.block _ (heap_lt gR5) (by nofun)).trans gR5
  have hz5 := hB5.size
  have hB6 := hB5.trans (grown_under (B := w.heap.size) hg6 hz5 (by nofun))
  have HO6 := Lib.hid (hO5.grown hg6 (by nofun))
  have HI6 : Hid (IsCode (w5.alloc (.cells #[.int .i64 caps, .int .i64 lx, .int .i64 d, .slice ca code.length cc] 43)) (.slice ca code.length cc) code) := Lib.hid (IsRow.below hI (grown_under hg6 (Nat.le_refl _) (by nofun)))
  have HCB := Lib.hid hcb
  have hclt : ∀ j, (Value.slice ca code.length cc).ownBlock = some j → j < w5.heap.size := fun j hj => by
    obtain ⟨b, off, rfl, hlt, _⟩ := hcell (by have := hWh.2.1; omega)
    cases hj; exact hlt
  obtain ⟨q0, q1, q2, q3⟩ := fun_cells gX6
  have HR6 := Lib.hid gR6
  have HB6 := Lib.hid hB6
  have hz6 := hg6.size
  have hzr := heap_lt HR4.out
  have hzr3 := heap_lt HR3.out
  rw [HLX.out]
  clear hI hcell hcc hWh hD hb5 hcb gR5 hB5 hO5 hg6 gX6 gR6 hB6 p0 p1 p2 p3 p4 HFN HLO1 HFU HFO
  go_upto_region 10 with fail
  generalize (w5.alloc (.cells #[.int .i64 caps, .int .i64 lx, .int .i64 d, .slice ca code.length cc] 43)) = w6 at *
  obtain ⟨r0, r1, r2, r3⟩ := fun_cells HR6.out
  have hfz0 : w6.frozen? ⟨w.heap.size + 1, 0, none⟩ = false := Lib.frozen_of_heap HR6.out 0
  have hfz1 : w6.frozen? ⟨w.heap.size + 1, 1, none⟩ = false := Lib.frozen_of_heap HR6.out 1
  have hfz2 : w6.frozen? ⟨w.heap.size + 1, 2, none⟩ = false := Lib.frozen_of_heap HR6.out 2
  have hfz3 : w6.frozen? ⟨w.heap.size + 1, 3, none⟩ = false := Lib.frozen_of_heap HR6.out 3
  obtain ⟨gr, hgr⟩ := set4 HR6.out (.int .i64 caps) (.int .i64 lx) (.int .i64 d) (.slice ca code.length cc)
  have hb6 := HB6.out
  have hbf := hb6.trans (grown_under (B := w.heap.size) hgr hb6.size (fun k hk => by cases hk; omega))
  have HE := Lib.hid (And.intro hbf (And.intro (HO6.out.grown hgr (fun k hk e => by cases hk; have := (HO.out.2 _ e).1; omega)) (row_stays HI6.out hgr.size fun j hj => hgr.block j (by have := (heap_lt HR6.out); have := hclt j hj; have := hz6; omega) (fun e => by cases e; have := HCB.out _ hj; omega))))
  have HG := Lib.hid gr
  clear hgr hb6 gr hbf
  go_wp2_with fail
  have hg1 := HG.out
  refine bodyPost_ret (v := .tuple #[.agg #[.int .i64 caps, .int .i64 lx, .int .i64 d, .slice ca code.length cc], .slice ua ((textsX (.mk xo xn xs (.slice xa xl.length xc) xl)).foldl addT ts).length uc, .int .i64 0]) ?_ rfl ⟨⟨caps, lx, d, .slice ca code.length cc, code⟩, _, rfl, HE.out.2.2, HFO5.out, HE.out.1, fun j hj => Nat.le_trans hz4 (HCB.out j hj), HE.out.2.1⟩
  rw [results_cell_tmp2 (p := 4) (u := 5) (v := 6) (ty := 43) rfl]
  simp [asAddr, run_loadVar_row _ _ _ _ _ _ _ hg1 Tryz.underlying43 rfl fun_info, Result.andThen]
end Go.Proofs.YtidolpcbbbakmaaGreat
namespace Go.Proofs.YtidolpcbbbakmaaGreat
open Go Go.RowKit
theorem wpList_slice_of {w : World} {ops : Array Oper} {rest : List Oper} {o : Oper} {a : Act} {Q : Exit → Act → World → Prop} (hgd : o.guard = none) (t : TypeId) (x : Operand) (lo hi mx : Option Operand) (hop : o.op = Op.slice t x lo hi mx) (v : Value)
    (hr : (Instr.sliceAt t (a.eval x) (lo.map a.eval) (hi.map a.eval) (mx.map a.eval)).run Tryz.prog w = .ok v w) (h : wpList Tryz.prog ops Q rest (a.put o.dst v) w) : wpList Tryz.prog ops Q (o :: rest) a w := by
  refine wpList_plain hgd fun K hK => ?_
  unfold Oper.wp
  simp [execOp, hop, hr, Result.andThen]
  exact hK _ _ h
theorem size_of_val (w : World) : (sizeOf (Tryz.prog.elem 75)).run Tryz.prog w = .ok 4 w := by kernel_rfl
theorem under_vals : Tryz.prog.underlying 75 = some (.slice (Tryz.prog.elem 75)) := by kernel_rfl
theorem slice_tail (a : Option Addr) (n c q : Nat) (hq : q ≤ n) (w : World) : (Instr.sliceAt 75 (.slice a n c) (some (.int .i64 (q : Int))) none none).run Tryz.prog w = .ok (.slice (if c = q then a else a.map (·.add (q * 4))) (n - q) (c - q)) w := by
  rw [run_sliceAt_slice w _ _ _ _ _ under_vals, run_slice_any w _ a n c under_vals]
  have h1 : (Instr.sliceBounds true n c (some (Value.int .i64 (q : Int))) none none).run Tryz.prog w = .ok (q, n, c) w := by
    simp [Instr.sliceBounds, run_sliceBound, (by omega : (q : Int) ≤ n), (by omega : q ≤ n)]
  rw [h1]
  simp only [Result.andThen, size_of_val]
  rfl
theorem slice_head (a : Option Addr) (n c q : Nat) (hq : q ≤ c) (w : World) : (Instr.sliceAt 75 (.slice a n c) none (some (.int .i64 (q : Int))) (some (.int .i64 (q : Int)))).run Tryz.prog w = .ok (.slice (if q = 0 then a else a.map (·.add (0 * 4))) q q) w := by
  rw [run_sliceAt_slice w _ _ _ _ _ under_vals, run_slice_any w _ a n c under_vals]
  have h1 : (Instr.sliceBounds true n c none (some (Value.int .i64 (q : Int))) (some (Value.int .i64 (q : Int)))).run Tryz.prog w = .ok (0, q, q) w := by
    simp [Instr.sliceBounds, run_sliceBound, (by omega : (q : Int) ≤ c), (by omega : q ≤ c)]
  rw [h1]
  simp only [Result.andThen, size_of_val]
  rfl
/-- The stack's tail and its head. -/
theorem stack_cut {M : Nat → Prop} {sv : Value} {stk : List ExpD} (hs : (sv = .slice none 0 0 ∧ stk = []) ∨ ∃ g c, sv = .slice (some ⟨g, 0, none⟩) stk.length c ∧ stk.length ≤ c) (k : Nat) (hk : k ≤ stk.length) :
    ∃ (a : Option Addr) (c : Nat) (pa : Option Addr), sv = .slice a stk.length c ∧ stk.length ≤ c ∧ (∀ w, (Instr.sliceAt 75 (.slice a stk.length c) (some (.int .i64 ((stk.length - k : Nat) : Int))) none none).run Tryz.prog w = .ok (.slice pa k (c - (stk.length - k))) w) ∧
      (∀ w, (Instr.sliceAt 75 (.slice a stk.length c) none (some (.int .i64 ((stk.length - k : Nat) : Int))) (some (.int .i64 ((stk.length - k : Nat) : Int)))).run Tryz.prog w = .ok (.slice a (stk.length - k) (stk.length - k)) w) ∧
      (pa = none → k = 0 ∧ c - (stk.length - k) = 0) ∧
      (∀ w, RowV M w sv stk.length (expCells stk) → ∀ ad, pa = some ad → ∀ j u, (expCells (stk.drop (stk.length - k)))[j]? = some u → w.cell? (ad.add j) = some u) ∧
      ((a = none ∧ stk = []) ∨ ∃ g, a = some ⟨g, 0, none⟩) := by
  rcases hs with ⟨rfl, rfl⟩ | ⟨g, c, rfl, hc⟩
  · obtain rfl : k = 0 := by simpa using hk
    refine ⟨none, 0, none, rfl, Nat.le_refl _, fun w => ?_, fun w => ?_, fun _ => ⟨rfl, rfl⟩, ?_, .inl ⟨rfl, rfl⟩⟩
    · exact slice_tail none 0 0 0 (Nat.le_refl _) w
    · exact slice_head none 0 0 0 (Nat.le_refl _) w
    · intro w _ ad h; cases h
  · refine ⟨some ⟨g, 0, none⟩, c, if c = stk.length - k then some ⟨g, 0, none⟩ else some ⟨g, 0 + (stk.length - k) * 4, none⟩, rfl, hc, fun w => ?_, fun w => ?_, fun e => ?_, fun w hr ad hd j u hu => ?_, .inr ⟨g, rfl⟩⟩
    · rw [slice_tail _ _ _ _ (Nat.sub_le _ _) w, show stk.length - (stk.length - k) = k by omega]
      simp [Addr.add_lit]
    · rw [slice_head _ _ _ _ (by omega) w]
      simp [Addr.add_lit]
    · split at e <;> cases e
    · by_cases hcq : c = stk.length - k
      · obtain rfl : k = 0 := by omega
        rw [List.drop_of_length_le (by omega)] at hu
        cases hu
      · rw [if_neg hcq] at hd
        cases hd
        exact rowV_tail hr _ (Nat.sub_le _ _) j u hu
theorem arity_small (n : Int) : 0 ≤ ref46_arity n ∧ ref46_arity n ≤ 2 := by
  unfold ref46_arity
  split
  · exact ⟨by decide, by decide⟩
  · split
    · exact ⟨by decide, by decide⟩
    · exact ⟨by decide, by decide⟩
theorem pops_ok {nt : Nat} {fs : List FunD} {c l : Int} {code : List Ins} {k : Nat} {i : Ins} (h : rightI nt fs c l code k i = true) (hc : ∀ n, 0 ≤ n → n < (fs.length : Int) → (0 ≤ (fs.getD n.toNat default).c ∧ (fs.getD n.toNat default).c ≤ 1000)) : (effT i.op i.a i.b).1 = (popsOf i : Int) ∧ popsOf i ≤ 1000 := by
  obtain ⟨_, _, _, r7, r10, _, _, _, r15⟩ := right_rest h
  have key : 0 ≤ (effT i.op i.a i.b).1 ∧ (effT i.op i.a i.b).1 ≤ 1000 := by
    unfold effT
    split
    · exact ⟨by decide, by decide⟩
    split
    · exact ⟨by decide, by decide⟩
    split
    · rename_i h7
      have := (r7 h7).2
      have h2 := hc i.a (r7 h7).1.1 (by have := (r7 h7).1.2; omega)
      rw [if_pos ((inB_iff _ _ _).2 (by omega))]
      exact ⟨by simp only; omega, by simp only; omega⟩
    split
    · rename_i h10
      have := r10 h10
      rw [if_pos ((inB_iff _ _ _).2 (by omega))]
      exact this
    split
    · exact ⟨by decide, by decide⟩
    split
    · exact ⟨by decide, by decide⟩
    split
    · exact ⟨by decide, by decide⟩
    split
    · rename_i h15
      have := r15 h15
      rw [if_pos ((inB_iff _ _ _).2 (by omega))]
      exact ⟨(arity_small i.a).1, by have := (arity_small i.a).2; simp only; omega⟩
    · exact ⟨by decide, by decide⟩
  unfold popsOf
  omega
theorem insC_at {w : World} {a : Option Addr} {c : Nat} {code : List Ins} (h : IsCode w (.slice a code.length c) code) (n : Nat) (hn : n < code.length) :
    ∃ b off, a = some ⟨b, off, none⟩ ∧ b < w.heap.size ∧ w.cell? ⟨b, off + n * 3, none⟩ = some (.int .i64 (code.getD n default).op) ∧ w.cell? ⟨b, off + n * 3 + 1, none⟩ = some (.int .i64 (code.getD n default).a) ∧ w.cell? ⟨b, off + n * 3 + 2, none⟩ = some (.int .i64 (code.getD n default).b) := by
  obtain ⟨a', c', hv, hlc, hcell⟩ := h
  obtain ⟨rfl, _, rfl⟩ := Value.slice.inj hv
  obtain ⟨b, off, rfl, hlt, hc⟩ := hcell (by omega)
  obtain ⟨c0, c1, c2⟩ := insCells_at code n hn
  have hlen := insCells_length code
  refine ⟨b, off, rfl, hlt, ?_, ?_, ?_⟩
  · rw [hc (n * 3) (by omega), c0]
  · rw [Nat.add_assoc, hc (n * 3 + 1) (by omega), c1]
  · rw [Nat.add_assoc, hc (n * 3 + 2) (by omega), c2]
theorem SSt.tick {w : World} {sb : Nat} {fv tv : Value} {main fuel : Int} {s : StD} {ov : Value} (h : SSt w sb fv tv main fuel s ov) : SSt (w.setCell ⟨sb, 4, none⟩ (.int .i64 (s.steps + 1))) sb fv tv main fuel (tick s) ov :=
  ⟨heap_set_same (i := 4) h.blk _, owns_grown h.own (grown_set w sb 4 _) (fun k hk e => by have := (owns_lt h.own _ e).1; cases hk; omega)⟩
theorem lr_jump {p : ProgD} {fuel : Int} {G : Nat} {M : Nat → Prop} {sb : Nat} {fv tv ov : Value} {f : ExpD} {R : ValD × StD} {V wr w' : World} {cv sv : Value} {stk lo lo' : List ExpD} {at_ at' : Int} {s : StD} {o2 : Value} {m fr : Nat} {a : Option Addr} (HL : LR p fuel G M sb fv tv ov f R V cv stk lo at_ s o2 (m + 1) sv wr)
    (hB : BaseV p fuel M sb fv tv ov f V cv lo' (tick s) o2 w') (hfr : fr ≤ stk.length) (hash : (a = none ∧ stk = []) ∨ ∃ g, a = some ⟨g, 0, none⟩) (hS2 : RowV (Mine M V.heap.size) w' (.slice a fr fr) fr (expCells (stk.take fr))) (hv : ∀ y ∈ stk, IsV (Mine M V.heap.size) w' y) (hlen : lo'.length = lo.length) (hlook : ∀ y ∈ lo', ValOk p (stripX y))
    (heq : runP p fuel m (stripX f) (lo'.map stripX) ((stk.take fr).map stripX) at' (tick s) = R) (hne : s.steps ≠ fuel) (h0 : 0 ≤ at') (h1 : at' ≤ 20000) : LR p fuel G M sb fv tv ov f R V cv (stk.take fr) lo' at' (tick s) o2 m (.slice a fr fr) w' := by
  have hgas := HL.gas
  have htop := HL.top
  have hpos := HL.pos
  have hle := HL.le
  have hsm := HL.small
  have ht : (tick s).steps = s.steps + 1 := rfl
  have hl : (stk.take fr).length = fr := by rw [List.length_take]; omega
  refine ⟨hB, ?_, by rw [hl]; exact hS2, fun y hy => hv y (List.mem_of_mem_take hy), by rw [hlen]; exact HL.lolen, heq, by omega, by omega, by omega, by omega, hlook, fun y hy => HL.stkok y (List.mem_of_mem_take hy), HL.out, by omega, h0, h1⟩
  rcases hash with ⟨rfl, rfl⟩ | ⟨g, rfl⟩
  · obtain rfl : fr = 0 := by simpa using hfr
    exact .inl ⟨rfl, rfl⟩
  · exact .inr ⟨g, fr, by rw [hl], by rw [hl]; exact Nat.le_refl _⟩
theorem lr_push {p : ProgD} {fuel : Int} {G : Nat} {M : Nat → Prop} {sb : Nat} {fv tv ov : Value} {f x : ExpD} {R : ValD × StD} {V wr w' : World} {cv sv : Value} {stk lo : List ExpD} {at_ at' : Int} {s s3 : StD} {o2 o3 : Value} {m fr g c : Nat} (HL : LR p fuel G M sb fv tv ov f R V cv stk lo at_ s o2 (m + 1) sv wr)
    (hB : BaseV p fuel M sb fv tv ov f V cv lo s3 o3 w') (hfr : fr ≤ stk.length) (hS2 : RowV (Mine M V.heap.size) w' (.slice (some ⟨g, 0, none⟩) (fr + 1) c) (fr + 1) (expCells (stk.take fr ++ [x]))) (hc : fr + 1 ≤ c) (hv : ∀ y ∈ stk, IsV (Mine M V.heap.size) w' y) (hx : IsV (Mine M V.heap.size) w' x) (hxo : ValOk p (stripX x))
    (heq : runP p fuel m (stripX f) (lo.map stripX) ((stk.take fr).map stripX ++ [stripX x]) at' s3 = R) (hs3 : s.steps + 1 ≤ s3.steps) (ht3 : s3.steps ≤ fuel) (ho3 : s3.out.length ≤ 1000) (h0 : 0 ≤ at') (h1 : at' ≤ 20000) : LR p fuel G M sb fv tv ov f R V cv (stk.take fr ++ [x]) lo at' s3 o3 m (.slice (some ⟨g, 0, none⟩) (fr + 1) c) w' := by
  have hgas := HL.gas
  have htop := HL.top
  have hpos := HL.pos
  have hle := HL.le
  have hsm := HL.small
  have hl : (stk.take fr ++ [x]).length = fr + 1 := by simp; omega
  refine ⟨hB, .inr ⟨g, c, by rw [hl], by rw [hl]; exact hc⟩, by rw [hl]; exact hS2, fun y hy => ?_, HL.lolen, by rw [List.map_append]; exact heq, by omega, by omega, by omega, ht3, HL.look, fun y hy => ?_, ho3, by rw [hl]; omega, h0, h1⟩
  · rcases List.mem_append.1 hy with h | h
    · exact hv y (List.mem_of_mem_take h)
    · rw [List.mem_singleton.1 h]; exact hx
  · rcases List.mem_append.1 hy with h | h
    · exact HL.stkok y (List.mem_of_mem_take h)
    · rw [List.mem_singleton.1 h]; exact hxo
theorem row_cells {M : Nat → Prop} {w : World} {a : Option Addr} {n c : Nat} {xs : List Value} (h : RowV M w (.slice a n c) n xs) {b : Addr} (hb : a = some b) {j : Nat} {u : Value} (hj : xs[j]? = some u) (hn : xs.length = n * 4 := by rw [expCells_length, List.length_take]; omega) : w.cell? (b.add j) = some u := by
  obtain ⟨a', c', hv, _, _, hcell⟩ := h
  obtain ⟨rfl, _, rfl⟩ := Value.slice.inj hv
  have hlt := (List.getElem?_eq_some_iff.1 hj).1
  obtain ⟨g, off, cur, ha, _, _, hc⟩ := hcell (by omega)
  rw [hb] at ha
  cases ha
  rw [Addr.add_lit, hc j hlt]
  simp [List.getD, hj]
theorem step_le {s fuel : Int} (h : s ≤ fuel) (hn : s ≠ fuel) : s + 1 ≤ fuel := by omega
theorem mu_less {fuel s s' : Int} (h : s ≤ fuel) (hn : s ≠ fuel) (h2 : s + 1 ≤ s') : (fuel - s').toNat < (fuel - s).toNat := by omega
theorem push_end {p : ProgD} {fuel : Int} {G : Nat} {M : Nat → Prop} {sb : Nat} {fv tv ov : Value} {f x : ExpD} {R : ValD × StD} {V wr W5 W6 w' : World} {cv sv v6 : Value} {stk lo : List ExpD} {at_ at' : Int} {s s3 : StD} {o2 o3 : Value} {m fr B : Nat} (HL : LR p fuel G M sb fv tv ov f R V cv stk lo at_ s o2 (m + 1) sv wr)
    (hB : BaseV p fuel M sb fv tv ov f V cv lo s3 o3 W5) (hK : KeepV (Mine M V.heap.size) wr W5) (hfr : fr ≤ stk.length) (hltm : ∀ b, Mine M V.heap.size b → b < W5.heap.size) (hx : IsV (Mine M V.heap.size) W5 x) (hxo : ValOk p (stripX x))
    (heq : runP p fuel m (stripX f) (lo.map stripX) ((stk.take fr).map stripX ++ [stripX x]) at' s3 = R) (hs3 : s.steps + 1 ≤ s3.steps) (ht3 : s3.steps ≤ fuel) (ho3 : s3.out.length ≤ 1000) (h0 : 0 ≤ at') (h1 : at' ≤ 20000)
    (h56 : W5.grownBy W6 none) (hB6 : W5.heap.size ≤ B) (hown : w'.ownsRow B 77 4 v6 (fr + 1) (expCells (stk.take fr) ++ [.int .i64 x.op, .int .i64 x.n, .string x.s, x.lv])) (hg6 : W6.grownBy w' none) :
    LR p fuel G M sb fv tv ov f R V cv (stk.take fr ++ [x]) lo at' s3 o3 m v6 w' := by
  have g := both h56 hg6
  have hk := keepV_grown (M := Mine M V.heap.size) g
  obtain ⟨gg, cap, rfl, _, _⟩ := hown.form (Nat.succ_pos _)
  have hcap : fr + 1 ≤ cap := by
    obtain ⟨_, ⟨hv, _⟩ | ⟨_, _, _, hv, _, _, hc, _⟩⟩ := hown
    · cases hv
    · obtain ⟨_, _, rfl⟩ := Value.slice.inj hv; exact hc
  rw [show expCells (stk.take fr) ++ [Value.int .i64 x.op, .int .i64 x.n, .string x.s, x.lv] = expCells (stk.take fr ++ [x]) from (expCells_snoc _ _).symm] at hown
  exact lr_push HL (hB.free g) hfr (rowV_owned hown (fun b hb => Nat.lt_of_lt_of_le (hltm b hb) hB6)) hcap (fun y hy => (HL.stackv y hy).kept (hK.trans hk)) (hx.kept hk) hxo heq hs3 ht3 ho3 h0 h1
end Go.Proofs.YtidolpcbbbakmaaGreat
