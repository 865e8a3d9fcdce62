/- call of the reference of layer 47: a called function's answer in a box of its own. call of the reference of layer 47: what an operation's round asks. -/
import Derived.Test.YtidolpcbbbakmaaGreatM40
namespace Go.Proofs.YtidolpcbbbakmaaGreat
open Go Go.RowKit
/-- The blocks of N, and the box. -/
def Boxed (N : Nat → Prop) (q : Nat) (b : Nat) : Prop := N b ∨ b = q
theorem boxed_old {N : Nat → Prop} {w : World} : ∀ b, Boxed N w.heap.size b → N b ∨ w.heap.size ≤ b := fun b h => by
  rcases h with h | h
  · exact .inl h
  · exact .inr (by omega)
theorem grown_refl (w : World) : w.grownBy w none := ⟨rfl, rfl, rfl, Nat.le_refl _, fun _ _ _ => rfl⟩
structure AfterCall (p : ProgD) (fuel : Int) (M : Nat → Prop) (sb : Nat) (fv tv : Value) (ov : Value) (f : ExpD) (V : World) (cv : Value) (lo : List ExpD) (r : ValD × StD) (o3 : Value) (w4 w6 w7 : World) (x : ExpD) : Prop where
  box : w6.heap[w4.heap.size]? = some (.cells nil47 77 (0, 0))
  base : BaseV p fuel M sb fv tv ov f V cv lo r.2 o3 w7
  keep : KeepV (Mine M V.heap.size) w4 w7
  keep6 : KeepV (Mine M V.heap.size) w4 w6
  isv : IsV (Mine M V.heap.size) w7 x
  strip : stripX x = r.1
  size : w4.heap.size ≤ w7.heap.size
theorem after_call {p : ProgD} {fuel : Int} {M : Nat → Prop} {sb : Nat} {fv tv ov : Value} {f : ExpD} {V : World} {cv : Value} {lo : List ExpD} {s : StD} {o2 : Value} {w4 W5 w6 : World} {r : ValD × StD} {o3 : Value} {xo xn : Int} {xs : ByteArray} {xv : Value} {xl : List ExpD}
    (h : BaseV p fuel M sb fv tv ov f V cv lo s o2 w4) (hsb : sb < V.heap.size) (g5 : (w4.alloc (.cells nil47 77)).grownBy W5 none) (hx : stripX (.mk xo xn xs xv xl) = r.1) (hxv : IsV (Boxed (Mine M V.heap.size) w4.heap.size) w6 (.mk xo xn xs xv xl)) (hS : SSt w6 sb fv tv p.main fuel r.2 o3) (hE : Em sb W5 w6 o2.ownBlock o3.ownBlock) :
    AfterCall p fuel M sb fv tv ov f V cv lo r o3 w4 w6 ((((w6.setCell ⟨w4.heap.size, 0, none⟩ (.int .i64 xo)).setCell ⟨w4.heap.size, 1, none⟩ (.int .i64 xn)).setCell ⟨w4.heap.size, 2, none⟩ (.string xs)).setCell ⟨w4.heap.size, 3, none⟩ xv) (.mk xo xn xs xv xl) := by
  have hz := h.em.size
  have hb5 := (g5.block _ (by simp) (by nofun)).trans (heap_alloc_new w4 (.cells nil47 77))
  have gA := both (grown_alloc w4 (.cells nil47 77)) g5
  have hbox := (h.sst.free gA).other hE hb5 (by decide) (by omega)
  have gs : w6.grownBy ((((w6.setCell ⟨w4.heap.size, 0, none⟩ (.int .i64 xo)).setCell ⟨w4.heap.size, 1, none⟩ (.int .i64 xn)).setCell ⟨w4.heap.size, 2, none⟩ (.string xs)).setCell ⟨w4.heap.size, 3, none⟩ xv) (some w4.heap.size) := grown_set4 w6 w4.heap.size 0 1 2 3 (.int .i64 xo) (.int .i64 xn) (.string xs) xv
  have hE6 : Em sb w4 w6 o2.ownBlock o3.ownBlock := (Em.free gA).trans hE
  have hE7 : Em sb w4 ((((w6.setCell ⟨w4.heap.size, 0, none⟩ (.int .i64 xo)).setCell ⟨w4.heap.size, 1, none⟩ (.int .i64 xn)).setCell ⟨w4.heap.size, 2, none⟩ (.string xs)).setCell ⟨w4.heap.size, 3, none⟩ xv) o2.ownBlock o3.ownBlock := hE6.fresh gs (fun q hq => by cases hq; exact Nat.le_refl _)
  have hS7 : SSt ((((w6.setCell ⟨w4.heap.size, 0, none⟩ (.int .i64 xo)).setCell ⟨w4.heap.size, 1, none⟩ (.int .i64 xn)).setCell ⟨w4.heap.size, 2, none⟩ (.string xs)).setCell ⟨w4.heap.size, 3, none⟩ xv) sb fv tv p.main fuel r.2 o3 := ⟨(gs.block sb (heap_lt hS.blk) (fun e => by have := Option.some.inj e; omega)).trans hS.blk, owns_grown hS.own gs (fun q hq e => by
    obtain ⟨cu, hcu⟩ := owns_block hS.own q e
    rw [← Option.some.inj hq, hbox] at hcu
    exact absurd (Obj.cells.inj (Option.some.inj hcu)).2.1 (by decide))⟩
  have hk : KeepV (Boxed (Mine M V.heap.size) w4.heap.size) w6 ((((w6.setCell ⟨w4.heap.size, 0, none⟩ (.int .i64 xo)).setCell ⟨w4.heap.size, 1, none⟩ (.int .i64 xn)).setCell ⟨w4.heap.size, 2, none⟩ (.string xs)).setCell ⟨w4.heap.size, 3, none⟩ xv) := fun b cur hb hm => gs.block b (heap_lt hb) (fun e => hm (.inr (Option.some.inj e)))
  exact ⟨hbox, h.step hsb hS7 hE7, h.sst.keepV hE7, h.sst.keepV hE6, (hxv.kept hk).less (fun b hb => .inl hb), hx, hE7.size⟩
theorem pops_15 (a b : Int) (h : 1 ≤ a ∧ a ≤ 14) : popsOf ⟨15, a, b⟩ = 1 ∨ popsOf ⟨15, a, b⟩ = 2 := by
  have e : ref46_arity a = 1 ∨ ref46_arity a = 2 := by
    unfold ref46_arity
    split
    · exact .inl rfl
    · first | exact .inr rfl | (rw [if_pos h]; exact .inr rfl)
  unfold popsOf effT
  simp only [show ¬ ((15 : Int) = 1 ∨ (15 : Int) = 2 ∨ (15 : Int) = 3 ∨ (15 : Int) = 5 ∨ (15 : Int) = 6) by decide, show ¬ ((15 : Int) = 4 ∨ (15 : Int) = 9 ∨ (15 : Int) = 13) by decide, show ¬ (15 : Int) = 7 by decide, show ¬ (15 : Int) = 10 by decide, show ¬ ((15 : Int) = 11 ∨ (15 : Int) = 12) by decide, show ¬ (15 : Int) = 8 by decide, show ¬ ((15 : Int) = 14 ∨ (15 : Int) = 16) by decide, if_false, if_true, (inB_iff a 1 14).2 h]
  rcases e with e | e <;> rw [e]
  · exact .inl rfl
  · exact .inr rfl
theorem list_two {α : Type} {l : List α} (h : l.length = 2) : ∃ a b, l = [a, b] := by
  match l, h with
  | [a, b], _ => exact ⟨a, b, rfl⟩
theorem pops_8 (a b : Int) : popsOf ⟨8, a, b⟩ = 2 := by
  unfold popsOf effT
  rfl
/-- Two values of a row. -/
theorem rowV_two {M : Nat → Prop} {w : World} {v : Value} {f a : ExpD} (h : RowV M w v 2 (expCells [f, a])) :
    ∃ g off c, v = .slice (some ⟨g, off, none⟩) 2 c ∧ 2 ≤ c ∧ (∀ w', KeepV M w w' → w'.heap[g]? = w.heap[g]?) ∧ w.cell? ⟨g, off, none⟩ = some (.int .i64 f.op) ∧ w.cell? ⟨g, off + 1, none⟩ = some (.int .i64 f.n) ∧ w.cell? ⟨g, off + 2, none⟩ = some (.string f.s) ∧ w.cell? ⟨g, off + 3, none⟩ = some f.lv ∧ w.cell? ⟨g, off + 4, none⟩ = some (.int .i64 a.op) ∧ w.cell? ⟨g, off + 4 + 1, none⟩ = some (.int .i64 a.n) ∧ w.cell? ⟨g, off + 4 + 2, none⟩ = some (.string a.s) ∧ w.cell? ⟨g, off + 4 + 3, none⟩ = some a.lv := by
  obtain ⟨b, off, c, hv, hc, hm, hb, x0, x1, x2, x3⟩ := rowV_at (l := [f, a]) h 0 (by simp)
  obtain ⟨b', off', c', hv', _, _, _, y0, y1, y2, y3⟩ := rowV_at (l := [f, a]) h 1 (by simp)
  rw [hv] at hv'
  obtain ⟨e1, _, rfl⟩ := Value.slice.inj hv'
  obtain ⟨rfl, rfl, _⟩ := Addr.mk.inj (Option.some.inj e1)
  simp only [Nat.zero_mul, Nat.one_mul, Nat.add_zero, List.getD, List.getElem?_cons_zero, List.getElem?_cons_succ, Option.getD_some] at x0 x1 x2 x3 y0 y1 y2 y3
  obtain ⟨a2, c2, hv2, _, _, hcell⟩ := h
  obtain ⟨b2, off2, cur, ha2, hm2, hb2, _⟩ := hcell (by decide)
  rw [hv] at hv2
  obtain ⟨e2, _, _⟩ := Value.slice.inj hv2
  rw [ha2] at e2
  obtain ⟨rfl, rfl, _⟩ := Addr.mk.inj (Option.some.inj e2)
  exact ⟨b, off, c, hv, hc, fun w' k => k _ cur hb2 hm2, x0, x1, x2, x3, y0, y1, y2, y3⟩
theorem two_same {w w' : World} {g off : Nat} {fo fn ao an : Int} {fs as1 : ByteArray} {fv av : Value} (e : w'.heap[g]? = w.heap[g]?) (h : w.cell? ⟨g, off, none⟩ = some (.int .i64 fo) ∧ w.cell? ⟨g, off + 1, none⟩ = some (.int .i64 fn) ∧ w.cell? ⟨g, off + 2, none⟩ = some (.string fs) ∧ w.cell? ⟨g, off + 3, none⟩ = some fv ∧ w.cell? ⟨g, off + 4, none⟩ = some (.int .i64 ao) ∧ w.cell? ⟨g, off + 4 + 1, none⟩ = some (.int .i64 an) ∧ w.cell? ⟨g, off + 4 + 2, none⟩ = some (.string as1) ∧ w.cell? ⟨g, off + 4 + 3, none⟩ = some av) : w'.cell? ⟨g, off, none⟩ = some (.int .i64 fo) ∧ w'.cell? ⟨g, off + 1, none⟩ = some (.int .i64 fn) ∧ w'.cell? ⟨g, off + 2, none⟩ = some (.string fs) ∧ w'.cell? ⟨g, off + 3, none⟩ = some fv ∧ w'.cell? ⟨g, off + 4, none⟩ = some (.int .i64 ao) ∧ w'.cell? ⟨g, off + 4 + 1, none⟩ = some (.int .i64 an) ∧ w'.cell? ⟨g, off + 4 + 2, none⟩ = some (.string as1) ∧ w'.cell? ⟨g, off + 4 + 3, none⟩ = some av := by
  have k : ∀ o, w'.cell? ⟨g, o, none⟩ = w.cell? ⟨g, o, none⟩ := fun o => by unfold World.cell?; rw [e]
  simp only [k]
  exact h
def seqR : Nat → Code → Code
  | 0, c => c
  | n + 1, .seq _ b => seqR n b
  | _ + 1, c => c
def seqL : Code → Code
  | .seq a _ => a
  | c => c
def insideC : Code → Code
  | .block _ c => c
  | .loop c => c
  | c => c
/-- What is left of a round once the operands have been taken off the stack. -/
noncomputable def callRest : Code := seqR 9 (insideC (seqR 1 (insideC (insideC (seqL (seqR 6 (Tryz.f29.body.getD .skip)))))))
theorem wpList_last_assign {ops : Array Oper} {o : Oper} {a : Act} {w : World} {K : Act → World → Prop} {Q : Exit → Act → World → Prop} (x : Operand) (hg : o.guard = none) (ho : o.op = .assign x) (h : K (a.put o.dst (a.eval x)) w) : wpList Tryz.prog ops (Exit.then K Q) [o] a w := by
  refine wpList_plain hg fun K' hK => ?_
  unfold Oper.wp
  simp [execOp, ho]
  exact hK _ _ h
def ArmOk (op : Int) : Prop :=
  ∀ {p : ProgD} (_hp : GoodP p) (fuel : Int) (_hfu : fuel ≤ 1000000) (G : Nat) (_HIH : Hid (∀ m, m < G → CallOk p fuel m)) (M : Nat → Prop) (w0 : World) (sb : Nat) (tv : Value) (st : StD) (ov : Value) (V : World) (_hw0 : w0.heap.size ≤ sb) (_hM : ∀ b, M b → b < V.heap.size)
    (fop : Int) (fs : ByteArray) (fl : List ExpD) (aop an : Int) (asx : ByteArray) (al : List ExpD) (k fb foff fc : Nat) (_HB : Hid (Below w0.heap.size w0 V)) (_hsb : sb < V.heap.size) (fdc fdd : Int) (fdcode : List Ins) (cc : Nat) (fla : Option Addr) (flc : Nat)
    (_h7 : (ExpD.mk fop (k : Int) fs (.slice fla fl.length flc) fl).op = 7) (_HFO : Hid (ValOk p (stripX (.mk fop (k : Int) fs (.slice fla fl.length flc) fl)))) (ala : Option Addr) (alc : Nat) (_HP : Hid (IsProg w0 (.slice (some ⟨fb, foff, none⟩) p.funs.length fc) tv p)) (R : ValD × StD) (L1 : Nat)
    (_HOV : Hid (V.ownsRow (sb + 1) 9 1 ov st.out.length (strCells st.out))) (_hkp : k < p.funs.length) (mu : World → Nat) (_hmu0 : mu = fun wr => (fuel - intOf ((wr.cell? ⟨sb, 4, none⟩).getD undef)).toNat) (rel : Value → Value → World → Prop) (nn : Nat) (wr : World) (_hmu : mu wr = nn)
    (J : Nat → Act → World → Prop) (K K1 : Act → World → Prop)
    (_hJ : ∀ (k1 : Nat) (a' : Act) (w' : World), InvA [.pointer (some ⟨sb, 0, none⟩), .agg #[.int .i64 fop, .int .i64 (k : Int), .string fs, .slice fla fl.length flc], .agg #[.int .i64 aop, .int .i64 an, .string asx, .slice ala al.length alc], undef, .pointer (some ⟨V.heap.size, 0, none⟩), .pointer (some ⟨V.heap.size + 1, 0, none⟩), .pointer (some ⟨V.heap.size + 2, 0, none⟩), .pointer (some ⟨V.heap.size + 3, 0, none⟩), .slice (some ⟨V.heap.size + 4, 0, none⟩) (L1 + 1) (L1 + 1)] rel mu k1 a' w' → J k1 a' w')
    (_hK : ∀ (a' : Act) (w' : World), Handed J nn a' w' → K a' w') (stk lo : List ExpD) (s : StD) (o2 : Value) (m : Nat) (_he : s.e = 0) (_hsf : ¬ s.steps = fuel) (t : Nat) (_at1 : (t : Int) ≤ 20000) (ib ioff : Nat)
    (_hlenF : (0 ≤ fdc ∧ fdc ≤ 1000) ∧ (1 ≤ ((L1 + 1 : Nat) : Int) ∧ ((L1 + 1 : Nat) : Int) ≤ 4096) ∧ (0 ≤ fdd ∧ fdd ≤ 4096) ∧ 1 ≤ (fdcode.length : Int) ∧ (fdcode.length : Int) ≤ 16384)
    (_HFN : Hid (funOf p (stripX (.mk fop (k : Int) fs (.slice fla fl.length flc) fl)) = ⟨fdc, ((L1 + 1 : Nat) : Int), fdd, .slice (some ⟨ib, ioff, none⟩) fdcode.length cc, fdcode⟩)) (_hfk : Hid (p.funs.getD k default = ⟨fdc, ((L1 + 1 : Nat) : Int), fdd, .slice (some ⟨ib, ioff, none⟩) fdcode.length cc, fdcode⟩))
    (_hrel0 : rel = fun v9 v10 wr => ∃ (stk lo : List ExpD) (at_ : Int) (s : StD) (o2 : Value) (m : Nat), v10 = .int .i64 at_ ∧ Hid (LR p fuel G M sb (.slice (some ⟨fb, foff, none⟩) p.funs.length fc) tv ov (.mk fop (k : Int) fs (.slice fla fl.length flc) fl) R V (.slice (some ⟨ib, ioff, none⟩) fdcode.length cc) stk lo at_ s o2 m v9 wr))
    (_hw2 : IntKind.i64.wrap ((t : Int) + 1) = (t : Int) + 1) (ia ib2 : Int) (q : Nat) (_hat : (t : Int) < (fdcode.length : Int)) (w3 : World) (_hz3 : wr.heap.size < w3.heap.size) (_hq1000 : q ≤ 1000) (_hlen : ¬ stk.length < q) (a : Option Addr) (c : Nat)
    (_HL : Hid (LR p fuel G M sb (.slice (some ⟨fb, foff, none⟩) p.funs.length fc) tv ov (.mk fop (k : Int) fs (.slice fla fl.length flc) fl) R V (.slice (some ⟨ib, ioff, none⟩) fdcode.length cc) stk lo (t : Int) s o2 (m + 1) (.slice a stk.length c) wr)) (_hc : stk.length ≤ c)
    (_HASH : Hid ((a = none ∧ stk = []) ∨ ∃ g, a = some ⟨g, 0, none⟩)) (fr : Nat) (_hfq : stk.length - fr = q) (_hfr : fr ≤ stk.length) (_hfrom : stk.length - q = fr)
    (_hsl2 : ∀ w, (Instr.sliceAt 75 (.slice a stk.length c) none (some (.int .i64 (fr : Int))) (some (.int .i64 (fr : Int)))).run Tryz.prog w = .ok (.slice a fr fr) w) (_hdl : (stk.drop fr).length = q) (_hltm : ∀ b, Mine M V.heap.size b → b < w3.heap.size)
    (v4 : Value) (w4 : World) (_HB4 : Hid (BaseV p fuel M sb (.slice (some ⟨fb, foff, none⟩) p.funs.length fc) tv ov (.mk fop (k : Int) fs (.slice fla fl.length flc) fl) V (.slice (some ⟨ib, ioff, none⟩) fdcode.length cc) lo (tick s) o2 w4)) (_HK4 : Hid (KeepV (Mine M V.heap.size) wr w4))
    (_HROW : Hid (RowV (Mine M V.heap.size) w4 v4 q (expCells (stk.drop fr)))) (_HS2 : Hid (RowV (Mine M V.heap.size) w4 (.slice a fr fr) fr (expCells (stk.take fr)))) (_HVS : Hid (∀ y ∈ stk, IsV (Mine M V.heap.size) w4 y)) (_hz4 : w3.heap.size ≤ w4.heap.size)
    (_hbx4 : w4.heap[wr.heap.size]? = some (.cells #[.int .i64 op, .int .i64 ia, .int .i64 ib2] 57 (0, 0))) (_hfi : fdcode.getD t default = ⟨op, ia, ib2⟩) (_HRI : Hid (rightI p.texts.length p.funs fdc ((L1 + 1 : Nat) : Int) fdcode t ⟨op, ia, ib2⟩ = true)) (_hq : popsOf ⟨op, ia, ib2⟩ = q)
    (act : Act) (_hsz : act.tmps.size = 279) (_hdf : act.defers = [])
    (_hpre : act.tmps.toList.take 12 = [.pointer (some ⟨sb, 0, none⟩), .agg #[.int .i64 fop, .int .i64 (k : Int), .string fs, .slice fla fl.length flc], .agg #[.int .i64 aop, .int .i64 an, .string asx, .slice ala al.length alc], undef, .pointer (some ⟨V.heap.size, 0, none⟩), .pointer (some ⟨V.heap.size + 1, 0, none⟩), .pointer (some ⟨V.heap.size + 2, 0, none⟩), .pointer (some ⟨V.heap.size + 3, 0, none⟩), .slice (some ⟨V.heap.size + 4, 0, none⟩) (L1 + 1) (L1 + 1), .slice a stk.length c, .int .i64 (t : Int), .pointer (some ⟨wr.heap.size, 0, none⟩)])
    (_h15 : act.tmps.getD 15 undef = .int .i64 (fr : Int)) (_h16 : act.tmps.getD 16 undef = v4),
    Code.wp Tryz.prog callRest (Exit.inBlock 1 (Exit.then K (Exit.inBlock 0 (Exit.then K1 (bodyPost Tryz.prog Tryz.f29 (RunOk M sb (.slice (some ⟨fb, foff, none⟩) p.funs.length fc) tv p.main fuel ov R V)))))) act w4
end Go.Proofs.YtidolpcbbbakmaaGreat
