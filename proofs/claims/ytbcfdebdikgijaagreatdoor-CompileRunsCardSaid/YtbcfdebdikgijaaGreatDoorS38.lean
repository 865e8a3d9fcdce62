/- Part of the proof; its texts: Ey7e. -/
import Derived.Test.YtbcfdebdikgijaaGreatDoorS22
set_option maxRecDepth 100000
set_option linter.unusedVariables false
set_option linter.unusedSimpArgs false
namespace Go.Proofs.YtbcfdebdikgijaaGreatDoor
open Go Go.RowKit
def Ry : Nat -> Code -> Code
 | 0, c => c
 | n + 1, .seq _ b => Ry n b
 | _ + 1, c => c
def Qz : Code -> Code
 | .seq a _ => a
 | c => c
def Xf : Code -> Code
 | .block _ c => c
 | .loop c => c
 | c => c
noncomputable def XD : Code := Ry 9 (Xf (Ry 1 (Xf (Xf (Qz (Ry 6 (Tryz.f33.body.getD .skip)))))))
theorem Po {ops : Array Oper} {o : Oper} {a : Act} {w : World} {K : Act -> World -> Prop} {Q : Exit -> Act -> World -> Prop} (x : Operand) (hg : o.guard = none) (ho : o.op = .assign x) (h : K (a.put o.dst (a.eval x)) w) : wpList Tryz.prog ops (Exit.then K Q) [o] a w := by
 refine wpList_plain hg fun K' hK => ?_
 unfold Oper.wp
 simp [execOp, ho]
 exact hK _ _ h
def TQ (op : Int) : Prop :=
 ∀ {p : Zz} (_hp : QI p) (fuel : Int) (_hfu : fuel <= 1000000) (G : Nat) (_HIH : Hid (∀ m, m < G -> Nt p fuel m)) (M : Nat -> Prop) (w0 : World) (sb : Nat) (tv : Value) (st : Xc) (ov : Value) (V : World) (_hw0 : w0.heap.size <= sb) (_hM : ∀ b, M b -> b < V.heap.size)
  (UF : Int) (fs : ByteArray) (fl : List Z0) (N7 an : Int) (NZ : ByteArray) (al : List Z0) (k fb Ue fc : Nat) (_HB : Hid (Below w0.heap.size w0 V)) (_hsb : sb < V.heap.size) (ML MC : Int) (Yj : List Ins) (cc : Nat) (fla : Option Addr) (TN : Nat)
  (_h7 : (Z0.mk UF (k : Int) fs (.slice fla fl.length TN) fl).op = 7) (_HFO : Hid (Yx p (ZW (.mk UF (k : Int) fs (.slice fla fl.length TN) fl)))) (NY : Option Addr) (NW : Nat) (_HP : Hid (Rp w0 (.slice (some ⟨fb, Ue, none⟩) p.Zu.length fc) tv p)) (R : ZT × Xc) (L1 : Nat)
  (_HOV : Hid (V.ownsRow (sb + 1) 9 1 ov st.out.length (strCells st.out))) (_hkp : k < p.Zu.length) (mu : World -> Nat) (_hmu0 : mu = fun wr => (fuel - intOf ((wr.cell? ⟨sb, 4, none⟩).getD undef)).toNat) (rel : Value -> Value -> World -> Prop) (nn : Nat) (wr : World) (_hmu : mu wr = nn)
  (J : Nat -> Act -> World -> Prop) (K K1 : Act -> World -> Prop)
  (_hJ : ∀ (k1 : Nat) (a' : Act) (w' : World), fA [.pointer (some ⟨sb, 0, none⟩), .agg #[.int .i64 UF, .int .i64 (k : Int), .string fs, .slice fla fl.length TN], .agg #[.int .i64 N7, .int .i64 an, .string NZ, .slice NY al.length NW], undef, .pointer (some ⟨V.heap.size, 0, none⟩), .pointer (some ⟨V.heap.size + 1, 0, none⟩), .pointer (some ⟨V.heap.size + 2, 0, none⟩), .pointer (some ⟨V.heap.size + 3, 0, none⟩), .slice (some ⟨V.heap.size + 4, 0, none⟩) (L1 + 1) (L1 + 1)] rel mu k1 a' w' -> J k1 a' w')
  (_hK : ∀ (a' : Act) (w' : World), Handed J nn a' w' -> K a' w') (stk lo : List Z0) (s : Xc) (o2 : Value) (m : Nat) (_he : s.e = 0) (_hsf : ¬ s.steps = fuel) (t : Nat) (_at1 : (t : Int) <= 20000) (ib SE : Nat)
  (_hlenF : (0 <= ML /\ ML <= 1000) /\ (1 <= ((L1 + 1 : Nat) : Int) /\ ((L1 + 1 : Nat) : Int) <= 4096) /\ (0 <= MC /\ MC <= 4096) /\ 1 <= (Yj.length : Int) /\ (Yj.length : Int) <= 16384)
  (_HFN : Hid (Xj p (ZW (.mk UF (k : Int) fs (.slice fla fl.length TN) fl)) = ⟨ML, ((L1 + 1 : Nat) : Int), MC, .slice (some ⟨ib, SE, none⟩) Yj.length cc, Yj⟩)) (_hfk : Hid (p.Zu.getD k default = ⟨ML, ((L1 + 1 : Nat) : Int), MC, .slice (some ⟨ib, SE, none⟩) Yj.length cc, Yj⟩))
  (_hrel0 : rel = fun v9 v10 wr => ∃ (stk lo : List Z0) (at_ : Int) (s : Xc) (o2 : Value) (m : Nat), v10 = .int .i64 at_ /\ Hid (LR p fuel G M sb (.slice (some ⟨fb, Ue, none⟩) p.Zu.length fc) tv ov (.mk UF (k : Int) fs (.slice fla fl.length TN) fl) R V (.slice (some ⟨ib, SE, none⟩) Yj.length cc) stk lo at_ s o2 m v9 wr))
  (_hw2 : IntKind.i64.wrap ((t : Int) + 1) = (t : Int) + 1) (ia ib2 : Int) (q : Nat) (_hat : (t : Int) < (Yj.length : Int)) (w3 : World) (_hz3 : wr.heap.size < w3.heap.size) (_hq1000 : q <= 1000) (_hlen : ¬ stk.length < q) (a : Option Addr) (c : Nat)
  (_HL : Hid (LR p fuel G M sb (.slice (some ⟨fb, Ue, none⟩) p.Zu.length fc) tv ov (.mk UF (k : Int) fs (.slice fla fl.length TN) fl) R V (.slice (some ⟨ib, SE, none⟩) Yj.length cc) stk lo (t : Int) s o2 (m + 1) (.slice a stk.length c) wr)) (_hc : stk.length <= c)
  (_HASH : Hid ((a = none /\ stk = []) \/ ∃ g, a = some ⟨g, 0, none⟩)) (fr : Nat) (_hfq : stk.length - fr = q) (_hfr : fr <= stk.length) (_hfrom : stk.length - q = fr)
  (_hsl2 : ∀ w, (Instr.sliceAt 92 (.slice a stk.length c) none (some (.int .i64 (fr : Int))) (some (.int .i64 (fr : Int)))).run Tryz.prog w = .ok (.slice a fr fr) w) (_hdl : (stk.drop fr).length = q) (_hltm : ∀ b, Mine M V.heap.size b -> b < w3.heap.size)
  (v4 : Value) (w4 : World) (_HB4 : Hid (Vi p fuel M sb (.slice (some ⟨fb, Ue, none⟩) p.Zu.length fc) tv ov (.mk UF (k : Int) fs (.slice fla fl.length TN) fl) V (.slice (some ⟨ib, SE, none⟩) Yj.length cc) lo (tick s) o2 w4)) (_HK4 : Hid (UK (Mine M V.heap.size) wr w4))
  (_HROW : Hid (U8 (Mine M V.heap.size) w4 v4 q (ZR (stk.drop fr)))) (_HS2 : Hid (U8 (Mine M V.heap.size) w4 (.slice a fr fr) fr (ZR (stk.take fr)))) (_HVS : Hid (∀ y ∈ stk, R9 (Mine M V.heap.size) w4 y)) (_hz4 : w3.heap.size <= w4.heap.size)
  (_hbx4 : w4.heap[wr.heap.size]? = some (.cells #[.int .i64 op, .int .i64 ia, .int .i64 ib2] 59 (0, 0))) (_hfi : Yj.getD t default = ⟨op, ia, ib2⟩) (_HRI : Hid (Zo p.texts.length p.Zu ML ((L1 + 1 : Nat) : Int) Yj t ⟨op, ia, ib2⟩ = true)) (_hq : Yd ⟨op, ia, ib2⟩ = q)
  (act : Act) (_hsz : act.tmps.size = 279) (_hdf : act.defers = [])
  (_hpre : act.tmps.toList.take 12 = [.pointer (some ⟨sb, 0, none⟩), .agg #[.int .i64 UF, .int .i64 (k : Int), .string fs, .slice fla fl.length TN], .agg #[.int .i64 N7, .int .i64 an, .string NZ, .slice NY al.length NW], undef, .pointer (some ⟨V.heap.size, 0, none⟩), .pointer (some ⟨V.heap.size + 1, 0, none⟩), .pointer (some ⟨V.heap.size + 2, 0, none⟩), .pointer (some ⟨V.heap.size + 3, 0, none⟩), .slice (some ⟨V.heap.size + 4, 0, none⟩) (L1 + 1) (L1 + 1), .slice a stk.length c, .int .i64 (t : Int), .pointer (some ⟨wr.heap.size, 0, none⟩)])
  (_h15 : act.tmps.getD 15 undef = .int .i64 (fr : Int)) (_h16 : act.tmps.getD 16 undef = v4),
  Code.wp Tryz.prog XD (Exit.inBlock 1 (Exit.then K (Exit.inBlock 0 (Exit.then K1 (bodyPost Tryz.prog Tryz.f33 (MS M sb (.slice (some ⟨fb, Ue, none⟩) p.Zu.length fc) tv p.main fuel ov R V)))))) act w4
theorem KF (o n : Int) (s : ByteArray) (a : Option Addr) (l c : Nat) : ∀ u ∈ ([.int .i64 o, .int .i64 n, .string s, .slice a l c] : List Value), u.oneCell' = true := by
 intro u hu
 simp only [List.mem_cons, List.not_mem_nil, or_false] at hu
 rcases hu with rfl | rfl | rfl | rfl <;> rfl
theorem Vt {a : Option Addr} {stk : List Z0} {fr : Nat} (h : (a = none /\ stk = []) \/ ∃ g, a = some ⟨g, 0, none⟩) (hfr : fr <= stk.length) : a = none -> fr = 0 /\ fr = 0 := fun e => by
 rcases h with ⟨_, h2⟩ | ⟨g, h2⟩
 ·subst h2; exact ⟨by simpa using hfr, by simpa using hfr⟩
 ·rw [h2] at e; cases e
theorem XM {w : World} {b : Nat} {op x y : Int} {t : TypeId} (h : w.heap[b]? = some (.cells #[.int .i64 op, .int .i64 x, .int .i64 y] t (0, 0))) : w.cell? ⟨b, 0, none⟩ = some (.int .i64 op) /\ w.cell? ⟨b, 1, none⟩ = some (.int .i64 x) /\ w.cell? ⟨b, 2, none⟩ = some (.int .i64 y) := by
 refine ⟨?_, ?_, ?_⟩ <;> simp [World.cell?, h]
theorem Ww {p : Zz} {fuel : Int} {G : Nat} {M : Nat -> Prop} {sb : Nat} {fv tv ov : Value} {f : Z0} {r : ZT × Xc} {V : World} {cv : Value} {stk lo : List Z0} {t : Nat} {s : Xc} {o2 : Value} {m : Nat} {sv : Value} {wr : World} (h : LR p fuel G M sb fv tv ov f r V cv stk lo (t : Int) s o2 m sv wr) :
 (0 : Int) <= (t : Int) /\ s.steps <= fuel /\ 0 <= s.steps /\ fuel - s.steps < m /\ (stk.length : Int) <= s.steps :=
 ⟨by omega, h.top, h.pos, h.ru, h.small⟩
end Go.Proofs.YtbcfdebdikgijaaGreatDoor
