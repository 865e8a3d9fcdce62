/- Part of the proof; its texts: Ru1 Ru2 Ru3 Rv1 Rw1 Ru4. -/
import Derived.Test.YtbcfdebdikgijaaGreatDoorS22
set_option maxRecDepth 100000
set_option linter.unusedVariables false
set_option linter.unusedSimpArgs false
namespace Go.Proofs.YtbcfdebdikgijaaGreatDoor
open Go Go.RowKit
structure Xa where
 steps : Int
 out : List ByteArray
def Xa.tick (st : Xa) : Xa := ⟨st.steps + 1, st.out⟩
inductive WR (α : Type) where
 | ok (v : α) (st : Xa)
 | stop (op n : Int) (st : Xa)
def Vw {α β : Type} (r : WR α) (k : α -> Xa -> WR β) : WR β :=
 match r with
 | .ok v st => k v st
 | .stop o n st => .stop o n st
def Sy (f : Z0 -> Xa -> WR ZT) : List Z0 -> Xa -> WR (List ZT)
 | [], st => .ok [] st
 | x :: r, st => Vw (f x st) fun v st => Vw (Sy f r st) fun vs st => .ok (v :: vs) st
def Sm (n : Int) (vs : List ZT) (st : Xa) : WR ZT :=
 match Yq n vs with
 | .stuck => .stop 4 0 st
 | .fail c => .stop 2 c st
 | .val v => .ok v st
 | .print s => if st.out.length = 1000 then .stop 2 2 st else .ok (.mk 3 0 ⟨#[]⟩ []) ⟨st.steps, st.out ++ [s]⟩
def Tt (op n : Int) (s : ByteArray) (self : ZT) (loc vs : List ZT) (st : Xa) : WR ZT :=
 if op = 2 then .ok (.mk 1 n ⟨#[]⟩ []) st
 else if op = 3 then .ok (.mk 2 0 s []) st
 else if op = 21 then .ok (loc.getD n.toNat default) st
 else if op = 22 then .ok self st
 else if op = 23 then .ok (self.l.getD n.toNat default) st
 else if op = 6 then .ok (.mk 3 0 ⟨#[]⟩ vs) st
 else if op = 7 then (if (vs.headD default).op = 3 /\ n < ((vs.headD default).l.length : Int) then .ok ((vs.headD default).l.getD n.toNat default) st else .stop 4 0 st)
 else if op = 8 then .ok (.mk 4 n ⟨#[]⟩ vs) st
 else if op = 24 then .ok (.mk 7 n ⟨#[]⟩ vs) st
 else Sm n vs st
def Y1 (fl : List ZJ) (fuel : Int) : Nat -> Z0 -> ZT -> List ZT -> Xa -> WR ZT
 | 0, _, _, _, st => .stop 3 0 st
 | g + 1, .mk op n s _ l, self, loc, st =>
   if st.steps = fuel then .stop 3 0 st
   else if op = 13 then .stop 2 n st.tick
   else if op = 9 then Vw (Y1 fl fuel g (l.headD default) self loc st.tick) fun v st =>
    if v.op ≠ 4 then .stop 4 0 st else if (l.length : Int) <= v.n + 1 then .stop 4 0 st else Y1 fl fuel g (l.getD (v.n + 1).toNat default) self (loc ++ [v.l.headD default]) st
   else if op = 11 then Vw (Y1 fl fuel g (l.headD default) self loc st.tick) fun v st => Y1 fl fuel g (l.getD 1 default) self (loc ++ [v]) st
   else Vw (Sy (fun x st => Y1 fl fuel g x self loc st) l st.tick) fun vs st =>
    if op = 25 then (if (vs.headD default).op = 7 then Y1 fl fuel g (fl.getD (vs.headD default).n.toNat default).body (vs.headD default) [vs.getD 1 default] st else .stop 4 0 st)
    else Tt op n s self loc vs st
inductive VG (P : Zz) : ZT -> Prop
 | mk {op n : Int} {s : ByteArray} {l : List ZT} : (op = 1 \/ op = 2 \/ op = 3 \/ op = 4 \/ op = 7) -> (op = 1 \/ op = 2 -> XQ op n s = true) -> (op = 7 -> 0 <= n /\ n < P.Zu.length /\ (l.length : Int) = (P.Zu.getD n.toNat default).c) -> (op = 4 -> l.length = 1 /\ 0 <= n /\ n <= 999) -> (∀ y ∈ l, VG P y) -> VG P (.mk op n s l)
theorem VG.op {P : Zz} {v : ZT} (h : VG P v) : v.op ≠ 0 := by cases h with | mk h1 _ _ _ _ => simp only [ZT.op]; omega
theorem VG.op5 {P : Zz} {v : ZT} (h : VG P v) : v.op ≠ 5 := by cases h with | mk h1 _ _ _ _ => simp only [ZT.op]; omega
theorem VG.ops {P : Zz} {v : ZT} (h : VG P v) : v.op = 1 \/ v.op = 2 \/ v.op = 3 \/ v.op = 4 \/ v.op = 7 := by cases h with | mk h1 _ _ _ _ => exact h1
theorem VG.flat {P : Zz} {v : ZT} (h : VG P v) : v.op = 1 \/ v.op = 2 -> Tv v = true := by cases h with | mk _ h1 _ _ _ => exact h1
theorem VG.fn {P : Zz} {v : ZT} (h : VG P v) : v.op = 7 -> 0 <= v.n /\ v.n < P.Zu.length /\ (v.l.length : Int) = (P.Zu.getD v.n.toNat default).c := by cases h with | mk _ _ h1 _ _ => exact h1
theorem VG.tag {P : Zz} {v : ZT} (h : VG P v) : v.op = 4 -> v.l.length = 1 /\ 0 <= v.n /\ v.n <= 999 := by cases h with | mk _ _ _ h1 _ => exact h1
theorem VG.all {P : Zz} {v : ZT} (h : VG P v) : ∀ y ∈ v.l, VG P y := by cases h with | mk _ _ _ _ h1 => exact h1
theorem Ii {P : Zz} {l : List ZT} (h : ∀ y ∈ l, VG P y) (k : Nat) (hk : k < l.length) : VG P (l.getD k default) := h _ (Zr default l k hk)
theorem Oh {P : Zz} {l : List ZT} (h : ∀ y ∈ l, VG P y) (hk : 0 < l.length) : VG P (l.headD default) := by
 cases l with
 | nil => simp at hk
 | cons x r => exact h x (List.mem_cons_self ..)
theorem Ql (P : Zz) : VG P (.mk 3 0 ⟨#[]⟩ []) := .mk (by decide) (fun h => by omega) (fun h => by omega) (fun h => by omega) (fun _ h => by cases h)
section
variable (P : Zz) (fuel : Int)
variable {P fuel}
def Vv (P : Zz) (fuel : Int) (f : ZT) (g : Nat) (LM stk : List ZT) (p : Nat) (sm : Xc) (i : Ins) : ZT × Xc :=
 let l := stk.drop (stk.length - Yd i)
 let s2 := stk.take (stk.length - Yd i)
 if i.op = 9 then (l.headD default, tick sm)
 else if i.op = 14 then Yl P fuel g f LM s2 i.a (tick sm)
 else if i.op = 16 then (default, YB (tick sm) 2 i.a)
 else if i.op = 4 then Yl P fuel g f (LM.set i.a.toNat (l.headD default)) s2 ((p : Int) + 1) (tick sm)
 else if i.op = 13 then
  (if (l.headD default).op ≠ 4 \/ i.b <= (l.headD default).n then (default, YB (tick sm) 4 0)
  else Yl P fuel g f (LM.set i.a.toNat ((l.headD default).l.headD default)) s2 ((p : Int) + 1 + (l.headD default).n) (tick sm))
 else
  let r := if i.op = 8 then (if (l.headD default).op = 7 then Yl P fuel g (l.headD default) (X8 P (l.headD default) (l.getD 1 default)) [] 0 (tick sm) else (default, tick sm)) else pushP P f LM l i (tick sm)
  if r.1.op = 0 then (default, YB r.2 4 0) else Yl P fuel g f LM (s2 ++ [r.1]) ((p : Int) + 1) r.2
theorem EM {f : ZT} {G : Nat} {LM stk : List ZT} {p : Nat} {sm : Xc} {i : Ins} (hC : (Xj P f).code[p]? = some i) (hk : Yd i <= stk.length) (h1 : sm.e = 0) (h4 : sm.steps <= fuel) (h5 : fuel - sm.steps < G) :
 (Yl P fuel G f LM stk (p : Int) sm).2.e = 3 \/ ∃ g, G = g + 1 /\ (tick sm).steps <= fuel /\ fuel - (tick sm).steps < g /\ Yl P fuel G f LM stk (p : Int) sm = Vv P fuel f g LM stk p sm i := by
 obtain ⟨g, rfl⟩ : ∃ g, G = g + 1 := ⟨G - 1, by omega⟩
 have hp := (List.getElem?_eq_some_iff.1 hC).1
 by_cases hs : sm.steps = fuel
 ·left
  rw [Yl, Z7 (by simpa using h1), Z7 (by omega), ZY hs]; simp [YB, h1]
 ·right
  refine ⟨g, rfl, by show sm.steps + 1 <= fuel; omega, by show fuel - (sm.steps + 1) < g; omega, ?_⟩; rw [Yl, Z7 (by simpa using h1), Z7 (by omega), Z7 hs]; have hi : (Xj P f).code.getD ((p : Int)).toNat default = i := by simp [List.getD, hC]
  simp only [hi]; rw [Z7 (by omega)]; rfl
theorem Ch (g : Nat) (f : ZT) (LM stk : List ZT) (at_ : Int) (st : Xc) (h : st.e ≠ 0) : Yl P fuel g f LM stk at_ st = (default, st) := by
 cases g with
 | zero => rfl
 | succ g => rw [Yl, ZY h]
theorem KU : ∀ (G : Nat) (f : ZT) (LM stk : List ZT) (at_ : Int) (sm : Xc), (Yl P fuel G f LM stk at_ sm).2.e ≠ 0 -> (Yl P fuel G f LM stk at_ sm).1 = default
 | 0, _, _, _, _, sm => fun _ => rfl
 | G + 1, f, LM, stk, at_, sm => by
   have ih := KU G; by_cases h0 : sm.e ≠ 0
   ·intro _; rw [Ch _ _ _ _ _ _ h0]
   rw [Yl, Z7 h0]; by_cases h1 : at_ < 0 \/ ((Xj P f).code.length : Int) <= at_
   ·rw [ZY h1]; intro _; rfl
   rw [Z7 h1]; by_cases h2 : sm.steps = fuel
   ·rw [ZY h2]; intro _; rfl
   rw [Z7 h2]
   dsimp only
   generalize (Xj P f).code.getD at_.toNat default = i; by_cases h3 : stk.length < Yd i
   ·rw [ZY h3]; intro _; rfl
   rw [Z7 h3]; by_cases h4 : i.op = 9
   ·rw [ZY h4]; intro he
    have : sm.e ≠ 0 := he; exact absurd this h0
   rw [Z7 h4]; by_cases h5 : i.op = 14
   ·rw [ZY h5]; exact ih _ _ _ _ _
   rw [Z7 h5]; by_cases h6 : i.op = 16
   ·rw [ZY h6]; intro _; rfl
   rw [Z7 h6]; by_cases h7 : i.op = 4
   ·rw [ZY h7]; exact ih _ _ _ _ _
   rw [Z7 h7]; by_cases h8 : i.op = 13
   ·rw [ZY h8]
    split
    ·intro _; rfl
    ·exact ih _ _ _ _ _
   rw [Z7 h8]; have key : ∀ (s2 : List ZT) (r : ZT × Xc), (if r.1.op = 0 then ((default : ZT), YB r.2 4 0) else Yl P fuel G f LM (s2 ++ [r.1]) (at_ + 1) r.2).2.e ≠ 0 -> (if r.1.op = 0 then ((default : ZT), YB r.2 4 0) else Yl P fuel G f LM (s2 ++ [r.1]) (at_ + 1) r.2).1 = default := fun s2 r => by
    by_cases hr : r.1.op = 0
    ·rw [ZY hr]; intro _; rfl
    ·rw [Z7 hr]; exact ih _ _ _ _ _
   exact key _ _
theorem pR {x : Int} {v : ZT} (h : Kl (WV x) = .val v) (P : Zz) : VG P v := by
 unfold WV at h
 by_cases h1 : 4503599627370496 < x
 ·rw [ZY h1] at h; cases h
 ·rw [Z7 h1] at h
  by_cases h2 : x < -4503599627370496
  ·rw [ZY h2] at h; cases h
  ·rw [Z7 h2] at h
   cases h; refine .mk (by decide) (fun _ => ?_) (fun h => by omega) (fun h => by omega) (fun _ h => by cases h)
   show OU x ⟨#[]⟩ = true
   unfold OU; simp; omega
theorem tO {x : ByteArray} {v : ZT} (h : Kl (VA x) = .val v) (P : Zz) : VG P v := by
 unfold VA at h
 by_cases h1 : 16384 < x.size
 ·rw [ZY h1] at h; cases h
 ·rw [Z7 h1] at h
  cases h; refine .mk (by decide) (fun _ => ?_) (fun h => by omega) (fun h => by omega) (fun _ h => by cases h)
  show OT 0 x = true
  unfold OT; simp; omega
theorem pQ {b : Bool} {v : ZT} (h : Kl (.bool b) = .val v) (P : Zz) : VG P v := by
 cases h
 refine .mk (by decide) (fun h => by omega) (fun h => by omega) (fun _ => ⟨rfl, by cases b <;> decide, by cases b <;> decide⟩) (fun y hy => ?_)
 rw [List.mem_singleton.1 hy]; exact Ql P
theorem EL {n na nb : Int} {sa sB sh : ByteArray} {Q : R15 -> Prop} (h1 : ∀ x, Q (WV x)) (h2 : ∀ s, Q (VA s)) (h3 : ∀ b, Q (.bool b)) (h4 : ∀ c, Q (.fail c)) : Q (Yo n na nb sa sB sh) := by
 have hif : ∀ (c : Prop) [Decidable c] (a b : R15), Q a -> Q b -> Q (if c then a else b) := fun c _ a b ha hb => by
  by_cases h : c
  ·rw [ZY h]; exact ha
  ·rw [Z7 h]; exact hb
 unfold Yo
 repeat' first | with_reducible exact h1 _ | with_reducible exact h2 _ | with_reducible exact h3 _ | with_reducible exact h4 _ | refine hif _ _ _ ?_ ?_
theorem EK {n na nb : Int} {sa sB sh : ByteArray} {v : ZT} (h : Kl (Yo n na nb sa sB sh) = .val v) (P : Zz) : VG P v :=
 EL (Q := fun r => Kl r = .val v -> VG P v) (fun _ h => pR h P) (fun _ h => tO h P) (fun _ h => pQ h P) (fun _ h => by cases h) h
theorem tN {n : Int} {vs : List ZT} (hv : ∀ y ∈ vs, VG P y) : Yq n vs = .stuck \/ (∃ c, Yq n vs = .fail c) \/ (∃ v, Yq n vs = .val v /\ VG P v) \/ ∃ s, Yq n vs = .print s := by
 unfold Yq
 split
 ·exact .inl rfl
 ·split
  ·exact .inl rfl
  ·split
   ·exact .inr (.inr (.inr ⟨_, rfl⟩))
   ·split
    ·rename_i h1 _ _ h
     exfalso; have : vs.all Tv = true := List.all_eq_true.2 fun y hy => (hv y hy).flat (by
      have := List.all_eq_true.1 (by simpa using h1 : vs.all Km = true) y hy; unfold Km at this; simpa using this)
     rw [this] at h; cases h
    ·cases hr : Kl (r15 n vs) with
     | stuck => exact .inl rfl
     | fail c => exact .inr (.inl ⟨c, rfl⟩)
     | print s => exact .inr (.inr (.inr ⟨s, rfl⟩))
     | val v =>
       refine .inr (.inr (.inl ⟨v, rfl, ?_⟩)); unfold r15 at hr; split at hr
       ·exact EK hr P
       ·exact EK hr P
       ·cases hr
end
structure Ctx (P : Zz) (fl : List ZJ) : Prop where
 len : P.Zu.length = fl.length
 valid : ∀ f ∈ fl, V6 (YM fl) f = true
 fn : ∀ i, i < fl.length -> Lm P.texts (fl.getD i default) (P.Zu.getD i default)
 txt : ∀ i, i < fl.length -> ∀ s ∈ YK (fl.getD i default).body, s ∈ P.texts
theorem pO {ts : List ByteArray} {s : ByteArray} (h : s ∈ ts) : ts.getD (Ux ts s).toNat default = s := by
 unfold Ux
 cases hf : X5 ts s with
 | none => exact absurd h (Uq.1 hf)
 | some i => simpa using (Uo hf).2.1
theorem yL {α : Type} (d : α) {L l : List α} (h : L.take l.length = l) (k : Nat) (hk : k < l.length) : L.getD k d = l.getD k d := by
 have e : (L.take l.length)[k]? = l[k]? := by rw [h]
 rw [List.getElem?_take, ZY hk] at e
 simp [List.getD, e]
def SI (P : Zz) (self : ZT) (LM vs : List ZT) (i : Ins) (sm : Xc) (r : WR ZT) : Prop :=
 (i.op ≠ 9 /\ i.op ≠ 14 /\ i.op ≠ 16 /\ i.op ≠ 4 /\ i.op ≠ 13 /\ i.op ≠ 8) /\
 match r with
 | .ok v st' => VG P v /\ ∃ sm2, pushP P self LM vs i sm = (v, sm2) /\ sm2.e = 0 /\ sm2.n = 0 /\ sm2.steps = sm.steps /\ sm2.out = st'.out
 | .stop o m st' => o ≠ 0 /\ ∃ sm2, pushP P self LM vs i sm = (default, sm2) /\ (YB sm2 4 0).e = o /\ (YB sm2 4 0).n = m /\ (YB sm2 4 0).out = st'.out
theorem Ua {o n b : Int} (h : o ≠ 9 /\ o ≠ 14 /\ o ≠ 16 /\ o ≠ 4 /\ o ≠ 13 /\ o ≠ 8) : (⟨o, n, b⟩ : Ins).op ≠ 9 /\ (⟨o, n, b⟩ : Ins).op ≠ 14 /\ (⟨o, n, b⟩ : Ins).op ≠ 16 /\ (⟨o, n, b⟩ : Ins).op ≠ 4 /\ (⟨o, n, b⟩ : Ins).op ≠ 13 /\ (⟨o, n, b⟩ : Ins).op ≠ 8 := h
theorem XO {sm : Xc} (h : sm.e = 0) (a b : Int) : YB sm a b = { sm with e := a, n := b } := by unfold YB; rw [ZY h]
theorem VK {sm : Xc} (h : sm.e ≠ 0) (a b : Int) : YB sm a b = sm := by unfold YB; rw [Z7 h]
theorem yK {P : Zz} {self : ZT} {LM vs : List ZT} {n : Int} {st : Xa} {sm : Xc} (hvs : ∀ y ∈ vs, VG P y) (he : sm.e = 0) (hn : sm.n = 0) (ho : sm.out = st.out) : SI P self LM vs ⟨15, n, 0⟩ sm (Sm n vs st) := by
 refine ⟨Ua (by decide), ?_⟩
 have hp : pushP P self LM vs ⟨15, n, 0⟩ sm = Xk sm (Yq n vs) := rfl
 rw [hp]
 unfold Sm
 rcases tN (n := n) hvs with h | ⟨c, h⟩ | ⟨v, h, hv⟩ | ⟨s, h⟩
 ·rw [h]
  refine ⟨by decide, _, rfl, ?_, ?_, ?_⟩
  ·rw [XO he, VK (by show (4 : Int) ≠ 0; decide)]
  ·rw [XO he, VK (by show (4 : Int) ≠ 0; decide)]
  ·rw [XO he, VK (by show (4 : Int) ≠ 0; decide)]; exact ho
 ·rw [h]
  refine ⟨by decide, _, rfl, ?_, ?_, ?_⟩
  ·rw [XO he, VK (by show (2 : Int) ≠ 0; decide)]
  ·rw [XO he, VK (by show (2 : Int) ≠ 0; decide)]
  ·rw [XO he, VK (by show (2 : Int) ≠ 0; decide)]; exact ho
 ·rw [h]
  exact ⟨hv, _, rfl, he, hn, rfl, ho⟩
 ·rw [h]
  show (match (if st.out.length = 1000 then WR.stop 2 2 st else WR.ok (ZT.mk 3 0 ⟨#[]⟩ []) ⟨st.steps, st.out ++ [s]⟩) with
   | .ok v st' => VG P v /\ ∃ sm2, (if sm.out.length = 1000 then (default, YB sm 2 2) else (ZT.mk 3 0 ⟨#[]⟩ [], { sm with out := sm.out ++ [s] })) = (v, sm2) /\ sm2.e = 0 /\ sm2.n = 0 /\ sm2.steps = sm.steps /\ sm2.out = st'.out
   | .stop o m st' => o ≠ 0 /\ ∃ sm2, (if sm.out.length = 1000 then (default, YB sm 2 2) else (ZT.mk 3 0 ⟨#[]⟩ [], { sm with out := sm.out ++ [s] })) = (default, sm2) /\ (YB sm2 4 0).e = o /\ (YB sm2 4 0).n = m /\ (YB sm2 4 0).out = st'.out)
  rw [ho]; by_cases hl : st.out.length = 1000
  ·rw [ZY hl, ZY hl]
   refine ⟨by decide, _, rfl, ?_, ?_, ?_⟩
   ·rw [XO he, VK (by show (2 : Int) ≠ 0; decide)]
   ·rw [XO he, VK (by show (2 : Int) ≠ 0; decide)]
   ·rw [XO he, VK (by show (2 : Int) ≠ 0; decide)]; exact ho
  ·rw [Z7 hl, Z7 hl]
   exact ⟨Ql P, _, rfl, he, hn, rfl, rfl⟩
theorem JD {P : Zz} {fl : List ZJ} (hP : Ctx P fl) {self : ZT} {loc vs LM : List ZT} {op n : Int} {s : ByteArray} {st : Xa} {sm : Xc} {caps : Int} (hself : VG P self) (SQ : (self.l.length : Int) = caps)
 (hf : Zy caps (YM fl) loc.length op n s vs.length = true) (h9 : op ≠ 9) (h11 : op ≠ 11) (h13 : op ≠ 13) (h25 : op ≠ 25) (hloc : ∀ y ∈ loc, VG P y) (hvs : ∀ y ∈ vs, VG P y) (hLM : LM.take loc.length = loc) (ht : op = 3 -> s ∈ P.texts)
 (he : sm.e = 0) (hn : sm.n = 0) (ho : sm.out = st.out) : SI P self LM vs (UW (Ux P.texts) op n s vs.length) sm (Tt op n s self loc vs st) := by
 rcases Td hf with rfl | rfl | rfl | rfl | rfl | rfl | rfl | rfl | rfl | rfl | rfl | rfl | rfl | rfl
 ·have h := (NS hf).1
  simp [Y7] at h
  show SI P self LM vs ⟨1, n, 0⟩ sm (.ok (.mk 1 n ⟨#[]⟩ []) st)
  refine ⟨Ua (by decide), .mk (by decide) (fun _ => ?_) (fun h => by omega) (fun h => by omega) (fun _ h => by cases h), _, rfl, he, hn, rfl, ho⟩
  show OU n ⟨#[]⟩ = true
  unfold OU; simp; omega
 ·have h := (Sd hf).1
  simp at h
  show SI P self LM vs ⟨2, Ux P.texts s, 0⟩ sm (.ok (.mk 2 0 s []) st)
  refine ⟨Ua (by decide), .mk (by decide) (fun _ => ?_) (fun h => by omega) (fun h => by omega) (fun _ h => by cases h), sm, ?_, he, hn, rfl, ho⟩
  ·show OT 0 s = true
   unfold OT; simp; omega
  ·show (ZT.mk 2 0 (P.texts.getD (Ux P.texts s).toNat default) [], sm) = _
   rw [pO (ht rfl)]
 ·show SI P self LM vs ⟨10, vs.length, 0⟩ sm (.ok (.mk 3 0 ⟨#[]⟩ vs) st)
  exact ⟨Ua (by decide), .mk (by decide) (fun h => by omega) (fun h => by omega) (fun h => by omega) hvs, _, rfl, he, hn, rfl, ho⟩
 ·have h := (L9 hf).1
  simp [Y7] at h
  show SI P self LM vs ⟨11, n, 0⟩ sm (if (vs.headD default).op = 3 /\ n < ((vs.headD default).l.length : Int) then .ok ((vs.headD default).l.getD n.toNat default) st else .stop 4 0 st)
  have hp : pushP P self LM vs ⟨11, n, 0⟩ sm = (if (vs.headD default).op = 3 /\ n < ((vs.headD default).l.length : Int) then (vs.headD default).l.getD n.toNat default else default, sm) := rfl; refine ⟨Ua (by decide), ?_⟩; rw [hp]; by_cases hc : (vs.headD default).op = 3 /\ n < ((vs.headD default).l.length : Int)
  ·rw [ZY hc, ZY hc]
   exact ⟨Ii (Oh hvs (by omega)).all _ (by omega), _, rfl, he, hn, rfl, ho⟩
  ·rw [Z7 hc, Z7 hc]
   refine ⟨by decide, _, rfl, ?_, ?_, ?_⟩ <;> rw [XO he]
   exact ho
 ·have h := (L8 hf).1
  simp [Y7] at h
  show SI P self LM vs ⟨12, n, 0⟩ sm (.ok (.mk 4 n ⟨#[]⟩ vs) st)
  exact ⟨Ua (by decide), .mk (by decide) (fun h => by omega) (fun h => by omega) (fun _ => ⟨h.1, h.2⟩) hvs, _, rfl, he, hn, rfl, ho⟩
 ·exact absurd rfl h9
 ·exact absurd rfl h11
 ·exact yK hvs he hn ho
 ·exact absurd rfl h13
 ·have h := (Qw hf).1
  simp [Y7] at h
  show SI P self LM vs ⟨3, n, 0⟩ sm (.ok (loc.getD n.toNat default) st)
  refine ⟨Ua (by decide), Ii hloc _ (by omega), sm, ?_, he, hn, rfl, ho⟩
  show (LM.getD n.toNat default, sm) = _
  rw [yL default hLM _ (by omega)]
 ·show SI P self LM vs ⟨6, 0, 0⟩ sm (.ok self st)
  exact ⟨Ua (by decide), hself, _, rfl, he, hn, rfl, ho⟩
 ·have h := (Qv hf).1
  simp [Y7] at h
  show SI P self LM vs ⟨5, n, 0⟩ sm (.ok (self.l.getD n.toNat default) st)
  exact ⟨Ua (by decide), Ii hself.all _ (by omega), _, rfl, he, hn, rfl, ho⟩
 ·have h := (Qu hf).1
  unfold YM at h; simp [Y7] at h
  show SI P self LM vs ⟨7, n, vs.length⟩ sm (.ok (.mk 7 n ⟨#[]⟩ vs) st)
  refine ⟨Ua (by decide), .mk (by decide) (fun h => by omega) (fun _ => ⟨by omega, by rw [hP.len]; omega, ?_⟩) (fun h => by omega) hvs, _, rfl, he, hn, rfl, ho⟩; rw [(hP.fn n.toNat (by omega)).1]; exact h.2.2.symm
 ·exact absurd rfl h25
theorem Nq {caps : Int} {Ze : Int -> Int -> Bool} {loc op n : Int} {s : ByteArray} {k : Nat} (T : ByteArray -> Int) (hf : Zy caps Ze loc op n s k = true) (h9 : op ≠ 9) (h11 : op ≠ 11) : Yd (UW T op n s k) = k := by
 rcases Td hf with rfl | rfl | rfl | rfl | rfl | rfl | rfl | rfl | rfl | rfl | rfl | rfl | rfl | rfl
 ·have h := (NS hf).1; simp at h; rw [h.1]; rfl
 ·have h := (Sd hf).1; simp at h; rw [h.1]; rfl
 ·have h := (Jj hf).1; simp at h
  show (Ya 10 k 0).1.toNat = k
  have : Y7 (k : Int) 0 1000 = true := by unfold Y7; simp; omega
  unfold Ya; simp [this]
 ·have h := (L9 hf).1; simp at h; rw [h.1]; rfl
 ·have h := (L8 hf).1; simp at h; rw [h.1]; rfl
 ·exact absurd rfl h9
 ·exact absurd rfl h11
 ·have h := (Mw hf).1; simp at h
  show (Ya 15 n 0).1.toNat = k
  unfold Ya; simp [h.1, <- h.2]
 ·have h := (O4 hf).1; simp at h; rw [h.1]; rfl
 ·have h := (Qw hf).1; simp at h; rw [h.1]; rfl
 ·have h := (Mv hf).1; simp at h; rw [h.1]; rfl
 ·have h := (Qv hf).1; simp at h; rw [h.1]; rfl
 ·have h := (Qu hf).1; simp at h
  show (Ya 7 n k).1.toNat = k
  have : Y7 (k : Int) 0 1000 = true := by unfold Y7; simp; omega
  unfold Ya; simp [this]
 ·have h := (O5 hf).1; simp at h; rw [h.2]; rfl
section
variable {P : Zz} {fl : List ZJ} {fx fe : Int}
structure nH (fx : Int) (sm : Xc) (G : Nat) (out : List ByteArray) : Prop where
 e0 : sm.e = 0
 n0 : sm.n = 0
 out : sm.out = out
 le : sm.steps <= fx
 ru : fx - sm.steps < G
def Og {α : Type} (fx : Int) (R : ZT × Xc) (lo : Int) (r : WR α) (K : α -> Nat -> Xc -> Prop) : Prop :=
 R.2.e = 3 \/ match r with
 | .ok v st' => ∃ G' sm', nH fx sm' G' st'.out /\ lo <= sm'.steps /\ K v G' sm'
 | .stop o n st' => o ≠ 0 /\ (o ≠ 3 -> R.2.e = o /\ R.2.n = n /\ R.2.out = st'.out)
theorem Og.bind {α β : Type} {R : ZT × Xc} {lo : Int} {r : WR α} {K : α -> Nat -> Xc -> Prop} {kk : α -> Xa -> WR β} {K2 : β -> Nat -> Xc -> Prop} (h : Og fx R lo r K)
 (k : ∀ v G' sm' st', r = .ok v st' -> nH fx sm' G' st'.out -> lo <= sm'.steps -> K v G' sm' -> Og fx R lo (kk v st') K2) : Og fx R lo (Vw r kk) K2 := by
 rcases h with h | h
 ·exact .inl h
 ·cases r with
  | ok v st' =>
    obtain ⟨G', sm', h1, h2, h3⟩ := h; exact k v G' sm' st' rfl h1 h2 h3
  | stop o n st' => exact .inr h
theorem Og.mono {α : Type} {R : ZT × Xc} {lo lo' : Int} {r : WR α} {K K' : α -> Nat -> Xc -> Prop} (h : Og fx R lo r K) (hl : lo' <= lo) (k : ∀ v G' sm', K v G' sm' -> K' v G' sm') : Og fx R lo' r K' := by
 rcases h with h | h
 ·exact .inl h
 ·right
  cases r with
  | ok v st' =>
    obtain ⟨G', sm', h1, h2, h3⟩ := h; exact ⟨G', sm', h1, by omega, k _ _ _ h3⟩
  | stop o n st' => exact h
structure Fn (P : Zz) (fl : List ZJ) (k : Nat) (me : ZT) : Prop where
 lt : k < fl.length
 n : me.n = k
 ok : VG P me
 caps : (me.l.length : Int) = (fl.getD k default).caps
theorem Fn.Xj {k : Nat} {self : ZT} (h : Fn P fl k self) : Go.Proofs.YtbcfdebdikgijaaGreatDoor.Xj P self = P.Zu.getD k default := by unfold Go.Proofs.YtbcfdebdikgijaaGreatDoor.Xj; rw [h.n]; rfl
def kP (P : Zz) (fl : List ZJ) (fx fe : Int) (g : Nat) (x : Z0) : Prop :=
 ∀ (k : Nat) (self : ZT) (loc LM stk : List ZT) (p G : Nat) (sm : Xc) (st : Xa), Fn P fl k self -> (∀ y ∈ loc, VG P y) -> ZI (fl.getD k default).caps (YM fl) loc.length x = true ->
  YL (P.Zu.getD k default).code (Ux P.texts) loc.length x p -> (∀ s ∈ YK x, s ∈ P.texts) -> Xm loc.length x <= LM.length -> LM.take loc.length = loc -> nH fx sm G st.out ->
  Og fx (Yl P fx G self LM stk (p : Int) sm) sm.steps (Y1 fl fe g x self loc st) fun v G' sm' => VG P v /\ ∃ pK, pK.length = LM.length /\ pK.take loc.length = loc /\
   Yl P fx G self LM stk (p : Int) sm = Yl P fx G' self pK (stk ++ [v]) ((p + ZU x : Nat) : Int) sm'
theorem EJ {g : Nat} {k : Nat} {self : ZT} {loc : List ZT} (hF : Fn P fl k self) (hloc : ∀ y ∈ loc, VG P y) : ∀ (l : List Z0), (∀ x ∈ l, kP P fl fx fe g x) -> ∀ (LM stk : List ZT) (p G : Nat) (sm : Xc) (st : Xa),
 (∀ y ∈ l, ZI (fl.getD k default).caps (YM fl) loc.length y = true /\ Xm loc.length y <= LM.length) -> Wy (P.Zu.getD k default).code (Ux P.texts) loc.length l p -> (∀ s ∈ YW l, s ∈ P.texts) -> LM.take loc.length = loc -> nH fx sm G st.out ->
 Og fx (Yl P fx G self LM stk (p : Int) sm) sm.steps (Sy (fun x st => Y1 fl fe g x self loc st) l st) fun vs G' sm' => ((∀ y ∈ vs, VG P y) /\ vs.length = l.length) /\ ∃ pK, pK.length = LM.length /\ pK.take loc.length = loc /\
  Yl P fx G self LM stk (p : Int) sm = Yl P fx G' self pK (stk ++ vs) ((p + ZC l : Nat) : Int) sm'
 | [], _, LM, stk, p, G, sm, st, _, _, _, hL, hR => .inr ⟨G, sm, hR, Int.le_refl _, ⟨fun _ h => by (cases h), rfl⟩, LM, rfl, hL, by rw [Yi, List.append_nil]; rfl⟩
 | x :: r, ih, LM, stk, p, G, sm, st, hf, hc, ht, hL, hR => by
   rw [VZ] at hc; rw [YZ] at ht; have hx := hf x (List.mem_cons_self ..); rw [Sy]; refine (ih x (List.mem_cons_self ..) k self loc LM stk p G sm st hF hloc hx.1 hc.1 (fun s hs => ht s (List.mem_append_left _ hs)) hx.2 hL hR).bind ?_; rintro v G1 sm1 st1 _ hR1 hlo ⟨hv, LM1, hl1, ht1, e1⟩; rw [e1]; have := EJ hF hloc r (fun y hy => ih y (List.mem_cons_of_mem _ hy)) LM1 (stk ++ [v]) (p + ZU x) G1 sm1 st1 (fun y hy => by rw [hl1]; exact hf y (List.mem_cons_of_mem _ hy)) hc.2 (fun s hs => ht s (List.mem_append_right _ hs)) ht1 hR1; refine Og.bind (this.mono hlo (K' := fun vs G' sm' => _) fun _ _ _ h => h) ?_; rintro vs G2 sm2 st2 _ hR2 hlo2 ⟨⟨hvs, hlen⟩, LM2, hl2, ht2, e2⟩; refine .inr ⟨G2, sm2, hR2, hlo2, ⟨fun y hy => ?_, by simp [hlen]⟩, LM2, by rw [hl2, hl1], ht2, ?_⟩
   ·rcases List.mem_cons.1 hy with rfl | hy
    ·exact hv
    ·exact hvs y hy
   ·rw [e2, Zm, List.append_assoc, Nat.add_assoc]; rfl
theorem Og.step {β : Type} {k : Nat} {self : ZT} (hF : Fn P fl k self) {G : Nat} {LM stk : List ZT} {p : Nat} {sm : Xc} {i : Ins} {out : List ByteArray} {lo : Int} {r : WR β} {K : β -> Nat -> Xc -> Prop}
 (hC : (P.Zu.getD k default).code[p]? = some i) (hk : Yd i <= stk.length) (hR : nH fx sm G out) (h : ∀ g, nH fx (tick sm) g out -> Yl P fx G self LM stk (p : Int) sm = Vv P fx self g LM stk p sm i -> Og fx (Vv P fx self g LM stk p sm i) lo r K) :
 Og fx (Yl P fx G self LM stk (p : Int) sm) lo r K := by
 rcases EM (P := P) (f := self) (LM := LM) (by rw [hF.Xj]; exact hC) hk hR.e0 hR.le hR.ru with h1 | ⟨g, _, h2, h3, h4⟩
 ·exact .inl h1
 ·rw [h4]
  exact h g ⟨hR.e0, hR.n0, hR.out, h2, h3⟩ h4
theorem QF {α : Type} (a b : List α) (k : Nat) (h : k = b.length) : (a ++ b).drop ((a ++ b).length - k) = b /\ (a ++ b).take ((a ++ b).length - k) = a := by
 subst h
 rw [List.length_append, Nat.add_sub_cancel]
 exact ⟨List.drop_left .., List.take_left ..⟩
theorem Ui (sm : Xc) : sm.steps <= (tick sm).steps := by show sm.steps <= sm.steps + 1; omega
theorem JC {C : List Ins} {T : ByteArray -> Int} {lc : Int} {e : Nat} : ∀ (r : List Z0) (tab p : Nat), Tz C T lc r tab p e -> e = p + ZC r + (r.length - 1) -> ∀ j, j < r.length ->
 ∃ q : Nat, C[tab + j]? = some ⟨14, (q : Int), 0⟩ /\ YL C T lc (r.getD j default) q /\ (C[q + ZU (r.getD j default)]? = some ⟨14, (e : Int), 0⟩ \/ q + ZU (r.getD j default) = e)
 | [], _, _, _, _, j, hj => by simp at hj
 | x :: r, tab, p, h, he, j, hj => by
   rw [Tz] at h; rw [Zm, List.length_cons] at he; cases j with
   | zero =>
     refine ⟨p, h.1, h.2.1, ?_⟩; by_cases hr : r = []
     ·subst hr
      right
      rw [Yi] at he; simp at he ⊢; omega
     ·exact .inl (h.2.2.1 hr)
   | succ j =>
     have hj' : j < r.length := by simpa using hj
     obtain ⟨q, q1, q2, q3⟩ := JC r (tab + 1) (p + ZU x + 1) h.2.2.2 (by omega) j hj'; exact ⟨q, by rw [<- q1]; congr 1; omega, by simpa using q2, by simpa using q3⟩
end
section
variable {P : Zz} {fl : List ZJ} {fx fe : Int}
theorem Uh {y : Z0} {s : ByteArray} : ∀ {l : List Z0}, y ∈ l -> s ∈ YK y -> s ∈ YW l
 | x :: r, h, hs => by
   rw [YZ]; rcases List.mem_cons.1 h with rfl | h
   ·exact List.mem_append_left _ hs
   ·exact List.mem_append_right _ (Uh h hs)
theorem Og.andThen {α : Type} {R : ZT × Xc} {lo : Int} {r : WR α} {K K2 : α -> Nat -> Xc -> Prop} (h : Og fx R lo r K)
 (k : ∀ v G' sm' st', r = .ok v st' -> nH fx sm' G' st'.out -> lo <= sm'.steps -> K v G' sm' -> Og fx R lo (.ok v st') K2) : Og fx R lo r K2 := by
 rcases h with h | h
 ·exact .inl h
 ·cases r with
  | ok v st' =>
    obtain ⟨G', sm', h1, h2, h3⟩ := h; exact k v G' sm' st' rfl h1 h2 h3
  | stop o n st' => exact .inr h
theorem Ki (f : ZT) (g : Nat) (LM stk : List ZT) (v : ZT) (p : Nat) (sm : Xc) (a b : Int) : Vv P fx f g LM (stk ++ [v]) p sm ⟨13, a, b⟩ =
 if v.op ≠ 4 \/ b <= v.n then (default, YB (tick sm) 4 0) else Yl P fx g f (LM.set a.toNat (v.l.headD default)) stk ((p : Int) + 1 + v.n) (tick sm) := by
 have hd := QF stk [v] 1 rfl
 have hpp : Yd ⟨13, a, b⟩ = 1 := rfl
 unfold Vv
 rw [hpp]
 dsimp only
 rw [hd.1, hd.2, Z7 (show ¬ (13 : Int) = 9 by decide), Z7 (show ¬ (13 : Int) = 14 by decide), Z7 (show ¬ (13 : Int) = 16 by decide), Z7 (show ¬ (13 : Int) = 4 by decide), ZY rfl]
 rfl
theorem Ih (f : ZT) (g : Nat) (LM stk : List ZT) (v : ZT) (p : Nat) (sm : Xc) (a b : Int) : Vv P fx f g LM (stk ++ [v]) p sm ⟨4, a, b⟩ = Yl P fx g f (LM.set a.toNat v) stk ((p : Int) + 1) (tick sm) := by
 have hd := QF stk [v] 1 rfl
 have hpp : Yd ⟨4, a, b⟩ = 1 := rfl
 unfold Vv
 rw [hpp]
 dsimp only
 rw [hd.1, hd.2, Z7 (show ¬ (4 : Int) = 9 by decide), Z7 (show ¬ (4 : Int) = 14 by decide), Z7 (show ¬ (4 : Int) = 16 by decide), ZY rfl]
 rfl
theorem QE (f : ZT) (g : Nat) (LM stk : List ZT) (p : Nat) (sm : Xc) (a b : Int) : Vv P fx f g LM stk p sm ⟨14, a, b⟩ = Yl P fx g f LM stk a (tick sm) := by
 have hpp : Yd ⟨14, a, b⟩ = 0 := rfl
 unfold Vv
 rw [hpp]
 dsimp only
 rw [Z7 (show ¬ (14 : Int) = 9 by decide), ZY rfl, Nat.sub_zero, List.take_length]
theorem Cg (f : ZT) (g : Nat) (LM : List ZT) (v : ZT) (p : Nat) (sm : Xc) (a b : Int) : Vv P fx f g LM [v] p sm ⟨9, a, b⟩ = (v, tick sm) := by
 have hd := QF [] [v] 1 rfl
 have hpp : Yd ⟨9, a, b⟩ = 1 := rfl
 unfold Vv
 rw [hpp]
 rfl
theorem EI (f : ZT) (g : Nat) (LM stk : List ZT) (x y : ZT) (p : Nat) (sm : Xc) (a b : Int) : Vv P fx f g LM (stk ++ [x, y]) p sm ⟨8, a, b⟩ =
 (let r := if x.op = 7 then Yl P fx g x (X8 P x y) [] 0 (tick sm) else (default, tick sm)
  if r.1.op = 0 then (default, YB r.2 4 0) else Yl P fx g f LM (stk ++ [r.1]) ((p : Int) + 1) r.2) := by
 have hd := QF stk [x, y] 2 rfl
 have hpp : Yd ⟨8, a, b⟩ = 2 := rfl
 unfold Vv
 rw [hpp]
 dsimp only
 rw [hd.1, hd.2, Z7 (show ¬ (8 : Int) = 9 by decide), Z7 (show ¬ (8 : Int) = 14 by decide), Z7 (show ¬ (8 : Int) = 16 by decide), Z7 (show ¬ (8 : Int) = 4 by decide), Z7 (show ¬ (8 : Int) = 13 by decide), ZY rfl]
 rfl
theorem EH (f : ZT) (g : Nat) (LM stk vs : List ZT) (p : Nat) (sm : Xc) (i : Ins) (hk : Yd i = vs.length) (ho : i.op ≠ 9 /\ i.op ≠ 14 /\ i.op ≠ 16 /\ i.op ≠ 4 /\ i.op ≠ 13 /\ i.op ≠ 8) : Vv P fx f g LM (stk ++ vs) p sm i =
 (if (pushP P f LM vs i (tick sm)).1.op = 0 then (default, YB (pushP P f LM vs i (tick sm)).2 4 0) else Yl P fx g f LM (stk ++ [(pushP P f LM vs i (tick sm)).1]) ((p : Int) + 1) (pushP P f LM vs i (tick sm)).2) := by
 have hd := QF stk vs (Yd i) hk
 obtain ⟨h9, h14, h16, h4, h13, h8⟩ := ho
 unfold Vv
 dsimp only
 rw [hd.1, hd.2, Z7 h9, Z7 h14, Z7 h16, Z7 h4, Z7 h13, Z7 h8]
theorem Np {LM loc : List ZT} {w : ZT} (h : LM.take (loc ++ [w]).length = loc ++ [w]) : LM.take loc.length = loc := by
 have e := congrArg (List.take loc.length) h
 rw [List.take_take, List.length_append, Nat.min_eq_left (by omega)] at e
 simpa using e
theorem take_set {LM loc : List ZT} (w : ZT) (h : LM.take loc.length = loc) (hl : loc.length < LM.length) : (LM.set loc.length w).take (loc ++ [w]).length = loc ++ [w] := by
 rw [List.length_append, List.length_singleton, List.take_succ_eq_append_getElem (by rw [List.length_set]; exact hl)]
 rw [List.getElem_set_self, List.take_set_of_le (Nat.le_refl _), h]
theorem Vh (loc : List ZT) (w : ZT) : (((loc ++ [w]).length : Nat) : Int) = (loc.length : Int) + 1 := by simp
theorem QD {loc : List ZT} {w : ZT} (h : ∀ y ∈ loc, VG P y) (hw : VG P w) : ∀ y ∈ loc ++ [w], VG P y := fun y hy => by
 rcases List.mem_append.1 hy with hy | hy
 ·exact h y hy
 ·rw [List.mem_singleton.1 hy]; exact hw
theorem EG (hP : Ctx P fl) {g : Nat} (ih : ∀ x, kP P fl fx fe g x) {a b : ZT} (ha : VG P a) (hb : VG P b) (h7 : a.op = 7) {g' : Nat} {sm : Xc} {st : Xa} (hR : nH fx sm g' st.out) :
 let R := Yl P fx g' a (X8 P a b) [] 0 sm
 (R.2.e = 3) \/ match Y1 fl fe g (fl.getD a.n.toNat default).body a [b] st with
   | .ok v st' => ∃ sm', R = (v, sm') /\ VG P v /\ sm'.e = 0 /\ sm'.n = 0 /\ sm'.out = st'.out /\ sm.steps <= sm'.steps /\ sm'.steps <= fx
   | .stop o n st' => o ≠ 0 /\ (o ≠ 3 -> R.2.e = o /\ R.2.n = n /\ R.2.out = st'.out) := by
 intro R
 obtain ⟨f0, f1, f2⟩ := ha.fn h7
 rw [hP.len] at f1
 have hk : a.n.toNat < fl.length := by omega
 obtain ⟨g1, g2, g3, _⟩ := hP.fn _ hk
 have hv := hP.valid _ (Zr default fl _ hk)
 unfold V6 at hv
 rw [Bool.and_eq_true] at hv
 have hF : Fn P fl a.n.toNat a := ⟨hk, by omega, ha, by rw [f2, g1]⟩
 have hlg := Rn (fl.getD a.n.toNat default).body 1
 have hlen : (X8 P a b).length = (P.Zu.getD a.n.toNat default).l.toNat := by
  unfold X8; rw [hF.Xj, List.length_cons, List.length_replicate]; omega
 have hS := ih (fl.getD a.n.toNat default).body a.n.toNat a [b] (X8 P a b) [] 0 g' sm st hF (fun y hy => by rw [List.mem_singleton.1 hy]; exact hb) hv.2 g3.1 (hP.txt _ hk) (by rw [hlen]; show Xm 1 _ <= _; omega) rfl hR
 rcases hS with h | h
 ·exact .inl h
 ·cases hE : Y1 fl fe g (fl.getD a.n.toNat default).body a [b] st with
  | stop o n st' =>
    rw [hE] at h; exact .inr h
  | ok v st' =>
    rw [hE] at h; obtain ⟨G', sm', hR', hlo, jG, pK, _, _, e1⟩ := h; rw [Nat.zero_add, List.nil_append] at e1; rcases EM (P := P) (f := a) (LM := pK) (stk := [v]) (i := ⟨9, 0, 0⟩) (by rw [hF.Xj]; exact g3.2.2) (show Yd ⟨9, 0, 0⟩ <= 1 by decide) hR'.e0 hR'.le hR'.ru with h1 | ⟨g2, _, h2, h3, h4⟩
    ·left
     show (Yl P fx g' a (X8 P a b) [] 0 sm).2.e = 3
     rw [show Yl P fx g' a (X8 P a b) [] 0 sm = _ from e1]; exact h1
    ·right
     rw [Cg] at h4; exact ⟨tick sm', e1.trans h4, jG, hR'.e0, hR'.n0, hR'.out, Int.le_trans hlo (Ui _), h2⟩
theorem Aq (hP : Ctx P fl) : ∀ (g : Nat) (x : Z0), kP P fl fx fe g x
 | 0, x => fun k self loc LM stk p G sm st _ _ _ _ _ _ _ _ => .inr ⟨by decide, fun h => absurd rfl h⟩
 | g + 1, .mk op n s lv l => by
   have ih := Aq hP g; intro k self loc LM stk p G sm st hF hloc hf hc ht hlx hL hR; obtain ⟨hfm, hfp⟩ := Za hf; have hpart : ∀ i, i < l.length -> Xm (lo op loc.length i) (l.getD i default) <= LM.length := fun i hi => by have := Fa loc.length op n s lv l i hi; omega
   rw [Y1]; by_cases hs : st.steps = fe
   ·rw [ZY hs]; exact .inr ⟨by decide, fun h => absurd rfl h⟩
   rw [Z7 hs]; by_cases h13 : op = 13
   ·subst h13
    rw [ZY rfl]; have hk := (O4 hfm).1; simp at hk; obtain rfl : l = [] := hk.1; rw [YL, Z7 (by decide), Z7 (by decide)] at hc; have hC := hc.2; rw [Yi, Nat.add_zero] at hC; refine Og.step hF hC (by rw [Nq _ hfm (by decide) (by decide)]; exact Nat.zero_le _) hR fun g' hR2 _ => .inr ⟨by decide, fun _ => ?_⟩
    show (YB (tick sm) 2 n).e = 2 /\ (YB (tick sm) 2 n).n = n /\ (YB (tick sm) 2 n).out = st.out
    rw [XO hR2.e0]; exact ⟨rfl, rfl, hR2.out⟩
   rw [Z7 h13]; by_cases h9 : op = 9
   ·subst h9
    rw [ZY rfl]; cases l with
    | nil => have := (Rs hfm).1; unfold Y7 at this; simp at this
    | cons x r =>
      have hn2 := (Rs hfm).1; unfold Y7 at hn2; simp at hn2; rw [YL, Z7 (by decide), ZY rfl, PV] at hc; obtain ⟨c1, c2, c3⟩ := hc; rw [YG, Z7 (by decide), YZ] at ht; have hx := hpart 0 (by simp); have fx0 := hfp 0 (by simp); change Xm loc.length x <= LM.length at hx; change ZI (fl.getD k default).caps (YM fl) loc.length x = true at fx0; have rz : ∀ y ∈ r, ZI (fl.getD k default).caps (YM fl) (loc.length + 1) y = true /\ Xm (loc.length + 1) y <= LM.length := fun y hy => by
       obtain ⟨i, hi, rfl⟩ := List.mem_iff_getElem.1 hy; have a1 := hfp (i + 1) (by simp; omega); have a2 := hpart (i + 1) (by simp; omega); rw [show (x :: r).getD (i + 1) default = r[i] by simp [List.getD, hi], show lo 9 loc.length (i + 1) = loc.length + 1 from by unfold lo bump; rw [ZY (by omega), ZY (by omega)]] at a1 a2; exact ⟨a1, a2⟩
      refine Og.bind (ih x k self loc LM stk p G sm st.tick hF hloc fx0 c1 (fun s hs => ht s (List.mem_append_left _ hs)) hx hL hR) ?_; rintro v G1 sm1 st1 _ hR1 hlo ⟨hv, LM1, hl1, ht1, e1⟩; rw [e1]; refine Og.step hF c2 (by show 1 <= _; simp) hR1 fun g1 hR2 hrunA => ?_
      rw [Ki] at hrunA ⊢; by_cases h4 : v.op ≠ 4
      ·rw [ZY h4, ZY (.inl h4)]
       refine .inr ⟨by decide, fun _ => ?_⟩; rw [XO hR2.e0]; exact ⟨rfl, rfl, hR2.out⟩
      rw [Z7 h4]; have hvt := hv.tag (by simpa using h4); by_cases hb : (r.length : Int) <= v.n
      ·have hb1 : (((x :: r).length : Nat) : Int) <= v.n + 1 := by rw [List.length_cons]; omega
       have hb2 : v.op ≠ 4 \/ (r.length : Int) <= v.n := .inr hb; rw [ZY hb1, ZY hb2]; refine .inr ⟨by decide, fun _ => ?_⟩; rw [XO hR2.e0]; exact ⟨rfl, rfl, hR2.out⟩
      have hb1 : ¬ (((x :: r).length : Nat) : Int) <= v.n + 1 := by rw [List.length_cons]; omega
      have hb2 : ¬ (v.op ≠ 4 \/ (r.length : Int) <= v.n) := by rintro (h | h); exact h4 h; exact hb h
      rw [Z7 hb1, Z7 hb2]; rw [Z7 hb2] at hrunA; obtain ⟨j, hj⟩ : ∃ j : Nat, v.n = j := ⟨v.n.toNat, by omega⟩; have hjr : j < r.length := by omega
      obtain ⟨q, q1, q2, q3⟩ := JC r _ _ c3 (by omega) j hjr; have ej : (((p + ZU x : Nat) : Int) + 1 + v.n) = ((p + ZU x + 1 + j : Nat) : Int) := by omega
      have ey : (x :: r).getD (v.n + 1).toNat default = r.getD j default := by
       rw [show (v.n + 1).toNat = j + 1 by omega]; simp
      rw [ej] at hrunA; rw [ej, ey]; obtain ⟨hy1, hy2⟩ := rz _ (Zr default r j hjr); have hty : ∀ s ∈ YK (r.getD j default), s ∈ P.texts := fun s hs => ht s (List.mem_append_right _ (Uh (Zr default r j hjr) hs))
      generalize r.getD j default = y at *; have hly := Rn y ((loc.length : Int) + 1); have hll : loc.length < LM1.length := by omega
      obtain ⟨w, hw⟩ : ∃ w, v.l.headD default = w := ⟨_, rfl⟩; have hvw : VG P w := by rw [<- hw]; exact Oh hv.all (by omega)
      rw [hw, Int.toNat_natCast] at hrunA ⊢; refine Og.step hF q1 (Nat.zero_le _) hR2 fun g2 hR3 tL => ?_
      rw [QE] at tL ⊢; have hS := ih y k self (loc ++ [w]) (LM1.set loc.length w) stk q g2 (tick (tick sm1)) st1 hF (QD hloc hvw) (by rw [Vh]; exact hy1) (by rw [Vh]; exact q2) hty (by rw [Vh, List.length_set, hl1]; exact hy2) (take_set w ht1 hll) hR3; have ts1 := Ui (tick sm1); have ts2 := Ui sm1; refine Og.andThen (hS.mono (lo' := sm.steps) (by omega) fun _ _ _ h => h) ?_; rintro v2 G3 sm3 st3 _ hR4 pJ ⟨hv2, LM3, hl3, ht3, e3⟩; rw [e3]; have he9 : p + ZU (.mk 9 n s lv (x :: r)) = p + ZU x + ZC r + 2 * r.length := by rw [Xx, ZY rfl, Zm, List.length_cons]; omega
      rcases q3 with q3 | q3
      ·refine Og.step hF q3 (Nat.zero_le _) hR4 fun g4 hR5 hrun => ?_
       rw [QE]; refine .inr ⟨g4, _, hR5, Int.le_trans pJ (Ui _), hv2, LM3, by rw [hl3, List.length_set, hl1], Np ht3, ?_⟩; rw [QE] at hrun; rw [he9]; exact hrunA.trans (tL.trans (e3.trans hrun))
      ·refine .inr ⟨G3, _, hR4, pJ, hv2, LM3, by rw [hl3, List.length_set, hl1], Np ht3, ?_⟩
       rw [he9, <- q3]; exact hrunA.trans (tL.trans e3)
   rw [Z7 h9]; by_cases h11 : op = 11
   ·subst h11
    rw [ZY rfl]; have hk := TV hfm
    match l, hk with
    | [x, y], _ =>
      rw [YL, ZY rfl, Ru] at hc; obtain ⟨c1, c2, c3⟩ := hc; rw [VZ] at c3; rw [YG, Z7 (by decide), YZ, YZ, X0, List.append_nil] at ht; have hx := hpart 0 (by simp); have hy := hpart 1 (by simp); have fx0 := hfp 0 (by simp); have fy0 := hfp 1 (by simp); change Xm (loc.length + 1) y <= LM.length at hy; change Xm loc.length x <= LM.length at hx; change ZI (fl.getD k default).caps (YM fl) loc.length x = true at fx0; change ZI (fl.getD k default).caps (YM fl) (loc.length + 1) y = true at fy0; refine Og.bind (ih x k self loc LM stk p G sm st.tick hF hloc fx0 c1 (fun s hs => ht s (List.mem_append_left _ hs)) hx hL hR) ?_; rintro v G1 sm1 st1 _ hR1 hlo ⟨hv, LM1, hl1, ht1, e1⟩; rw [e1]; refine Og.step hF c2 (by show 1 <= _; simp) hR1 fun g1 hR2 hrunA => ?_
      rw [Ih, Int.toNat_natCast] at hrunA ⊢; have hly := Rn y ((loc.length : Int) + 1); have hS := ih y k self (loc ++ [v]) (LM1.set loc.length v) stk (p + ZU x + 1) g1 (tick sm1) st1 hF (QD hloc hv) (by rw [Vh]; exact fy0) (by rw [Vh]; exact c3.1) (fun s hs => ht s (List.mem_append_right _ hs)) (by rw [Vh, List.length_set, hl1]; exact hy) (take_set v ht1 (by omega)) hR2; have ts2 := Ui sm1; refine Og.andThen (hS.mono (lo' := sm.steps) (by omega) fun _ _ _ h => h) ?_; rintro v2 G3 sm3 st3 _ hR4 pJ ⟨hv2, LM3, hl3, ht3, e3⟩; refine .inr ⟨G3, _, hR4, pJ, hv2, LM3, by rw [hl3, List.length_set, hl1], Np ht3, ?_⟩; refine (hrunA.trans e3).trans ?_; rw [OB, show p + (ZU x + 1 + ZU y) = p + ZU x + 1 + ZU y by omega]
   rw [Z7 h11]; rw [YL, Z7 h11, Z7 h9] at hc; obtain ⟨hcs, hcl⟩ := hc; have rz : ∀ y ∈ l, ZI (fl.getD k default).caps (YM fl) loc.length y = true /\ Xm loc.length y <= LM.length := fun y hy => by
    obtain ⟨i, hi, rfl⟩ := List.mem_iff_getElem.1 hy; have a1 := hfp i hi; have a2 := hpart i hi; rw [show l.getD i default = l[i] by simp [List.getD, hi], WJ h11 h9] at a1 a2; exact ⟨a1, a2⟩
   have hts : ∀ t ∈ YW l, t ∈ P.texts := fun t hh => by
    by_cases h3 : op = 3
    ·subst h3
     have := (Sd hfm).1; simp at this; rw [this.1, X0] at hh; cases hh
    ·rw [YG, Z7 h3] at ht; exact ht t hh
   refine Og.bind (EJ hF hloc l (fun x _ => ih x) LM stk p G sm st.tick rz hcs hts hL hR) ?_; rintro vs G1 sm1 st1 _ hR1 hlo ⟨⟨hvs, hvl⟩, LM1, hl1, ht1, e1⟩; rw [e1]; rw [<- hvl] at hcl hfm; have hcx : p + ZU (.mk op n s lv l) = p + ZC l + 1 := by rw [Xx, Z7 h9]; omega
   refine Og.step hF hcl (by rw [Nq _ hfm h9 h11]; simp) hR1 fun g1 hR2 hrun => ?_
   have ts2 := Ui sm1; by_cases h25 : op = 25
   ·subst h25
    rw [ZY rfl]; have hk := (O5 hfm).1; simp at hk
    match vs, hvs, hk with
    | [a, b], hvs, _ =>
      have ha := hvs a (by simp); have hb := hvs b (by simp)
      show Og fx (Vv P fx self g1 LM1 (stk ++ [a, b]) (p + ZC l) sm1 ⟨8, 0, 0⟩) sm.steps (if a.op = 7 then Y1 fl fe g (fl.getD a.n.toNat default).body a [b] st1 else .stop 4 0 st1) _
      replace hrun : Yl P fx G1 self LM1 (stk ++ [a, b]) ((p + ZC l : Nat) : Int) sm1 = Vv P fx self g1 LM1 (stk ++ [a, b]) (p + ZC l) sm1 ⟨8, 0, 0⟩ := hrun; rw [EI] at hrun ⊢
      dsimp only at hrun ⊢
      by_cases h7 : a.op = 7
      ·rw [ZY h7] at hrun
       rw [ZY h7, ZY h7]; have hC := EG hP ih ha hb h7 hR2
       dsimp only at hC
       generalize hr : Yl P fx g1 a (X8 P a b) [] 0 (tick sm1) = R at *; have hnone : R.2.e ≠ 0 -> R.1 = default := fun h => by rw [<- hr] at h ⊢; exact KU _ _ _ _ _ _ h
       have hbad : R.2.e ≠ 0 -> (if R.1.op = 0 then (default, YB R.2 4 0) else Yl P fx g1 self LM1 (stk ++ [R.1]) (((p + ZC l : Nat) : Int) + 1) R.2) = (default, R.2) := fun h => by
        rw [hnone h, ZY (show (default : ZT).op = 0 from rfl), VK h]
       rcases hC with h3 | hC
       ·left
        rw [hbad (by omega)]; exact h3
       ·cases hE : Y1 fl fe g (fl.getD a.n.toNat default).body a [b] st1 with
        | stop o m st2 =>
          rw [hE] at hC; refine .inr ⟨hC.1, fun h => ?_⟩; obtain ⟨z1, z2, z3⟩ := hC.2 h; rw [hbad (by rw [z1]; exact hC.1)]; exact ⟨z1, z2, z3⟩
        | ok v st2 =>
          rw [hE] at hC; obtain ⟨sm2, rfl, z1, z2, z3, z4, z5, z6⟩ := hC; rw [Z7 z1.op] at hrun ⊢; have TD := hR2.ru; refine .inr ⟨g1, sm2, ⟨z2, z3, z4, z6, by omega⟩, by omega, z1, LM1, hl1, ht1, ?_⟩; rw [hcx]; exact hrun
      ·rw [Z7 h7, Z7 h7]
       refine .inr ⟨by decide, fun _ => ?_⟩; rw [ZY (show ((default : ZT), tick sm1).1.op = 0 from rfl), XO hR2.e0]; exact ⟨rfl, rfl, hR2.out⟩
   ·rw [Z7 h25]
    have hO := JD (LM := LM1) hP hF.ok (hF.caps) hfm h9 h11 h13 h25 hloc hvs ht1 (fun h3 => by
     subst h3; rw [YG, ZY rfl] at ht; exact ht s (by simp)) hR2.e0 hR2.n0 hR2.out
    obtain ⟨ho, hO⟩ := hO; rw [EH _ _ _ _ _ _ _ _ (Nq _ hfm h9 h11) ho] at hrun ⊢; cases hE : Tt op n s self loc vs st1 with
    | ok v st2 =>
      rw [hE] at hO; obtain ⟨z1, sm2, z2, z3, z4, z5, z6⟩ := hO; rw [z2, Z7 z1.op] at hrun ⊢; have TD := hR2.ru; have hle := hR2.le; refine .inr ⟨g1, sm2, ⟨z3, z4, z6, by omega, by omega⟩, by omega, z1, LM1, hl1, ht1, ?_⟩; rw [hcx]; exact hrun
    | stop o m st2 =>
      rw [hE] at hO; obtain ⟨z1, sm2, z2, z3, z4, z5⟩ := hO; rw [z2, ZY (show ((default : ZT), sm2).1.op = 0 from rfl)]; exact .inr ⟨z1, fun _ => ⟨z3, z4, z5⟩⟩
end
def Ig (op : Int) : Int := if op = 7 then 5 else op
def Oe (M : Nat -> Prop) (w : World) (v : Value) (ps : List Value) : Prop :=
 ∃ (a : Option Addr) (c : Nat), v = .slice a ps.length c /\ ps.length <= c /\ (a = none -> ps.length = 0 /\ c = 0) /\ (0 < ps.length -> ∃ b off cur, a = some ⟨b, off, none⟩ /\ ¬ M b /\ w.heap[b]? = some (.cells cur 79 (0, 0)) /\ ∀ j, j < ps.length -> w.cell? ⟨b, off + j, none⟩ = some (ps.getD j undef))
def Y9 (op n : Int) (s : ByteArray) (lv : Value) : Array Value := #[.int .i64 (Ig op), .int .i64 n, .string s, lv]
inductive Wx (M : Nat -> Prop) (w : World) : Value -> ZT -> Prop
 | mk {b : Nat} {op n : Int} {s : ByteArray} {lv : Value} {ps : List Value} {l : List ZT} : w.heap[b]? = some (.cells (Y9 op n s lv) 83 (0, 0)) -> ¬ M b -> Oe M w lv ps -> ps.length = l.length -> l.length <= 1000000 -> (∀ i, i < l.length -> Wx M w (ps.getD i undef) (l.getD i default)) -> Wx M w (.pointer (some ⟨b, 0, none⟩)) (.mk op n s l)
theorem Wx.open {M : Nat -> Prop} {w : World} {v : Value} {x : ZT} (h : Wx M w v x) : ∃ b lv ps, v = .pointer (some ⟨b, 0, none⟩) /\ w.heap[b]? = some (.cells (Y9 x.op x.n x.s lv) 83 (0, 0)) /\ ¬ M b /\ Oe M w lv ps /\ ps.length = x.l.length /\ x.l.length <= 1000000 /\ ∀ i, i < x.l.length -> Wx M w (ps.getD i undef) (x.l.getD i default) := by
 cases h with
 | mk h1 h2 h3 h4 h5 h6 => exact ⟨_, _, _, rfl, h1, h2, h3, h4, h5, h6⟩
def Sl (M : Nat -> Prop) (w w' : World) : Prop := ∀ b cur t, (t = 83 \/ t = 79 \/ t = 129) -> w.heap[b]? = some (.cells cur t (0, 0)) -> ¬ M b -> w'.heap[b]? = w.heap[b]?
theorem Oe.kept {M : Nat -> Prop} {w w' : World} {v : Value} {ps : List Value} (h : Oe M w v ps) (k : Sl M w w') : Oe M w' v ps := by
 obtain ⟨a, c, hv, hlc, hn, hl⟩ := h
 refine ⟨a, c, hv, hlc, hn, fun hne => ?_⟩
 obtain ⟨b, off, cur, ha, hm, hb, hc⟩ := hl hne
 have e := k b cur _ (.inr (.inl rfl)) hb hm
 exact ⟨b, off, cur, ha, hm, e.trans hb, fun j hj => by rw [<- hc j hj]; unfold World.cell?; rw [e]⟩
theorem Oe.more {M M' : Nat -> Prop} {w : World} {v : Value} {ps : List Value} (h : Oe M w v ps) (k : ∀ b, M' b -> M b \/ w.heap.size <= b) : Oe M' w v ps := by
 obtain ⟨a, c, hv, hlc, hn, hl⟩ := h
 refine ⟨a, c, hv, hlc, hn, fun hne => ?_⟩
 obtain ⟨b, off, cur, ha, hm, hb, hc⟩ := hl hne
 exact ⟨b, off, cur, ha, fun h => (k b h).elim hm (fun h => by have := Z6 hb; omega), hb, hc⟩
theorem Wx.kept {M : Nat -> Prop} {w w' : World} {v : Value} {x : ZT} (h : Wx M w v x) (k : Sl M w w') : Wx M w' v x := by
 induction h with
 | mk h1 h2 h3 h4 h5 _ ih => exact .mk ((k _ _ _ (.inl rfl) h1 h2).trans h1) h2 (h3.kept k) h4 h5 ih
theorem Wx.more {M M' : Nat -> Prop} {w : World} {v : Value} {x : ZT} (h : Wx M w v x) (k : ∀ b, M' b -> M b \/ w.heap.size <= b) : Wx M' w v x := by
 induction h with
 | mk h1 h2 h3 h4 h5 _ ih => exact .mk h1 (fun h => (k _ h).elim h2 (fun h => by have := Z6 h1; omega)) (h3.more k) h4 h5 ih
theorem Wx.less {M M' : Nat -> Prop} {w : World} {v : Value} {x : ZT} (h : Wx M w v x) (k : ∀ b, M' b -> M b) : Wx M' w v x := h.more fun b hb => .inl (k b hb)
theorem YS {M : Nat -> Prop} {w w' : World} (g : w.grownBy w' none) : Sl M w w' := fun b _ _ _ hb _ => g.block b (Z6 hb) (by nofun)
theorem Sl.trans {M : Nat -> Prop} {a b c : World} (h : Sl M a b) (k : Sl M b c) : Sl M a c := fun q cur t ht hq hm => (k q cur t ht ((h q cur t ht hq hm).trans hq) hm).trans (h q cur t ht hq hm)
theorem rowP_nil (M : Nat -> Prop) (w : World) : Oe M w (.slice none 0 0) [] := ⟨none, 0, rfl, Nat.le_refl _, fun _ => ⟨rfl, rfl⟩, fun h => by simp at h⟩
theorem Sk {M : Nat -> Prop} {w : World} {v : Value} {ps : List Value} (h : Oe M w v ps) (k : Nat) (hk : k < ps.length) : ∃ b off c, v = .slice (some ⟨b, off, none⟩) ps.length c /\ ps.length <= c /\ w.cell? ⟨b, off + k, none⟩ = some (ps.getD k undef) := by
 obtain ⟨a, c, rfl, hlc, _, hl⟩ := h
 obtain ⟨b, off, cur, rfl, _, _, hc⟩ := hl (by omega)
 exact ⟨b, off, c, rfl, hlc, hc k hk⟩
def tK (fv : Value) (fuel : Int) (st : Xa) (ov : Value) : Array Value := #[fv, .int .i64 fuel, .int .i64 st.steps, ov]
structure RZ (V : World) (mb : Nat) (fv : Value) (fuel : Int) (st : Xa) (ov : Value) : Prop where
 blk : V.heap[mb]? = some (.cells (tK fv fuel st ov) 75 (0, 0))
 own : V.ownsRow (mb + 1) 9 1 ov st.out.length (strCells st.out)
theorem RZ.free {V V' : World} {mb : Nat} {fv : Value} {fuel : Int} {st : Xa} {ov : Value} (h : RZ V mb fv fuel st ov) (hg : V.grownBy V' none) : RZ V' mb fv fuel st ov :=
 ⟨(hg.block mb (Z6 h.blk) (by nofun)).trans h.blk, Zx h.own hg (by nofun)⟩
theorem RZ.Od {M : Nat -> Prop} {V V' : World} {mb : Nat} {fv : Value} {fuel : Int} {st : Xa} {ov : Value} {r' : Option Nat} (h : RZ V mb fv fuel st ov) (g : Em mb V V' ov.ownBlock r') : Sl M V V' := fun b cur t ht hb _ => by
 refine g.kept b (Z6 hb) (fun e => ?_) (fun e => ?_)
 ·rw [e, h.blk] at hb
  have := (Obj.cells.inj (Option.some.inj hb)).2.1; rcases ht with rfl | rfl | rfl <;> exact absurd this (by decide)
 ·obtain ⟨cur', hc⟩ := XP h.own b e
  rw [hc] at hb; have := (Obj.cells.inj (Option.some.inj hb)).2.1; rcases ht with rfl | rfl | rfl <;> exact absurd this (by decide)
structure Yk (M : Nat -> Prop) (w : World) (fb : Nat) (sv lv : Value) (ps : List Value) (me : ZT) (loc : List ZT) : Prop where
 blk : w.heap[fb]? = some (.cells #[sv, lv] 129 (0, 0))
 out : ¬ M fb
 fn : Wx M w sv me
 row : Oe M w lv ps
 len : ps.length = loc.length
 all : ∀ i, i < loc.length -> Wx M w (ps.getD i undef) (loc.getD i default)
theorem Yk.kept {M : Nat -> Prop} {w w' : World} {fb : Nat} {sv lv : Value} {ps : List Value} {self : ZT} {loc : List ZT} (h : Yk M w fb sv lv ps self loc) (k : Sl M w w') : Yk M w' fb sv lv ps self loc :=
 ⟨(k _ _ _ (.inr (.inr rfl)) h.blk h.out).trans h.blk, h.out, h.fn.kept k, h.row.kept k, h.len, fun i hi => (h.all i hi).kept k⟩
theorem Yk.more {M M' : Nat -> Prop} {w : World} {fb : Nat} {sv lv : Value} {ps : List Value} {self : ZT} {loc : List ZT} (h : Yk M w fb sv lv ps self loc) (k : ∀ b, M' b -> M b \/ w.heap.size <= b) : Yk M' w fb sv lv ps self loc :=
 ⟨h.blk, fun hb => (k _ hb).elim h.out (fun h' => by have := Z6 h.blk; omega), h.fn.more k, h.row.more k, h.len, fun i hi => (h.all i hi).more k⟩
def Wn (o n : Int) : List PanicEntry := [{ v := .iface 77 (.agg #[.int .i64 o, .int .i64 n]), recovered := false }]
def WG {α : Type} (mb : Nat) (fv : Value) (fuel : Int) (V : World) (ov : Value) (r : WR α) (K : α -> Value -> World -> Prop) (e : Ending) (V' : World) : Prop :=
 ∃ QZ, Em mb V V' ov.ownBlock QZ.ownBlock /\ match r with
 | .ok v st' => RZ V' mb fv fuel st' QZ /\ ∃ y, e = .returned y /\ K v y V'
 | .stop o n st' => RZ V' mb fv fuel st' QZ /\ e = .panicked (Wn o n)
def EF (w : World) (v : ZT) (e : Ending) (w' : World) : Prop := ∃ y, e = .returned y /\ (∀ M, (∀ b, M b -> b < w.heap.size) -> Wx M w' y v) /\ w.grownBy w' none
def XK (r : PQ) (w : World) (e : Ending) (w' : World) : Prop :=
 match r with
 | .stuck => e = .panicked (Wn 4 0) /\ w.grownBy w' none
 | .fail c => e = .panicked (Wn 2 c) /\ w.grownBy w' none
 | .val v => EF w v e w'
 | .print _ => False
theorem Xz (o n : Int) (w : World) : Calls Tryz.prog 62 #[.int .i64 o, .int .i64 n] w fun e w' => e = .panicked (Wn o n) /\ w = w' := by
 go_in
 go_wp2
 exact ⟨rfl, rfl, rfl⟩
theorem Yb (w : World) (r : Option Nat) : w.grownBy w r := ⟨rfl, rfl, rfl, Nat.le_refl _, fun _ _ _ => rfl⟩
theorem RH (w : World) (op n : Int) (s : ByteArray) : EF w (.mk op n s []) (.returned (.pointer (some ⟨w.heap.size, 0, none⟩))) (w.alloc (.cells (Y9 op n s (.slice none 0 0)) 83)) :=
 ⟨_, rfl, fun M hM => .mk (Zn w _) (fun h => Nat.lt_irrefl _ (hM _ h)) (rowP_nil M _) rfl (Nat.zero_le _) (fun i hi => (Nat.not_lt_zero i hi).elim), Z8 w _⟩
theorem RG (w : World) : Calls Tryz.prog 31 #[] w fun e w' => e = .returned (.pointer (some ⟨w.heap.size, 0, none⟩)) /\ w' = w.alloc (.cells (Y9 3 0 ⟨#[]⟩ (.slice none 0 0)) 83) := by
 go_in
 go_wp2
 go_ret
 exact ⟨rfl, rfl⟩
theorem Vu (n : Int) (w : World) : Calls Tryz.prog 101 #[.int .i64 n] w (XK (Kl (WV n)) w) := by
 by_cases h : Y7 n (-4503599627370496) 4503599627370496 = true
 ·have e : WV n = .num n := by
   unfold Y7 at h; simp at h; unfold WV; rw [Z7 (by omega), Z7 (by omega)]
  rw [e]; go_in; go_wp2_with (go_at_call 47; refine (YU _ _ _ _).mono ?_; rintro e w' ⟨rfl, rfl⟩; rw [h]); go_ret; exact RH w 1 n ⟨#[]⟩
 ·have e : WV n = .fail 2 := by
   unfold Y7 at h; simp at h; unfold WV; by_cases h1 : 4503599627370496 < n
   ·rw [ZY h1]
   ·rw [Z7 h1, ZY (by omega)]
  have h' : Y7 n (-4503599627370496) 4503599627370496 = false := by simpa using h
  rw [e]; go_in; go_wp2_with (first
   | (go_at_call 47; refine (YU _ _ _ _).mono ?_; rintro e w' ⟨rfl, rfl⟩; rw [h'])
   | (go_at_call 62; refine (Xz _ _ _).mono ?_; rintro e w' ⟨rfl, rfl⟩))
  exact ⟨rfl, rfl, Yb _ _⟩
theorem JB (s : ByteArray) (w : World) : Calls Tryz.prog 104 #[.string s] w (XK (Kl (VA s)) w) := by
 by_cases h : 16384 < s.size
 ·have e : VA s = .fail 2 := by unfold VA; rw [ZY h]
  rw [e]; have h' : (16384 : Int) < (s.size : Int) := by omega
  go_in; go_wp2_with (go_at_call 62; refine (Xz _ _ _).mono ?_; rintro e w' ⟨rfl, rfl⟩); exact ⟨rfl, rfl, Yb _ _⟩
 ·have e : VA s = .txt s := by unfold VA; rw [Z7 h]
  rw [e]; have h' : ¬ (16384 : Int) < (s.size : Int) := by omega
  go_in; go_wp2_with (go_at_call 62; refine (Xz _ _ _).mono ?_; rintro e w' ⟨rfl, rfl⟩); go_ret; exact RH w 2 0 s
theorem kN : (Tryz.prog.info? 79).map (fun i => (i.size, i.zero.map (·.cells.size))) = some (1, some 1) := by kernel_rfl
theorem Ie {ops : Array Oper} {rest : List Oper} {o : Oper} {a : Act} {w : World} {Q : Exit -> Act -> World -> Prop} (hg : o.guard = none) (x : Operand) (ho : o.op = .buildSlice 81 1 #[(0, x)])
 (c : Option Addr) (hx : a.eval x = .pointer c)
 (h : wpList Tryz.prog ops Q rest (a.put o.dst (.slice (some ⟨w.heap.size, 0, none⟩) 1 1)) (w.alloc (.cells #[.pointer c] 79))) : wpList Tryz.prog ops Q (o :: rest) a w := by
 have hz := kN
 cases hq : Tryz.prog.info? 79 with
 | none => rw [hq] at hz; simp at hz
 | some ie =>
   rw [hq] at hz; simp only [Option.map_some, Option.some.injEq, Prod.mk.injEq] at hz; obtain ⟨h1, h2⟩ := hz; cases hzz : ie.zero with
   | none => rw [hzz] at h2; simp at h2
   | some z =>
     refine wpList_buildSlice hg _ _ 1 _ ho #[.pointer c] ie z Tryz.underlying81 hq hzz (by rw [h1]; decide) (by rw [h1]; decide) ?_ h; have e : (Array.map (fun (x : Nat × Operand) => match x with | (i, x) => (i, a.eval x)) #[(0, x)]).toList = (([Value.pointer c].zipIdx 0).map fun x => (x.2, x.1)) := by
      simp [hx]
     rw [e, Great.fill_whole (by rw [h1]; decide) [Value.pointer c] _ (by simp [Value.cells, h1]) (by simp)]; simp [Value.cells]
theorem Rf (b : Bool) (w : World) : Calls Tryz.prog 103 #[.bool b] w (XK (Kl (.bool b)) w) := by
 have g0 := Z8 w (.cells (Y9 3 0 ⟨#[]⟩ (.slice none 0 0)) 83)
 have n0 := Zn w (.cells (Y9 3 0 ⟨#[]⟩ (.slice none 0 0)) 83)
 have e0 : (w.alloc (.cells (Y9 3 0 ⟨#[]⟩ (.slice none 0 0)) 83)).heap.size = w.heap.size + 1 := by simp
 have HU := fun wx => RG wx
 have key : ∀ W : World, (w.grownBy W none) -> W.heap.size = w.heap.size + 1 -> W.heap[w.heap.size]? = some (.cells (Y9 3 0 ⟨#[]⟩ (.slice none 0 0)) 83 (0, 0)) -> ∀ (n : Int) (W3 : World), (W.grownBy W3 none) -> W3.heap[w.heap.size + 1]? = some (.cells #[.pointer (some ⟨w.heap.size, 0, none⟩)] 79 (0, 0)) -> W3.heap[w.heap.size + 1 + 1]? = some (.cells (Y9 4 n ⟨#[]⟩ (.slice (some ⟨w.heap.size + 1, 0, none⟩) 1 1)) 83 (0, 0)) ->
  EF w (.mk 4 n ⟨#[]⟩ [.mk 3 0 ⟨#[]⟩ []]) (.returned (.pointer (some ⟨w.heap.size + 1 + 1, 0, none⟩))) W3 := fun W hg hs h0 n W3 hg3 h1 h2 => by
  refine ⟨_, rfl, fun M hM => ?_, both hg hg3⟩; have h0' := (hg3.block _ (by omega) (by nofun)).trans h0; refine .mk (ps := [.pointer (some ⟨w.heap.size, 0, none⟩)]) h2 (fun h => by have := hM _ h; omega) ⟨_, _, rfl, Nat.le_refl _, (fun h => by cases h), fun _ => ⟨_, 0, _, rfl, fun h => by have := hM _ h; omega, h1, fun j hj => ?_⟩⟩ rfl (by decide) (fun i hi => ?_)
  ·have : j = 0 := by simpa using hj
   subst this; exact (Zk _ _ 0 _ _ _ h1).trans rfl
  ·have : i = 0 := by simpa using hi
   subst this; exact .mk h0' (fun h => by have := hM _ h; omega) (rowP_nil M _) rfl (Nat.zero_le _) (fun i hi => (Nat.not_lt_zero i hi).elim)
 have HK := Z9 key
 clear key
 cases b
 ·go_in
  go_wp2_with (first
   | (go_at_call 31; refine (HU _).mono ?_; rintro e w2 ⟨rfl, rfl⟩; generalize w.alloc (.cells (Y9 3 0 ⟨#[]⟩ (.slice none 0 0)) 83) = W at *)
   | (refine Ie rfl _ rfl _ rfl ?_))
  go_ret; have g1 := Z8 W (.cells #[.pointer (some ⟨w.heap.size, 0, none⟩)] 79); have n1 := ZF e0 (.cells #[.pointer (some ⟨w.heap.size, 0, none⟩)] 79); have e1 : (W.alloc (.cells #[.pointer (some ⟨w.heap.size, 0, none⟩)] 79)).heap.size = w.heap.size + 1 + 1 := by simp [e0]
  have hX := HK.out W g0 e0 n0 0 ((W.alloc (.cells #[.pointer (some ⟨w.heap.size, 0, none⟩)] 79)).alloc (.cells (Y9 4 0 ⟨#[]⟩ (.slice (some ⟨w.heap.size + 1, 0, none⟩) 1 1)) 83)) (both g1 (Z8 _ _)) (((Z8 _ _).block _ (by omega) (by nofun)).trans n1) (ZF e1 _); exact hX
 ·go_in
  go_wp2_with (first
   | (go_at_call 31; refine (HU _).mono ?_; rintro e w2 ⟨rfl, rfl⟩; generalize w.alloc (.cells (Y9 3 0 ⟨#[]⟩ (.slice none 0 0)) 83) = W at *)
   | (refine Ie rfl _ rfl _ rfl ?_))
  go_ret; have g1 := Z8 W (.cells #[.pointer (some ⟨w.heap.size, 0, none⟩)] 79); have n1 := ZF e0 (.cells #[.pointer (some ⟨w.heap.size, 0, none⟩)] 79); have e1 : (W.alloc (.cells #[.pointer (some ⟨w.heap.size, 0, none⟩)] 79)).heap.size = w.heap.size + 1 + 1 := by simp [e0]
  exact HK.out W g0 e0 n0 1 ((W.alloc (.cells #[.pointer (some ⟨w.heap.size, 0, none⟩)] 79)).alloc (.cells (Y9 4 1 ⟨#[]⟩ (.slice (some ⟨w.heap.size + 1, 0, none⟩) 1 1)) 83)) (both g1 (Z8 _ _)) (((Z8 _ _).block _ (by omega) (by nofun)).trans n1) (ZF e1 _)
section
variable {P : Zz} {fl : List ZJ} {fe : Int}
def Nn (fe lo : Int) (st : Xa) : Prop := lo <= st.steps /\ st.steps <= fe /\ st.out.length <= 1000
def ED {α : Type} (fe : Int) (Q : α -> Prop) (lo : Int) : WR α -> Prop
 | .ok v st => Q v /\ Nn fe lo st
 | .stop _ _ st => Nn fe lo st
theorem ED.bind {α β : Type} {Q : α -> Prop} {Q2 : β -> Prop} {lo : Int} {r : WR α} {k : α -> Xa -> WR β} (h : ED fe Q lo r) (hk : ∀ v st, r = .ok v st -> Q v -> Nn fe lo st -> ED fe Q2 lo (k v st)) : ED fe Q2 lo (Vw r k) := by
 cases r with
 | ok v st => exact hk v st rfl h.1 h.2
 | stop o n st => exact h
theorem ED.mono {α : Type} {Q Q2 : α -> Prop} {lo lo' : Int} {r : WR α} (h : ED fe Q lo r) (hl : lo' <= lo) (hq : ∀ v, Q v -> Q2 v) : ED fe Q2 lo' r := by
 cases r with
 | ok v st => exact ⟨hq v h.1, by have := h.2.1; omega, h.2.2⟩
 | stop o n st => exact ⟨by have := h.1; omega, h.2⟩
def nG (P : Zz) (fl : List ZJ) (fe : Int) (g : Nat) (x : Z0) : Prop :=
 ∀ (k : Nat) (self : ZT) (loc : List ZT) (st : Xa), Fn P fl k self -> (∀ y ∈ loc, VG P y) -> ZI (fl.getD k default).caps (YM fl) loc.length x = true -> (∀ s ∈ YK x, s ∈ P.texts) -> st.steps <= fe -> st.out.length <= 1000 -> ED fe (VG P) st.steps (Y1 fl fe g x self loc st)
theorem Ug {g k : Nat} {self : ZT} {loc : List ZT} (hF : Fn P fl k self) (hloc : ∀ y ∈ loc, VG P y) : ∀ (l : List Z0) (st : Xa) (lo : Int), (∀ x ∈ l, nG P fl fe g x) -> (∀ y ∈ l, ZI (fl.getD k default).caps (YM fl) loc.length y = true) -> (∀ s ∈ YW l, s ∈ P.texts) -> Nn fe lo st ->
 ED fe (fun vs : List ZT => (∀ y ∈ vs, VG P y) /\ vs.length = l.length) lo (Sy (fun x st => Y1 fl fe g x self loc st) l st)
 | [], st, lo, _, _, _, h => ⟨⟨fun _ h => (by cases h), rfl⟩, h⟩
 | x :: r, st, lo, ih, hf, ht, h => by
   rw [YZ] at ht; rw [Sy]; refine ED.bind ((ih x (List.mem_cons_self ..) k self loc st hF hloc (hf x (List.mem_cons_self ..)) (fun s hs => ht s (List.mem_append_left _ hs)) h.2.1 h.2.2).mono h.1 fun _ h => h) fun v st1 _ hv h1 => ?_
   refine ED.bind (Ug hF hloc r st1 lo (fun y hy => ih y (List.mem_cons_of_mem _ hy)) (fun y hy => hf y (List.mem_cons_of_mem _ hy)) (fun s hs => ht s (List.mem_append_right _ hs)) h1) fun vs st2 _ hvs h2 => ?_
   refine ⟨⟨fun y hy => ?_, by simp [hvs.2]⟩, h2⟩; rcases List.mem_cons.1 hy with rfl | hy
   ·exact hv
   ·exact hvs.1 y hy
def WR.st {α : Type} : WR α -> Xa
 | .ok _ st => st
 | .stop _ _ st => st
theorem yJ {n : Int} {vs : List ZT} {st : Xa} {lo : Int} (h : Nn fe lo st) : Nn fe lo (Sm n vs st).st := by
 unfold Sm
 cases Yq n vs with
 | stuck => exact h
 | fail c => exact h
 | val v => exact h
 | print s =>
   show Nn fe lo (if st.out.length = 1000 then WR.stop 2 2 st else WR.ok (ZT.mk 3 0 ⟨#[]⟩ []) ⟨st.steps, st.out ++ [s]⟩).st
   by_cases hl : st.out.length = 1000
   ·rw [ZY hl]; exact h
   ·rw [Z7 hl]
    refine ⟨h.1, h.2.1, ?_⟩; have := h.2.2
    show (st.out ++ [s]).length <= 1000
    rw [List.length_append, List.length_singleton]; omega
theorem yI {op n : Int} {s : ByteArray} {self : ZT} {loc vs : List ZT} {st : Xa} {lo : Int} (h : Nn fe lo st) : Nn fe lo (Tt op n s self loc vs st).st := by
 have hif : ∀ (c : Prop) [Decidable c] (a b : WR ZT), Nn fe lo a.st -> Nn fe lo b.st -> Nn fe lo (if c then a else b).st := fun c _ a b ha hb => by
  by_cases h : c
  ·rw [ZY h]; exact ha
  ·rw [Z7 h]; exact hb
 unfold Tt
 repeat' first | exact h | exact yJ h | refine hif _ _ _ ?_ ?_
theorem Wm (hP : Ctx P fl) : ∀ (g : Nat) (x : Z0), nG P fl fe g x
 | 0, x => fun k self loc st _ _ _ _ hs ho => ⟨Int.le_refl _, hs, ho⟩
 | g + 1, .mk op n s lv l => by
   have ih := Wm hP g; intro k self loc st hF hloc hf ht hs ho; obtain ⟨hfm, hfp⟩ := Za hf; rw [Y1]; by_cases hst : st.steps = fe
   ·rw [ZY hst]; exact ⟨Int.le_refl _, hs, ho⟩
   rw [Z7 hst]; have hT : Nn fe st.steps st.tick := ⟨by show st.steps <= st.steps + 1; omega, by show st.steps + 1 <= fe; omega, ho⟩; by_cases h13 : op = 13
   ·rw [ZY h13]; exact hT
   rw [Z7 h13]; by_cases h9 : op = 9
   ·subst h9
    rw [ZY rfl]; cases l with
    | nil => have := (Rs hfm).1; unfold Y7 at this; simp at this
    | cons x r =>
      rw [YG, Z7 (by decide), YZ] at ht; have fx0 := hfp 0 (by simp); change ZI (fl.getD k default).caps (YM fl) loc.length x = true at fx0; refine ED.bind ((ih x k self loc st.tick hF hloc fx0 (fun s hs => ht s (List.mem_append_left _ hs)) hT.2.1 hT.2.2).mono hT.1 fun _ h => h) fun v st1 _ hv h1 => ?_
      by_cases h4 : v.op ≠ 4
      ·rw [ZY h4]; exact h1
      rw [Z7 h4]; by_cases hb : (((x :: r).length : Nat) : Int) <= v.n + 1
      ·rw [ZY hb]; exact h1
      rw [Z7 hb]; have hvt := hv.tag (by simpa using h4); have hjr : v.n.toNat < r.length := by rw [List.length_cons] at hb; omega
      have ey : (x :: r).getD (v.n + 1).toNat default = r.getD v.n.toNat default := by
       rw [show (v.n + 1).toNat = v.n.toNat + 1 by omega]; simp
      have a1 := hfp (v.n.toNat + 1) (by rw [List.length_cons]; omega); rw [show (x :: r).getD (v.n.toNat + 1) default = r.getD v.n.toNat default by simp, show lo 9 loc.length (v.n.toNat + 1) = loc.length + 1 from by unfold lo bump; rw [ZY (by omega), ZY (by omega)]] at a1; rw [ey]; exact (ih _ k self (loc ++ [v.l.headD default]) st1 hF (QD hloc (Oh hv.all (by omega))) (by rw [Vh]; exact a1) (fun s hs => ht s (List.mem_append_right _ (Uh (Zr default r _ hjr) hs))) h1.2.1 h1.2.2).mono h1.1 fun _ h => h
   rw [Z7 h9]; by_cases h11 : op = 11
   ·subst h11
    rw [ZY rfl]; have hk := TV hfm
    match l, hk with
    | [x, y], _ =>
      rw [YG, Z7 (by decide), YZ, YZ, X0, List.append_nil] at ht; have fx0 := hfp 0 (by simp); have fy0 := hfp 1 (by simp); change ZI (fl.getD k default).caps (YM fl) loc.length x = true at fx0; change ZI (fl.getD k default).caps (YM fl) (loc.length + 1) y = true at fy0; refine ED.bind ((ih x k self loc st.tick hF hloc fx0 (fun s hs => ht s (List.mem_append_left _ hs)) hT.2.1 hT.2.2).mono hT.1 fun _ h => h) fun v st1 _ hv h1 => ?_
      exact (ih y k self (loc ++ [v]) st1 hF (QD hloc hv) (by rw [Vh]; exact fy0) (fun s hs => ht s (List.mem_append_right _ hs)) h1.2.1 h1.2.2).mono h1.1 fun _ h => h
   rw [Z7 h11]; have rz : ∀ y ∈ l, ZI (fl.getD k default).caps (YM fl) loc.length y = true := fun y hy => by
    obtain ⟨i, hi, rfl⟩ := List.mem_iff_getElem.1 hy; have a1 := hfp i hi; rw [show l.getD i default = l[i] by simp [List.getD, hi], WJ h11 h9] at a1; exact a1
   have hts : ∀ t ∈ YW l, t ∈ P.texts := fun t hh => by
    by_cases h3 : op = 3
    ·subst h3
     have := (Sd hfm).1; simp at this; rw [this.1, X0] at hh; cases hh
    ·rw [YG, Z7 h3] at ht; exact ht t hh
   refine ED.bind (Ug hF hloc l st.tick st.steps (fun x _ => ih x) rz hts hT) fun vs st1 _ hvs h1 => ?_
   obtain ⟨hvs, hvl⟩ := hvs; rw [<- hvl] at hfm; by_cases h25 : op = 25
   ·subst h25
    rw [ZY rfl]; have hk := (O5 hfm).1; simp at hk
    match vs, hvs, hk with
    | [a, b], hvs, _ =>
      have ha := hvs a (by simp); have hb := hvs b (by simp)
      show ED fe (VG P) st.steps (if a.op = 7 then Y1 fl fe g (fl.getD a.n.toNat default).body a [b] st1 else .stop 4 0 st1)
      by_cases h7 : a.op = 7
      ·rw [ZY h7]
       obtain ⟨f0, f1, f2⟩ := ha.fn h7; rw [hP.len] at f1; have hk : a.n.toNat < fl.length := by omega
       obtain ⟨g1, _⟩ := hP.fn _ hk; have hv := hP.valid _ (Zr default fl _ hk); unfold V6 at hv; rw [Bool.and_eq_true] at hv; exact (ih _ a.n.toNat a [b] st1 ⟨hk, by omega, ha, by rw [f2, g1]⟩ (fun y hy => by rw [List.mem_singleton.1 hy]; exact hb) hv.2 (hP.txt _ hk) h1.2.1 h1.2.2).mono h1.1 fun _ h => h
      ·rw [Z7 h7]; exact h1
   ·rw [Z7 h25]
    have hO := JD (LM := loc) (sm := ⟨st1.steps, st1.out, 0, 0⟩) (st := st1) hP hF.ok hF.caps hfm h9 h11 h13 h25 hloc hvs (List.take_length ..) (fun h3 => by
     subst h3; rw [YG, ZY rfl] at ht; exact ht s (by simp)) rfl rfl rfl
    obtain ⟨_, hO⟩ := hO; have hL := yI (op := op) (n := n) (s := s) (self := self) (loc := loc) (vs := vs) h1; cases hE : Tt op n s self loc vs st1 with
    | ok v st2 =>
      rw [hE] at hO hL; exact ⟨hO.1, hL⟩
    | stop o m st2 =>
      rw [hE] at hL; exact hL
end
end Go.Proofs.YtbcfdebdikgijaaGreatDoor
