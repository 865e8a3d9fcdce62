/- Part of the proof; its texts: Ey4 Ey5 Ey6 Ez1 Ey7 Ey7b Ey7c Ey7d. -/
import Derived.Test.YtbcfdebdikgijaaGreatDoorS21
import Derived.Deep.LoopGhost
set_option maxRecDepth 100000
set_option linter.unusedVariables false
set_option linter.unusedSimpArgs false
namespace Go.Proofs.YtbcfdebdikgijaaGreatDoor
open Go Go.RowKit
def Xj (p : Zz) (f : ZT) : WU := p.Zu.getD f.n.toNat default
def X8 (p : Zz) (f arg : ZT) : List ZT := arg :: List.replicate ((Xj p f).l.toNat - 1) default
def Yd (i : Ins) : Nat := (Ya i.op i.a i.b).1.toNat
def tick (st : Xc) : Xc := { st with steps := st.steps + 1 }
def pushP (p : Zz) (f : ZT) (loc l : List ZT) (i : Ins) (st : Xc) : ZT × Xc :=
 if i.op = 1 then (.mk 1 i.a ⟨#[]⟩ [], st)
 else if i.op = 2 then (.mk 2 0 (p.texts.getD i.a.toNat default) [], st)
 else if i.op = 3 then (loc.getD i.a.toNat default, st)
 else if i.op = 5 then (f.l.getD i.a.toNat default, st)
 else if i.op = 6 then (f, st)
 else if i.op = 7 then (.mk 7 i.a ⟨#[]⟩ l, st)
 else if i.op = 10 then (.mk 3 0 ⟨#[]⟩ l, st)
 else if i.op = 12 then (.mk 4 i.a ⟨#[]⟩ l, st)
 else if i.op = 11 then (if (l.headD default).op = 3 /\ i.a < ((l.headD default).l.length : Int) then (l.headD default).l.getD i.a.toNat default else default, st)
 else Xk st (Yq i.a l)
def Yl (p : Zz) (fuel : Int) : Nat -> ZT -> List ZT -> List ZT -> Int -> Xc -> ZT × Xc
 | 0, _, _, _, _, st => (default, st)
 | g + 1, f, loc, stk, at_, st =>
   if st.e ≠ 0 then (default, st)
   else if at_ < 0 \/ ((Xj p f).code.length : Int) <= at_ then (default, YB st 4 0)
   else if st.steps = fuel then (default, YB st 3 0)
   else
    let i := (Xj p f).code.getD at_.toNat default
    let k := Yd i
    if stk.length < k then (default, YB (tick st) 4 0)
    else
     let l := stk.drop (stk.length - k)
     let s2 := stk.take (stk.length - k)
     if i.op = 9 then (l.headD default, tick st)
     else if i.op = 14 then Yl p fuel g f loc s2 i.a (tick st)
     else if i.op = 16 then (default, YB (tick st) 2 i.a)
     else if i.op = 4 then Yl p fuel g f (loc.set i.a.toNat (l.headD default)) s2 (at_ + 1) (tick st)
     else if i.op = 13 then
      (if (l.headD default).op ≠ 4 \/ i.b <= (l.headD default).n then (default, YB (tick st) 4 0)
      else Yl p fuel g f (loc.set i.a.toNat ((l.headD default).l.headD default)) s2 (at_ + 1 + (l.headD default).n) (tick st))
     else
      let r := if i.op = 8 then (if (l.headD default).op = 7 then Yl p fuel g (l.headD default) (X8 p (l.headD default) (l.getD 1 default)) [] 0 (tick st) else (default, tick st)) else pushP p f loc l i (tick st)
      if r.1.op = 0 then (default, YB r.2 4 0) else Yl p fuel g f loc (s2 ++ [r.1]) (at_ + 1) r.2
inductive Yx (p : Zz) : ZT -> Prop
 | mk {op n : Int} {s : ByteArray} {l : List ZT} : (op = 7 -> 0 <= n /\ n < p.Zu.length /\ (l.length : Int) = (p.Zu.getD n.toNat default).c) -> (op = 4 -> 1 <= l.length /\ 0 <= n /\ n <= 1000) -> (∀ y ∈ l, Yx p y) -> Yx p (.mk op n s l)
theorem Yx.all {p : Zz} {v : ZT} (h : Yx p v) : (v.op = 7 -> 0 <= v.n /\ v.n < p.Zu.length /\ (v.l.length : Int) = (p.Zu.getD v.n.toNat default).c) /\ (v.op = 4 -> 1 <= v.l.length /\ 0 <= v.n /\ v.n <= 1000) /\ ∀ y ∈ v.l, Yx p y := by
 cases h with
 | mk h1 h2 h3 => exact ⟨h1, h2, h3⟩
theorem Yp (p : Zz) : Yx p default := .mk (fun h => by cases h) (fun h => by cases h) (fun _ h => by cases h)
theorem WA (p : Zz) (op n : Int) (s : ByteArray) (h7 : op ≠ 7) (h4 : op ≠ 4) : Yx p (.mk op n s []) := .mk (fun h => absurd h h7) (fun h => absurd h h4) (fun _ h => by cases h)
theorem Rj {p : Zz} {l : List ZT} (h : ∀ y ∈ l, Yx p y) (k : Nat) : Yx p (l.getD k default) := by
 by_cases hk : k < l.length
 ·exact h _ (Zr default l k hk)
 ·have e : l.getD k default = default := by simp [List.getD, List.getElem?_eq_none (Nat.le_of_not_lt hk)]
  rw [e]; exact Yp p
theorem U1 {p : Zz} {l : List ZT} (h : ∀ y ∈ l, Yx p y) : Yx p (l.headD default) := by
 cases l with
 | nil => exact Yp p
 | cons x r => exact h x (List.mem_cons_self ..)
theorem JF (p : Zz) (st : Xc) (n : Int) (l : List ZT) (ho : st.out.length <= 1000) : Yx p (Xk st (Yq n l)).1 /\ (Xk st (Yq n l)).2.out.length <= 1000 /\ (Xk st (Yq n l)).2.steps = st.steps := by
 have hs : ∀ e m, (YB st e m).out = st.out /\ (YB st e m).steps = st.steps := fun e m => by unfold YB; split <;> exact ⟨rfl, rfl⟩
 have hv : ∀ v, Yq n l = .val v -> Yx p v := fun v h => by
  unfold Yq at h
  repeat' split at h
  all_goals first | (cases h; done) | skip
  ·cases h; exact Yp p
  ·unfold Kl at h
   split at h
   ·cases h
   ·cases h; exact WA p _ _ _ (by decide) (by decide)
   ·cases h; exact WA p _ _ _ (by decide) (by decide)
   ·rename_i b _
    cases h; refine .mk (fun h => by cases h) (fun _ => ⟨Nat.le_refl _, ?_⟩) (fun y hy => ?_)
    ·cases b <;> decide
    ·rcases List.mem_singleton.1 hy with rfl
     exact WA p _ _ _ (by decide) (by decide)
 cases hq : Yq n l with
 | stuck => exact ⟨Yp p, by rw [show (Xk st .stuck).2 = YB st 4 0 from rfl, (hs _ _).1]; exact ho, (hs _ _).2⟩
 | fail c => exact ⟨Yp p, by rw [show (Xk st (.fail c)).2 = YB st 2 c from rfl, (hs _ _).1]; exact ho, (hs _ _).2⟩
 | val v => exact ⟨hv v hq, ho, rfl⟩
 | print s =>
   unfold Xk; split
   ·cases ‹_ = _›
   ·cases ‹_ = _›
   ·cases ‹_ = _›
   ·rename_i t ht
    by_cases h : st.out.length = 1000
    ·rw [ZY h]; exact ⟨Yp p, by rw [(hs _ _).1]; exact ho, (hs _ _).2⟩
    ·rw [Z7 h]
     exact ⟨WA p _ _ _ (by decide) (by decide), by simp; omega, rfl⟩
structure QI (p : Zz) : Prop where
 head : ∀ k, k < p.Zu.length -> Ta (p.Zu.getD k default) = true
 right : ∀ k, k < p.Zu.length -> ∀ j, j < (p.Zu.getD k default).code.length -> Zo p.texts.length p.Zu (p.Zu.getD k default).c (p.Zu.getD k default).l (p.Zu.getD k default).code j ((p.Zu.getD k default).code.getD j default) = true
 main : 0 <= p.main /\ p.main < p.Zu.length /\ (p.Zu.getD p.main.toNat default).c = 0
 texts : p.texts.length <= 1000
 Zu : p.Zu.length <= 4096
theorem Xg (n a b : Int) : Y7 n a b = true ↔ a <= n /\ n <= b := by unfold Y7; simp
theorem pY {p : Zz} (h : Wu p = true) : QI p := by
 unfold Wu at h
 simp only [Bool.and_eq_true, decide_eq_true_iff, Xg] at h
 obtain ⟨h0, h1, _, h3, h4, h5⟩ := h
 have hm : ∀ k, k < p.Zu.length -> p.Zu.getD k default ∈ p.Zu := fun k hk => Zr default p.Zu k hk
 refine ⟨fun k hk => List.all_eq_true.1 h3 _ (hm k hk), fun k hk j hj => ?_, ?_, h1, by omega⟩
 ·have := List.all_eq_true.1 h4 _ (hm k hk)
  unfold Vs at this; have := List.all_eq_true.1 this j (List.mem_range.2 hj); rw [NQ] at this; exact this
 ·unfold RX at h5
  simp only [Bool.and_eq_true, decide_eq_true_iff, Xg] at h5; exact ⟨h5.1.1, by omega, h5.2⟩
theorem kS {p : Zz} (hp : QI p) {f : ZT} (hf : Yx p f) (h7 : f.op = 7) {at_ : Int} (ha : ¬ (at_ < 0 \/ ((Xj p f).code.length : Int) <= at_)) :
 Zo p.texts.length p.Zu (Xj p f).c (Xj p f).l (Xj p f).code at_.toNat ((Xj p f).code.getD at_.toNat default) = true /\ Ta (Xj p f) = true := by
 obtain ⟨h1, _, _⟩ := hf.all
 obtain ⟨n0, n1, _⟩ := h1 h7
 have hk : f.n.toNat < p.Zu.length := by omega
 exact ⟨hp.right _ hk _ (by unfold Xj at ha; omega), hp.head _ hk⟩
theorem Ol (f : WU) : Ta f = true ↔ (0 <= f.c /\ f.c <= 1000) /\ (1 <= f.l /\ f.l <= 4096) /\ (0 <= f.d /\ f.d <= 4096) /\ (1 <= (f.code.length : Int) /\ (f.code.length : Int) <= 16384) := by
 unfold Ta
 simp only [Bool.and_eq_true, Xg]
theorem EW {nt : Nat} {fs : List WU} {c l : Int} {code : List Ins} {k : Nat} {i : Ins} (h : Zo nt fs c l code k i = true) : 1 <= i.op /\ i.op <= 16 := by
 unfold Zo at h
 by_cases hk : Zb i.op = false
 ·rw [ZY hk] at h; cases h
 ·have : Zb i.op = true := by simpa using hk
  unfold Zb at this; exact (Xg _ _ _).1 this
theorem Yt {nt : Nat} {fs : List WU} {c l : Int} {code : List Ins} {k : Nat} {i : Ins} (h : Zo nt fs c l code k i = true) :
 (i.op = 2 -> 0 <= i.a /\ i.a <= (nt : Int) - 1) /\ (i.op = 3 \/ i.op = 4 -> 0 <= i.a /\ i.a <= l - 1) /\ (i.op = 5 -> 0 <= i.a /\ i.a <= c - 1) /\ (i.op = 7 -> (0 <= i.a /\ i.a <= (fs.length : Int) - 1) /\ i.b = (fs.getD i.a.toNat default).c) /\
 (i.op = 10 -> 0 <= i.a /\ i.a <= 1000) /\ (i.op = 11 \/ i.op = 12 -> 0 <= i.a /\ i.a <= 999) /\ (i.op = 13 -> (0 <= i.a /\ i.a <= l - 1) /\ 1 <= i.b /\ i.b <= 1000) /\ (i.op = 14 -> 0 <= i.a /\ i.a <= (code.length : Int) - 1) /\ (i.op = 15 -> 1 <= i.a /\ i.a <= 14) := by
 have h0 := EW h
 unfold Zo at h
 have hk : ¬ Zb i.op = false := by
  have : Zb i.op = true := by unfold Zb; rw [Xg]; exact h0
  rw [this]; decide
 rw [Z7 hk] at h
 by_cases h2 : Y8 i.op < 1 /\ i.a ≠ 0 \/ Y8 i.op < 2 /\ i.b ≠ 0
 ·rw [ZY h2] at h; cases h
 rw [Z7 h2] at h
 refine ⟨fun e => ?_, fun e => ?_, fun e => ?_, fun e => ?_, fun e => ?_, fun e => ?_, fun e => ?_, fun e => ?_, fun e => ?_⟩
 ·rw [e] at h; simpa [Xg] using h
 ·rcases e with e | e <;> rw [e] at h <;> simpa [Xg] using h
 ·rw [e] at h; simpa [Xg] using h
 ·rw [e] at h; simpa [Xg] using h
 ·rw [e] at h; simpa [Xg] using h
 ·rcases e with e | e <;> rw [e] at h <;> simpa [Xg] using h
 ·rw [e] at h
  simp only [show ¬ (13 : Int) = 1 by decide, show ¬ (13 : Int) = 2 by decide, show ¬ ((13 : Int) = 3 \/ (13 : Int) = 4) by decide, show ¬ (13 : Int) = 5 by decide, show ¬ (13 : Int) = 7 by decide, show ¬ (13 : Int) = 10 by decide, show ¬ ((13 : Int) = 11 \/ (13 : Int) = 12) by decide, if_false, if_true, Bool.and_eq_true, Xg] at h; exact ⟨h.1, h.2.1⟩
 ·rw [e] at h; simpa [Xg] using h
 ·rw [e] at h; simpa [Xg] using h
theorem yT (st : Xc) (e m : Int) : (YB st e m).out = st.out := by unfold YB; split <;> rfl
theorem MU (st : Xc) (e m : Int) : (YB st e m).steps = st.steps := by unfold YB; split <;> rfl
def EU (p : Zz) (fuel s0 : Int) (r : ZT × Xc) : Prop := Yx p r.1 /\ r.2.out.length <= 1000 /\ s0 <= r.2.steps /\ r.2.steps <= fuel
theorem RJ {p : Zz} {fuel s0 : Int} {st : Xc} (e m : Int) (ho : st.out.length <= 1000) (h1 : s0 <= st.steps) (h2 : st.steps <= fuel) : EU p fuel s0 (default, YB st e m) :=
 ⟨Yp p, by rw [yT]; exact ho, by rw [MU]; exact h1, by rw [MU]; exact h2⟩
theorem uh {stk : List ZT} {k : Nat} (h : ¬ stk.length < k) : (stk.drop (stk.length - k)).length = k := by rw [List.length_drop]; omega
theorem ug (a b : Int) (h : 0 <= b /\ b <= 1000) : Yd ⟨7, a, b⟩ = b.toNat := by
 unfold Yd Ya
 simp only [show ¬ ((7 : Int) = 1 \/ (7 : Int) = 2 \/ (7 : Int) = 3 \/ (7 : Int) = 5 \/ (7 : Int) = 6) by decide, show ¬ ((7 : Int) = 4 \/ (7 : Int) = 9 \/ (7 : Int) = 13) by decide, if_false, if_true, (Xg b 0 1000).2 h]
theorem Ar {i : Ins} (h : i.op = 12) : Yd i = 1 := by unfold Yd Ya; rw [h]; simp
theorem ET {p : Zz} {l : List ZT} (h : ∀ y ∈ l, Yx p y) (k : Nat) : ∀ y ∈ l.take k, Yx p y := fun y hy => h y (List.mem_of_mem_take hy)
theorem ES {p : Zz} {l : List ZT} (h : ∀ y ∈ l, Yx p y) (k : Nat) : ∀ y ∈ l.drop k, Yx p y := fun y hy => h y (List.mem_of_mem_drop hy)
theorem K3 {p : Zz} {l : List ZT} (h : ∀ y ∈ l, Yx p y) (k : Nat) {v : ZT} (hv : Yx p v) : ∀ y ∈ l.set k v, Yx p y := fun y hy => by
 rcases List.mem_or_eq_of_mem_set hy with h1 | rfl
 ·exact h y h1
 ·exact hv
theorem Px {p : Zz} (f : ZT) {arg : ZT} (h : Yx p arg) : ∀ y ∈ X8 p f arg, Yx p y := fun y hy => by
 unfold X8 at hy
 rcases List.mem_cons.1 hy with rfl | hy
 ·exact h
 ·rw [(List.mem_replicate.1 hy).2]; exact Yp p
theorem uf {p : Zz} (hp : QI p) {f : ZT} {loc l : List ZT} {i : Ins} {st : Xc} {fn : WU} {j : Nat} (hf : Yx p f) (hl : ∀ y ∈ loc, Yx p y) (hk : ∀ y ∈ l, Yx p y) (hlen : l.length = Yd i) (ho : st.out.length <= 1000)
 (hr : Zo p.texts.length p.Zu fn.c fn.l fn.code j i = true) : Yx p (pushP p f loc l i st).1 /\ (pushP p f loc l i st).2.out.length <= 1000 /\ (pushP p f loc l i st).2.steps = st.steps := by
 obtain ⟨r2, r3, r5, r7, r10, r11, r13, r14, r15⟩ := Yt hr
 unfold pushP
 by_cases h1 : i.op = 1
 ·rw [ZY h1]; exact ⟨WA p _ _ _ (by decide) (by decide), ho, rfl⟩
 rw [Z7 h1]
 by_cases h2 : i.op = 2
 ·rw [ZY h2]; exact ⟨WA p _ _ _ (by decide) (by decide), ho, rfl⟩
 rw [Z7 h2]
 by_cases h3 : i.op = 3
 ·rw [ZY h3]; exact ⟨Rj hl _, ho, rfl⟩
 rw [Z7 h3]
 by_cases h5 : i.op = 5
 ·rw [ZY h5]; exact ⟨Rj hf.all.2.2 _, ho, rfl⟩
 rw [Z7 h5]
 by_cases h6 : i.op = 6
 ·rw [ZY h6]; exact ⟨hf, ho, rfl⟩
 rw [Z7 h6]
 by_cases h7 : i.op = 7
 ·rw [ZY h7]
  obtain ⟨⟨a0, a1⟩, hb⟩ := r7 h7; have hc := ((Ol _).1 (hp.head i.a.toNat (by omega))).1; refine ⟨.mk (fun _ => ⟨a0, by omega, ?_⟩) (fun h => by cases h) hk, ho, rfl⟩; have e : i = ⟨7, i.a, i.b⟩ := by cases i; simp only at h7; subst h7; rfl
  have hb2 : 0 <= i.b /\ i.b <= 1000 := by rw [hb]; exact hc
  rw [hlen, e, ug _ _ hb2, <- hb]; omega
 rw [Z7 h7]
 by_cases h10 : i.op = 10
 ·rw [ZY h10]; exact ⟨.mk (fun h => by cases h) (fun h => by cases h) hk, ho, rfl⟩
 rw [Z7 h10]
 by_cases h12 : i.op = 12
 ·rw [ZY h12]
  have ha := r11 (.inr h12); refine ⟨.mk (fun h => by cases h) (fun _ => ⟨?_, ha.1, by omega⟩) hk, ho, rfl⟩; rw [hlen, Ar h12]; exact Nat.le_refl _
 rw [Z7 h12]
 by_cases h11 : i.op = 11
 ·rw [ZY h11]
  refine ⟨?_, ho, rfl⟩; simp only; split
  ·exact Rj (U1 hk).all.2.2 _
  ·exact Yp p
 rw [Z7 h11]
 exact JF p st _ _ ho
theorem Il {p : Zz} (hp : QI p) (fuel : Int) : ∀ (g : Nat) (f : ZT) (loc stk : List ZT) (at_ : Int) (st : Xc), Yx p f -> f.op = 7 -> (∀ y ∈ loc, Yx p y) -> (∀ y ∈ stk, Yx p y) -> st.out.length <= 1000 -> st.steps <= fuel ->
 EU p fuel st.steps (Yl p fuel g f loc stk at_ st)
 | 0, f, loc, stk, at_, st, _, _, _, _, ho, hs => ⟨Yp p, ho, Int.le_refl _, hs⟩
 | g + 1, f, loc, stk, at_, st, hf, h7, hl, hk, ho, hs => by
   have ih := Il hp fuel g; rw [Yl]; by_cases he : st.e ≠ 0
   ·rw [ZY he]; exact ⟨Yp p, ho, Int.le_refl _, hs⟩
   rw [Z7 he]; by_cases ha : at_ < 0 \/ ((Xj p f).code.length : Int) <= at_
   ·rw [ZY ha]; exact RJ _ _ ho (Int.le_refl _) hs
   rw [Z7 ha]; by_cases hs2 : st.steps = fuel
   ·rw [ZY hs2]; exact RJ _ _ ho (Int.le_refl _) hs
   rw [Z7 hs2]; obtain ⟨hr, _⟩ := kS hp hf h7 ha; generalize (Xj p f).code.getD at_.toNat default = i at *; have ho1 : (tick st).out.length <= 1000 := ho; have hs1 : (tick st).steps <= fuel := by show st.steps + 1 <= fuel; omega
   have hs0 : st.steps <= (tick st).steps := by show st.steps <= st.steps + 1; omega
   generalize tick st = st1 at *; simp only; by_cases hlen : stk.length < Yd i
   ·rw [ZY hlen]; exact RJ _ _ ho1 hs0 hs1
   rw [Z7 hlen]; have hL := uh hlen; have hd := ES hk (stk.length - Yd i); have ht := ET hk (stk.length - Yd i); generalize stk.drop (stk.length - Yd i) = l at *; generalize stk.take (stk.length - Yd i) = s2 at *; have up : ∀ {r : ZT × Xc}, EU p fuel st1.steps r -> EU p fuel st.steps r := fun h => ⟨h.1, h.2.1, Int.le_trans hs0 h.2.2.1, h.2.2.2⟩
   by_cases h9 : i.op = 9
   ·rw [ZY h9]; exact ⟨U1 hd, ho1, hs0, hs1⟩
   rw [Z7 h9]; by_cases h14 : i.op = 14
   ·rw [ZY h14]; exact up (ih f loc s2 _ st1 hf h7 hl ht ho1 hs1)
   rw [Z7 h14]; by_cases h16 : i.op = 16
   ·rw [ZY h16]; exact RJ _ _ ho1 hs0 hs1
   rw [Z7 h16]; by_cases h4 : i.op = 4
   ·rw [ZY h4]; exact up (ih f _ s2 _ st1 hf h7 (K3 hl _ (U1 hd)) ht ho1 hs1)
   rw [Z7 h4]; by_cases h13 : i.op = 13
   ·rw [ZY h13]
    by_cases hb : (l.headD default).op ≠ 4 \/ i.b <= (l.headD default).n
    ·rw [ZY hb]; exact RJ _ _ ho1 hs0 hs1
    ·rw [Z7 hb]; exact up (ih f _ s2 _ st1 hf h7 (K3 hl _ (U1 (U1 hd).all.2.2)) ht ho1 hs1)
   rw [Z7 h13]; have hR : EU p fuel st1.steps (if i.op = 8 then (if (l.headD default).op = 7 then Yl p fuel g (l.headD default) (X8 p (l.headD default) (l.getD 1 default)) [] 0 st1 else (default, st1)) else pushP p f loc l i st1) := by
    by_cases h8 : i.op = 8
    ·rw [ZY h8]
     by_cases h : (l.headD default).op = 7
     ·rw [ZY h]; exact ih _ _ _ _ st1 (U1 hd) h (Px _ (Rj hd _)) (fun _ h => by cases h) ho1 hs1
     ·rw [Z7 h]; exact ⟨Yp p, ho1, Int.le_refl _, hs1⟩
    ·rw [Z7 h8]
     obtain ⟨a1, a2, a3⟩ := uf hp hf hl hd hL ho1 hr; exact ⟨a1, a2, by rw [a3]; exact Int.le_refl _, by rw [a3]; exact hs1⟩
   generalize (if i.op = 8 then (if (l.headD default).op = 7 then Yl p fuel g (l.headD default) (X8 p (l.headD default) (l.getD 1 default)) [] 0 st1 else (default, st1)) else pushP p f loc l i st1) = r at *; obtain ⟨r1, r2, r3, r4⟩ := hR; by_cases h0 : r.1.op = 0
   ·rw [ZY h0]; exact up (RJ _ _ r2 r3 r4)
   ·rw [Z7 h0]
    have hk2 : ∀ y ∈ s2 ++ [r.1], Yx p y := fun y hy => by
     rcases List.mem_append.1 hy with h | h
     ·exact ht y h
     ·rw [List.mem_singleton.1 h]; exact r1
    have := ih f loc (s2 ++ [r.1]) (at_ + 1) r.2 hf h7 hl hk2 r2 r4; exact up ⟨this.1, this.2.1, Int.le_trans r3 this.2.2.1, this.2.2.2⟩
def MS (M : Nat -> Prop) (sb : Nat) (fv tv : Value) (main fuel : Int) (ov : Value) (r : ZT × Xc) (V : World) (e : Ending) (V' : World) : Prop :=
 ∃ (x : Z0) (QZ : Value), e = .returned (Ws x) /\ ZW x = r.1 /\ R9 M V' x /\ MF V' sb fv tv main fuel r.2 QZ /\ Em sb V V' ov.ownBlock QZ.ownBlock
def Nt (p : Zz) (fuel : Int) (g : Nat) : Prop :=
 ∀ (M : Nat -> Prop) (w0 : World) (sb : Nat) (fv tv : Value) (st : Xc) (ov : Value) (f arg : Z0) (V : World), Rp w0 fv tv p -> Below w0.heap.size w0 V -> w0.heap.size <= sb -> (∀ b, M b -> b < V.heap.size) -> MF V sb fv tv p.main fuel st ov ->
  R9 M V f -> R9 M V arg -> Yx p (ZW f) -> f.op = 7 -> Yx p (ZW arg) -> st.out.length <= 1000 -> fuel - st.steps < g -> 0 <= st.steps -> st.steps <= fuel ->
  Calls Tryz.prog 33 #[.pointer (some ⟨sb, 0, none⟩), Ws f, Ws arg] V (MS M sb fv tv p.main fuel ov (Yl p fuel g (ZW f) (X8 p (ZW f) (ZW arg)) [] 0 st) V)
def Mine (M : Nat -> Prop) (z : Nat) (b : Nat) : Prop := M b \/ b = z + 2 \/ b = z + 4
structure Vi (p : Zz) (fuel : Int) (M : Nat -> Prop) (sb : Nat) (fv tv : Value) (ov : Value) (f : Z0) (V : World) (cv : Value) (lo : List Z0) (s : Xc) (o2 : Value) (w : World) : Prop where
 Eb : w.heap[V.heap.size + 4]? = some (.cells (ZR lo).toArray 94 (0, 0))
 bM : ∀ y ∈ lo, R9 (Mine M V.heap.size) w y
 yS : R9 (Mine M V.heap.size) w f
 VL : MF w sb fv tv p.main fuel s o2
 em : Em sb V w ov.ownBlock o2.ownBlock
 yR : w.heap[V.heap.size]? = some (.cells #[.int .i64 f.op, .int .i64 f.n, .string f.s, f.lv] 94 (0, 0))
 RI : w.heap[V.heap.size + 2]? = some (.cells Zf 94 (0, 0))
 tZ : w.heap[V.heap.size + 3]? = some (.cells #[.int .i64 (Xj p (ZW f)).c, .int .i64 (Xj p (ZW f)).l, .int .i64 (Xj p (ZW f)).d, cv] 53 (0, 0))
structure LR (p : Zz) (fuel : Int) (G : Nat) (M : Nat -> Prop) (sb : Nat) (fv tv : Value) (ov : Value) (f : Z0) (r : ZT × Xc) (V : World) (cv : Value) (stk lo : List Z0) (at_ : Int) (s : Xc) (o2 : Value) (m : Nat) (sv : Value) (wr : World) : Prop where
 base : Vi p fuel M sb fv tv ov f V cv lo s o2 wr
 shape : (sv = .slice none 0 0 /\ stk = []) \/ ∃ g c, sv = .slice (some ⟨g, 0, none⟩) stk.length c /\ stk.length <= c
 stack : U8 (Mine M V.heap.size) wr sv stk.length (ZR stk)
 Cj : ∀ y ∈ stk, R9 (Mine M V.heap.size) wr y
 KZ : (lo.length : Int) = (Xj p (ZW f)).l
 eq : Yl p fuel m (ZW f) (lo.map ZW) (stk.map ZW) at_ s = r
 ru : fuel - s.steps < m
 le : m <= G
 pos : 0 <= s.steps
 top : s.steps <= fuel
 look : ∀ y ∈ lo, Yx p (ZW y)
 QH : ∀ y ∈ stk, Yx p (ZW y)
 out : s.out.length <= 1000
 small : (stk.length : Int) <= s.steps
 at0 : 0 <= at_
 at1 : at_ <= 20000
theorem kR {w : World} {v : Value} {l : List WU} (h : Tc w v l) (n : Nat) (hn : n < l.length) :
 ∃ b off c, v = .slice (some ⟨b, off, none⟩) l.length c /\ l.length <= c /\ b < w.heap.size /\ w.rangeAt b (off + n * 4) [.int .i64 (l.getD n default).c, .int .i64 (l.getD n default).l, .int .i64 (l.getD n default).d, (l.getD n default).v] := by
 obtain ⟨⟨a, c, rfl, hlc, hcell⟩, _⟩ := h
 obtain ⟨b, off, rfl, hlt, hc⟩ := hcell (by omega)
 obtain ⟨c0, c1, c2, c3⟩ := QV l n hn
 have hlen := Ra l
 refine ⟨b, off, c, rfl, hlc, hlt, fun j u hu => ?_⟩
 have hj : j < 4 := by have := (List.getElem?_eq_some_iff.1 hu).1; simpa using this
 have h4 : j = 0 \/ j = 1 \/ j = 2 \/ j = 3 := by omega
 rw [Nat.add_assoc, hc (n * 4 + j) (by omega)]
 rcases h4 with rfl | rfl | rfl | rfl
 ·rw [Nat.add_zero, c0]; exact hu
 ·rw [c1]; exact hu
 ·rw [c2]; exact hu
 ·rw [c3]; exact hu
theorem XV : (Tryz.prog.info? 94).map (fun i => (i.zero, i.size, i.bytes)) = some (some (.agg Zf), 4, 56) := by kernel_rfl
theorem Ik {M : Nat -> Prop} (w : World) {q : Nat} (hq : M q) (cs : Array Value) : UK M w (w.setRow q cs) := fun b cur _ hm => WM _ _ _ _ (fun e => hm (e ▸ hq))
theorem MF.other {V V' : World} {sb : Nat} {fv tv : Value} {main fuel : Int} {st : Xc} {ov : Value} {r' : Option Nat} (h : MF V sb fv tv main fuel st ov) (g : Em sb V V' ov.ownBlock r') {b : Nat} {cur : Array Value} {t : TypeId} (hb : V.heap[b]? = some (.cells cur t (0, 0))) (ht : t ≠ 9) (hne : b ≠ sb) :
 V'.heap[b]? = some (.cells cur t (0, 0)) := by
 refine (g.kept b (Z6 hb) hne (fun e => ?_)).trans hb
 obtain ⟨cur', hc⟩ := XP h.own b e
 rw [hc] at hb
 exact ht (Obj.cells.inj (Option.some.inj hb)).2.1.symm
theorem Kk (l : List Z0) (k : Nat) (hk : k <= l.length) : ZR (l.take k) = (ZR l).take (k * 4) := by
 have e : ZR l = ZR (l.take k) ++ ZR (l.drop k) := by
  unfold ZR; rw [<- List.flatMap_append, List.take_append_drop]
 have hlen : (ZR (l.take k)).length = k * 4 := by rw [Zg, List.length_take, Nat.min_eq_left hk]
 rw [e, <- hlen, List.take_left]
theorem Kj (l : List Z0) (k : Nat) (hk : k <= l.length) : ZR (l.drop k) = (ZR l).drop (k * 4) := by
 have e : ZR l = ZR (l.take k) ++ ZR (l.drop k) := by
  unfold ZR; rw [<- List.flatMap_append, List.take_append_drop]
 have hlen : (ZR (l.take k)).length = k * 4 := by rw [Zg, List.length_take, Nat.min_eq_left hk]
 rw [e, <- hlen, List.drop_left]
theorem getD_take (l : List Value) (k j : Nat) (h : j < k) : (l.take k).getD j undef = l.getD j undef := by
 simp [List.getD, List.getElem?_take, h]
theorem VR {M : Nat -> Prop} {w : World} {a : Option Addr} {n c : Nat} {l : List Z0} (h : U8 M w (.slice a n c) l.length (ZR l)) (k : Nat) (hk : k <= l.length) : U8 M w (.slice a k k) k (ZR (l.take k)) := by
 obtain ⟨a', c', hv, hlc, hn, hcell⟩ := h
 obtain ⟨rfl, rfl, rfl⟩ := Value.slice.inj hv
 refine ⟨_, _, rfl, Nat.le_refl _, fun e => by have := hn e; omega, fun hpos => ?_⟩
 obtain ⟨b, off, cur, ha, hm, hb, hc⟩ := hcell (by omega)
 have hlen := Zg l
 refine ⟨b, off, cur, ha, hm, hb, fun j hj => ?_⟩
 rw [Kk l k hk] at hj ⊢
 rw [List.length_take] at hj
 rw [getD_take _ _ _ (by omega)]
 exact hc j (by omega)
theorem yQ {M : Nat -> Prop} {w : World} {g off n c : Nat} {l : List Z0} (h : U8 M w (.slice (some ⟨g, off, none⟩) n c) l.length (ZR l)) (k : Nat) (hk : k <= l.length) :
 ∀ j u, (ZR (l.drop k))[j]? = some u -> w.cell? ((⟨g, off + k * 4, none⟩ : Addr).add j) = some u := fun j u hu => by
 obtain ⟨a', c', hv, hlc, hn, hcell⟩ := h
 obtain ⟨rfl, rfl, rfl⟩ := Value.slice.inj hv
 rw [Kj l k hk, List.getElem?_drop] at hu
 have hlt := (List.getElem?_eq_some_iff.1 hu).1
 rw [Zg] at hlt
 obtain ⟨b, o, cur, ha, hm, hb, hc⟩ := hcell (by omega)
 obtain ⟨rfl, rfl, _⟩ := Addr.mk.inj (Option.some.inj ha)
 rw [Addr.add_lit, Nat.add_assoc, hc (k * 4 + j) (by rw [Zg]; omega)]
 simp [List.getD, hu]
theorem yP (M : Nat -> Prop) (w : World) (xs : List Value) : U8 M w (.slice none 0 0) 0 xs := ⟨none, 0, rfl, Nat.le_refl _, fun _ => ⟨rfl, rfl⟩, fun h => by omega⟩
theorem KY {M : Nat -> Prop} {w : World} {B n : Nat} {v : Value} {l : List Z0} (h : w.ownsRow B 94 4 v n (ZR l)) (hM : ∀ b, M b -> b < B) : U8 M w v n (ZR l) := by
 have h' := h
 obtain ⟨_, ⟨rfl, rfl⟩ | ⟨g, cap, cur, rfl, hb, hh, h1, _⟩⟩ := h
 ·exact yP M w (ZR l)
 ·refine ⟨_, _, rfl, h1, (fun e => by cases e), fun _ => ⟨g, 0, cur, rfl, fun e => by have := hM g e; omega, hh, fun j hj => ?_⟩⟩
  have := h'.cells rfl j _ (List.getElem?_eq_getElem hj); rw [Addr.add_lit] at this; rw [this]; simp [List.getD, List.getElem?_eq_getElem hj]
theorem Oj {w : World} {ops : Array Oper} {rest : List Oper} {o : Oper} {a : Act} {Q : Exit -> Act -> World -> Prop} (hgd : o.guard = none) (s x : Operand) (t : TypeId)
 (ho : o.op = .call { callee := .builtin .append, args := #[s, x], argTypes := #[t, t] })
 (base : Nat) (e : TypeId) (i : TypeInfo) (z : Value) (size bytes : Nat) (ht : Tryz.prog.underlying t = some (.slice e)) (hi : Tryz.prog.info? e = some i) (hz : i.zero = some z)
 (hsize : i.size = size) (hby : i.bytes = bytes) (hzs : z.cells.size = size) (hsz : 0 < size) (v : Value) (n : Nat) (xs : List Value) (hs : a.eval s = v) (hown : w.ownsRow base e size v n xs)
 (ao : Option Addr) (m c : Nat) (news : List Value) (hx : a.eval x = .slice ao m c) (hnone : ao = none -> m = 0 /\ c = 0) (hl : news.length = m * size) (hnews : ∀ ad, ao = some ad -> ∀ j u, news[j]? = some u -> w.cell? (ad.add j) = some u) (h1 : ∀ u ∈ news, u.oneCell' = true)
 (h63 : n + m <= maxLen) (hbytes : (n + m) * bytes <= 140737488355328) (hbase : base <= w.heap.size)
 (h : ∀ v' w', w'.ownsRow base e size v' (n + m) (xs ++ news) -> w.grownBy w' v.ownBlock -> (v'.ownBlock = v.ownBlock \/ v'.ownBlock = some w.heap.size) -> (v' = .slice none 0 0 ↔ v = .slice none 0 0 /\ m = 0) -> wpList Tryz.prog ops Q rest (a.put o.dst v') w') : wpList Tryz.prog ops Q (o :: rest) a w := by
 cases ao with
 | none =>
   obtain ⟨rfl, rfl⟩ := hnone rfl; obtain rfl : news = [] := List.eq_nil_of_length_eq_zero (by simpa using hl); refine wpList_append_own_none hgd s x t ho base e i size ht hi v n xs hs hown hx (h v w ?_ ⟨rfl, rfl, rfl, Nat.le_refl _, fun _ _ _ => rfl⟩ (.inl rfl) ⟨fun e => ⟨e, rfl⟩, fun e => e.1⟩); rw [List.append_nil]; exact hown
 | some ad =>
   exact wpList_append_own_at w hgd s x t ho base e i z size bytes ht hi hz hsize hby hzs hsz v n xs hs hown ad m c news hx hl (hnews ad rfl) h1 h63 hbytes hbase (fun v' w' hown hg hn hat => h v' w' hown hg hat hn)
theorem Ns (l : List Z0) : (∀ y ∈ l, ∃ a c n, y.lv = .slice a n c) -> ∀ u ∈ ZR l, u.oneCell' = true := fun h u hu => by
 unfold ZR at hu
 obtain ⟨y, hy, hu⟩ := List.mem_flatMap.1 hu
 obtain ⟨a, c, n, e⟩ := h y hy
 simp only [TK, List.mem_cons, List.not_mem_nil, or_false, e] at hu
 rcases hu with rfl | rfl | rfl | rfl <;> rfl
theorem ER (V : World) (A B C : Obj) : V.grownBy (((V.alloc A).alloc B).alloc C) none /\ (((V.alloc A).alloc B).alloc C).heap[V.heap.size]? = some A /\ (((V.alloc A).alloc B).alloc C).heap[V.heap.size + 1]? = some B /\ (((V.alloc A).alloc B).alloc C).heap[V.heap.size + 2]? = some C /\ (((V.alloc A).alloc B).alloc C).heap.size = V.heap.size + 3 := by
 have h0 := Zn V A
 have h1 := ZF (w := V.alloc A) (k := V.heap.size + 1) (by simp) B
 have h2 := ZF (w := (V.alloc A).alloc B) (k := V.heap.size + 2) (by simp) C
 have gB := Z8 (V.alloc A) B
 have gC := Z8 ((V.alloc A).alloc B) C
 refine ⟨both (both (Z8 V A) gB) gC, ?_, ?_, h2, by simp⟩
 ·exact (gC.block _ (by simp; omega) (by nofun)).trans ((gB.block _ (by simp) (by nofun)).trans h0)
 ·exact (gC.block _ (by simp) (by nofun)).trans h1
theorem YV {w : World} {q : Nat} {a b c d : Value} {t : TypeId} (h : w.heap[q]? = some (.cells #[a, b, c, d] t (0, 0))) : w.cell? ⟨q, 0, none⟩ = some a /\ w.cell? ⟨q, 1, none⟩ = some b /\ w.cell? ⟨q, 2, none⟩ = some c /\ w.cell? ⟨q, 3, none⟩ = some d := by
 simp [World.cell?, h]
theorem tY (L : Nat) : (madeCells (Value.agg Zf).cells (L * 4)).toList = ZR (List.replicate L default) := by
 have e : ∀ j, j < L * 4 -> (ZR (List.replicate L default)).getD j undef = Zf[j % 4]! := fun j hj => by
  obtain ⟨c0, c1, c2, c3⟩ := TS (List.replicate L default) (j / 4) (by simp; omega); have hd : (List.replicate L (default : Z0)).getD (j / 4) default = default := by
   have : j / 4 < L := by omega
   simp [List.getD, this]
  rw [hd] at c0 c1 c2 c3; have h4 : j % 4 = 0 \/ j % 4 = 1 \/ j % 4 = 2 \/ j % 4 = 3 := by omega
  rcases h4 with h | h | h | h
  ·rw [h, show j = j / 4 * 4 by omega, c0]; rfl
  ·rw [h, show j = j / 4 * 4 + 1 by omega, c1]; rfl
  ·rw [h, show j = j / 4 * 4 + 2 by omega, c2]; rfl
  ·rw [h, show j = j / 4 * 4 + 3 by omega, c3]; rfl
 have hl : (ZR (List.replicate L default)).length = L * 4 := by rw [Zg, List.length_replicate]
 refine List.ext_getElem (by rw [Array.length_toList, size_madeCells, hl]) fun j h1 h2 => ?_
 have := e j (by rw [hl] at h2; exact h2)
 rw [List.getD, List.getElem?_eq_getElem h2, Option.getD_some] at this
 rw [this]
 simp [madeCells, Value.cells]
 rfl
theorem Ci {w : World} {q L : Nat} (h : w.ownsRow 0 94 4 (.slice (some ⟨q, 0, none⟩) L L) L (madeCells (Value.agg Zf).cells (L * 4)).toList) (hL : 1 <= L) : w.heap[q]? = some (.cells (ZR (List.replicate L default)).toArray 94 (0, 0)) := by
 obtain ⟨_, ⟨hv, h0⟩ | ⟨g, cap, cur, hv, _, hh, _, _, hs, ht⟩⟩ := h
 ·omega
 ·obtain ⟨h1, _, rfl⟩ := Value.slice.inj hv
  obtain ⟨rfl, _⟩ := Addr.mk.inj (Option.some.inj h1); rw [hh, <- tY L, <- ht, <- hs, <- Array.length_toList, List.take_length]
theorem Oi : ∀ (l : List Z0) (k : Nat) (op n : Int) (s : ByteArray) (lv : Value) (l' : List Z0), k < l.length -> ZR (l.set k (.mk op n s lv l')) = ((((ZR l).set (k * 4) (.int .i64 op)).set (k * 4 + 1) (.int .i64 n)).set (k * 4 + 2) (.string s)).set (k * 4 + 3) lv
 | [], _, _, _, _, _, _, h => by cases h
 | y :: l, 0, op, n, s, lv, l', _ => by simp [ZR, TK, Z0.op, Z0.n, Z0.s, Z0.lv]
 | y :: l, k + 1, op, n, s, lv, l', h => by
   have ih := Oi l k op n s lv l' (by simpa using h); have e : ∀ (m : List Z0), ZR (y :: m) = .int .i64 y.op :: .int .i64 y.n :: .string y.s :: y.lv :: ZR m := fun m => by simp [ZR, TK]
   rw [List.set_cons_succ, e, e, ih, show (k + 1) * 4 = k * 4 + 1 + 1 + 1 + 1 by omega]; rfl
theorem Mh {w : World} {q : Nat} {l : List Z0} {t : TypeId} (h : w.heap[q]? = some (.cells (ZR l).toArray t (0, 0))) (n : Nat) (hn : n < l.length) :
 w.cell? ⟨q, n * 4, none⟩ = some (.int .i64 (l.getD n default).op) /\ w.cell? ⟨q, n * 4 + 1, none⟩ = some (.int .i64 (l.getD n default).n) /\ w.cell? ⟨q, n * 4 + 2, none⟩ = some (.string (l.getD n default).s) /\ w.cell? ⟨q, n * 4 + 3, none⟩ = some (l.getD n default).lv := by
 obtain ⟨c0, c1, c2, c3⟩ := TS l n hn
 have hlen := Zg l
 have hc : ∀ j, j < (ZR l).length -> w.cell? ⟨q, j, none⟩ = some ((ZR l).getD j undef) := fun j hj => by
  rw [Zk w q j _ _ (0, 0) h]; simp [List.getD, List.getElem?_eq_getElem hj]
 refine ⟨?_, ?_, ?_, ?_⟩
 ·rw [hc _ (by omega), c0]
 ·rw [hc _ (by omega), c1]
 ·rw [hc _ (by omega), c2]
 ·rw [hc _ (by omega), c3]
theorem EP {w : World} {q : Nat} {l : List Z0} {t : TypeId} (h : w.heap[q]? = some (.cells (ZR l).toArray t (0, 0))) (n : Nat) (hn : n < l.length) (op m : Int) (s : ByteArray) (lv : Value) (l' : List Z0) :
 ((((w.setCell ⟨q, n * 4, none⟩ (.int .i64 op)).setCell ⟨q, n * 4 + 1, none⟩ (.int .i64 m)).setCell ⟨q, n * 4 + 2, none⟩ (.string s)).setCell ⟨q, n * 4 + 3, none⟩ lv).heap[q]? = some (.cells (ZR (l.set n (.mk op m s lv l'))).toArray t (0, 0)) := by
 have e0 := ZL (i := n * 4) h (.int .i64 op)
 have e1 := ZL (i := n * 4 + 1) e0 (.int .i64 m)
 have e2 := ZL (i := n * 4 + 2) e1 (.string s)
 have e3 := ZL (i := n * 4 + 3) e2 lv
 rw [e3, Oi l n op m s lv l' hn]
 simp
theorem Pw (w : World) (q a b c d : Nat) (v0 v1 v2 v3 : Value) : w.grownBy ((((w.setCell ⟨q, a, none⟩ v0).setCell ⟨q, b, none⟩ v1).setCell ⟨q, c, none⟩ v2).setCell ⟨q, d, none⟩ v3) (some q) :=
 both (both (both (Zv w q a v0) (Zv _ q b v1)) (Zv _ q c v2)) (Zv _ q d v3)
theorem U8.mine {M M' : Nat -> Prop} {w : World} {v : Value} {n : Nat} {xs : List Value} (h : U8 M w v n xs) (k : ∀ b, M' b -> M b \/ w.heap.size <= b) : U8 M' w v n xs := by
 obtain ⟨a, c, hv, hlc, hn, hl⟩ := h
 refine ⟨a, c, hv, hlc, hn, fun hne => ?_⟩
 obtain ⟨b, off, cur, ha, hm, hb, hc⟩ := hl hne
 exact ⟨b, off, cur, ha, fun h => (k b h).elim hm (fun e => by have := Z6 hb; omega), hb, hc⟩
theorem R9.mine {M M' : Nat -> Prop} {w : World} {x : Z0} (h : R9 M w x) (k : ∀ b, M' b -> M b \/ w.heap.size <= b) : R9 M' w x := by
 induction h with
 | mk h1 h2 _ ih => exact .mk (h1.mine k) h2 ih
theorem EO {M : Nat -> Prop} {z : Nat} : ∀ b, Mine M z b -> M b \/ z <= b := fun b h => by
 rcases h with h | h | h
 ·exact .inl h
 ·exact .inr (by omega)
 ·exact .inr (by omega)
theorem tX {p : Zz} {fuel : Int} {G : Nat} {M : Nat -> Prop} {sb : Nat} {fv tv ov : Value} {f arg : Z0} {V w : World} {cv : Value} {st : Xc} {L : Nat} {r : ZT × Xc} (g : V.grownBy w none) (hS : MF V sb fv tv p.main fuel st ov) (hf : R9 M V f) (ha : R9 M V arg)
 (hL : ((L + 1 : Nat) : Int) = (Xj p (ZW f)).l) (hb : w.heap[V.heap.size + 4]? = some (.cells (ZR (arg :: List.replicate L default)).toArray 94 (0, 0)))
 (b0 : w.heap[V.heap.size]? = some (.cells #[.int .i64 f.op, .int .i64 f.n, .string f.s, f.lv] 94 (0, 0))) (b2 : w.heap[V.heap.size + 2]? = some (.cells Zf 94 (0, 0)))
 (b3 : w.heap[V.heap.size + 3]? = some (.cells #[.int .i64 (Xj p (ZW f)).c, .int .i64 (Xj p (ZW f)).l, .int .i64 (Xj p (ZW f)).d, cv] 53 (0, 0))) (hr : Yl p fuel G (ZW f) (X8 p (ZW f) (ZW arg)) [] 0 st = r)
 (TD : fuel - st.steps < G) (h0 : 0 <= st.steps) (h1 : st.steps <= fuel) (hao : Yx p (ZW arg)) (ho : st.out.length <= 1000) : LR p fuel G M sb fv tv ov f r V cv [] (arg :: List.replicate L default) 0 st ov G (.slice none 0 0) w := by
 have hk := ZG (M := Mine M V.heap.size) g
 have hd : ZW (default : Z0) = default := XU
 refine ⟨⟨hb, fun y hy => ?_, (hf.mine EO).kept hk, hS.free g, Em.free g, b0, b2, b3⟩, .inl ⟨rfl, rfl⟩, EY _ _, (fun _ h => by cases h), by simp; omega, ?_, TD, Nat.le_refl _, h0, h1, fun y hy => ?_, (fun _ h => by cases h), ho, (by simpa using h0), Int.le_refl _, by decide⟩
 ·rcases List.mem_cons.1 hy with rfl | hy
  ·exact (ha.mine EO).kept hk
  ·rw [(List.mem_replicate.1 hy).2]; exact Wp _ _ _ _ _
 ·rw [<- hr]
  have : (arg :: List.replicate L default).map ZW = X8 p (ZW f) (ZW arg) := by
   unfold X8; rw [List.map_cons, List.map_replicate, hd, <- hL]; congr 2
  rw [this]; rfl
 ·rcases List.mem_cons.1 hy with rfl | hy
  ·exact hao
  ·rw [(List.mem_replicate.1 hy).2, hd]; exact Yp p
theorem Vi.free {p : Zz} {fuel : Int} {M : Nat -> Prop} {sb : Nat} {fv tv ov : Value} {f : Z0} {V : World} {cv : Value} {lo : List Z0} {s : Xc} {o2 : Value} {w w' : World} (h : Vi p fuel M sb fv tv ov f V cv lo s o2 w) (g : w.grownBy w' none) : Vi p fuel M sb fv tv ov f V cv lo s o2 w' := by
 have hk := ZG (M := Mine M V.heap.size) g
 have hb : ∀ b o, w.heap[b]? = some o -> w'.heap[b]? = some o := fun b o hb => (g.block b (by
  rcases Nat.lt_or_ge b w.heap.size with h | h
  ·exact h
  ·rw [Array.getElem?_eq_none h] at hb; cases hb) (by nofun)).trans hb
 exact ⟨hb _ _ h.Eb, fun y hy => (h.bM y hy).kept hk, h.yS.kept hk, h.VL.free g, h.em.trans (Em.free g), hb _ _ h.yR, hb _ _ h.RI, hb _ _ h.tZ⟩
theorem Vi.step {p : Zz} {fuel : Int} {M : Nat -> Prop} {sb : Nat} {fv tv ov : Value} {f : Z0} {V : World} {cv : Value} {lo : List Z0} {s s' : Xc} {o2 o3 : Value} {w w' : World} (h : Vi p fuel M sb fv tv ov f V cv lo s o2 w) (hsb : sb < V.heap.size) (hS : MF w' sb fv tv p.main fuel s' o3) (g : Em sb w w' o2.ownBlock o3.ownBlock) :
 Vi p fuel M sb fv tv ov f V cv lo s' o3 w' := by
 have hk : UK (Mine M V.heap.size) w w' := h.VL.Aw g
 exact ⟨h.VL.other g h.Eb (by decide) (by omega), fun y hy => (h.bM y hy).kept hk, h.yS.kept hk, hS, h.em.trans g, h.VL.other g h.yR (by decide) (by omega), h.VL.other g h.RI (by decide) (by omega), h.VL.other g h.tZ (by decide) (by omega)⟩
theorem Vi.put {p : Zz} {fuel : Int} {M : Nat -> Prop} {sb : Nat} {fv tv ov : Value} {f : Z0} {V : World} {cv : Value} {lo : List Z0} {s : Xc} {o2 : Value} {w : World} (h : Vi p fuel M sb fv tv ov f V cv lo s o2 w) (hsb : sb < V.heap.size) (n : Nat) (hn : n < lo.length) (op m : Int) (t : ByteArray) (lv : Value) (l' : List Z0) (hx : R9 (Mine M V.heap.size) w (.mk op m t lv l')) :
 Vi p fuel M sb fv tv ov f V cv (lo.set n (.mk op m t lv l')) s o2 ((((w.setCell ⟨V.heap.size + 4, n * 4, none⟩ (.int .i64 op)).setCell ⟨V.heap.size + 4, n * 4 + 1, none⟩ (.int .i64 m)).setCell ⟨V.heap.size + 4, n * 4 + 2, none⟩ (.string t)).setCell ⟨V.heap.size + 4, n * 4 + 3, none⟩ lv) /\
 UK (Mine M V.heap.size) w ((((w.setCell ⟨V.heap.size + 4, n * 4, none⟩ (.int .i64 op)).setCell ⟨V.heap.size + 4, n * 4 + 1, none⟩ (.int .i64 m)).setCell ⟨V.heap.size + 4, n * 4 + 2, none⟩ (.string t)).setCell ⟨V.heap.size + 4, n * 4 + 3, none⟩ lv) := by
 have g := Pw w (V.heap.size + 4) (n * 4) (n * 4 + 1) (n * 4 + 2) (n * 4 + 3) (.int .i64 op) (.int .i64 m) (.string t) lv
 have hb := EP h.Eb n hn op m t lv l'
 generalize (((w.setCell ⟨V.heap.size + 4, n * 4, none⟩ (.int .i64 op)).setCell ⟨V.heap.size + 4, n * 4 + 1, none⟩ (.int .i64 m)).setCell ⟨V.heap.size + 4, n * 4 + 2, none⟩ (.string t)).setCell ⟨V.heap.size + 4, n * 4 + 3, none⟩ lv = w' at *
 have hk : UK (Mine M V.heap.size) w w' := fun b cur hb hm => g.block b (Z6 hb) (fun e => hm (.inr (.inr (Option.some.inj e))))
 have hl := Z6 h.VL.blk
 have hown : ∀ q, o2.ownBlock = some q -> q ≠ V.heap.size + 4 := fun q hq e => by
  obtain ⟨cu, MW⟩ := XP h.VL.own q hq; rw [e, h.Eb] at MW; exact absurd (Obj.cells.inj (Option.some.inj MW)).2.1 (by decide)
 refine ⟨⟨hb, fun y hy => ?_, h.yS.kept hk, ⟨(g.block sb hl (fun e => by have := Option.some.inj e; omega)).trans h.VL.blk, Zx h.VL.own g (fun q hq e => hown q e (Option.some.inj hq).symm)⟩, h.em.fresh g (fun q hq => by cases hq; omega), ?_, ?_, ?_⟩, hk⟩
 ·rcases List.mem_or_eq_of_mem_set hy with h1 | rfl
  ·exact (h.bM y h1).kept hk
  ·exact hx.kept hk
 ·exact (g.block _ (Z6 h.yR) (fun e => by have := Option.some.inj e; omega)).trans h.yR
 ·exact (g.block _ (Z6 h.RI) (fun e => by have := Option.some.inj e; omega)).trans h.RI
 ·exact (g.block _ (Z6 h.tZ) (fun e => by have := Option.some.inj e; omega)).trans h.tZ
theorem EN {p : Zz} {fuel : Int} {M : Nat -> Prop} {sb : Nat} {fv tv ov : Value} {f : Z0} {V : World} {cv : Value} {lo : List Z0} {s : Xc} {o2 : Value} {w : World} {R : ZT × Xc} (h : Vi p fuel M sb fv tv ov f V cv lo s o2 w) (hsb : sb < V.heap.size) {x : Z0} (hx : R9 (Mine M V.heap.size) w x) (hR : (ZW x, s) = R) (cs : Array Value) :
 MS M sb fv tv p.main fuel ov R V (.returned (Ws x)) (w.setRow (V.heap.size + 2) cs) := by
 subst hR
 have g := UJ w (V.heap.size + 2) cs
 refine ⟨x, o2, rfl, rfl, (hx.kept (Ik w (.inr (.inl rfl)) cs)).less (fun b hb => .inl hb), ⟨?_, Zx h.VL.own g (fun q hq e => ?_)⟩, h.em.fresh g (fun q hq => by cases hq; omega)⟩
 ·exact (g.block sb (Z6 h.VL.blk) (fun e => by have := Option.some.inj e; omega)).trans h.VL.blk
 ·obtain ⟨cu, MW⟩ := XP h.VL.own q e
  rw [<- Option.some.inj hq, h.RI] at MW; exact absurd (Obj.cells.inj (Option.some.inj MW)).2.1 (by decide)
theorem JE {p : Zz} {fuel : Int} {M : Nat -> Prop} {sb : Nat} {fv tv ov : Value} {f : Z0} {V : World} {cv : Value} {lo : List Z0} {s : Xc} {o2 : Value} {w : World} {R : ZT × Xc} (h : Vi p fuel M sb fv tv ov f V cv lo s o2 w) (hsb : sb < V.heap.size) (hR : (default, s) = R) :
 MS M sb fv tv p.main fuel ov R V (.returned (.agg Zf)) (w.setRow (V.heap.size + 2) Zf) :=
 EN h hsb (x := .mk 0 0 ⟨#[]⟩ (.slice none 0 0) []) (Wp _ _ _ _ _) (by rw [XU]; exact hR) Zf
theorem Xq {p : Zz} {fuel : Int} {M : Nat -> Prop} {sb : Nat} {fv tv ov : Value} {f : Z0} {V : World} {cv : Value} {lo : List Z0} {s : Xc} {o2 : Value} {w w2 : World} {R : ZT × Xc} (h : Vi p fuel M sb fv tv ov f V cv lo s o2 w) (hsb : sb < V.heap.size) {e1 n1 : Int} (hs : MF w2 sb fv tv p.main fuel (YB s e1 n1) o2) (hE : Em sb w w2 o2.ownBlock o2.ownBlock)
 (hR : (default, YB s e1 n1) = R) : w2.heap[V.heap.size + 2]? = some (.cells Zf 94 (0, 0)) /\ MS M sb fv tv p.main fuel ov R V (.returned (.agg Zf)) (w2.setRow (V.heap.size + 2) Zf) :=
 ⟨(h.step hsb hs hE).RI, JE (h.step hsb hs hE) hsb hR⟩
theorem Vi.keep {p : Zz} {fuel : Int} {M : Nat -> Prop} {sb : Nat} {fv tv ov : Value} {f : Z0} {V : World} {cv : Value} {lo : List Z0} {s : Xc} {o2 o3 : Value} {w w' : World} (h : Vi p fuel M sb fv tv ov f V cv lo s o2 w) (g : Em sb w w' o2.ownBlock o3.ownBlock) : UK (Mine M V.heap.size) w w' := h.VL.Aw g
theorem ZH {w : World} {ops : Array Oper} {rest : List Oper} {o : Oper} {a : Act} {Q : Exit -> Act -> World -> Prop} (hgd : o.guard = none) (t : TypeId) (x : Operand) (lo hi mx : Option Operand) (hop : o.op = Op.slice t x lo hi mx) (v : Value)
 (hr : (Instr.sliceAt t (a.eval x) (lo.map a.eval) (hi.map a.eval) (mx.map a.eval)).run Tryz.prog w = .ok v w) (h : wpList Tryz.prog ops Q rest (a.put o.dst v) w) : wpList Tryz.prog ops Q (o :: rest) a w := by
 refine wpList_plain hgd fun K hK => ?_
 unfold Oper.wp
 simp [execOp, hop, hr, Result.andThen]
 exact hK _ _ h
theorem MR (w : World) : (sizeOf (Tryz.prog.elem 92)).run Tryz.prog w = .ok 4 w := by kernel_rfl
theorem Ri : Tryz.prog.underlying 92 = some (.slice (Tryz.prog.elem 92)) := by kernel_rfl
theorem KX (a : Option Addr) (n c q : Nat) (hq : q <= n) (w : World) : (Instr.sliceAt 92 (.slice a n c) (some (.int .i64 (q : Int))) none none).run Tryz.prog w = .ok (.slice (if c = q then a else a.map (·.add (q * 4))) (n - q) (c - q)) w := by
 rw [run_sliceAt_slice w _ _ _ _ _ Ri, run_slice_any w _ a n c Ri]
 have h1 : (Instr.sliceBounds true n c (some (Value.int .i64 (q : Int))) none none).run Tryz.prog w = .ok (q, n, c) w := by
  simp [Instr.sliceBounds, run_sliceBound, (by omega : (q : Int) <= n), (by omega : q <= n)]
 rw [h1]
 simp only [Result.andThen, MR]
 rfl
theorem slice_head (a : Option Addr) (n c q : Nat) (hq : q <= c) (w : World) : (Instr.sliceAt 92 (.slice a n c) none (some (.int .i64 (q : Int))) (some (.int .i64 (q : Int)))).run Tryz.prog w = .ok (.slice (if q = 0 then a else a.map (·.add (0 * 4))) q q) w := by
 rw [run_sliceAt_slice w _ _ _ _ _ Ri, run_slice_any w _ a n c Ri]
 have h1 : (Instr.sliceBounds true n c none (some (Value.int .i64 (q : Int))) (some (Value.int .i64 (q : Int)))).run Tryz.prog w = .ok (0, q, q) w := by
  simp [Instr.sliceBounds, run_sliceBound, (by omega : (q : Int) <= c), (by omega : q <= c)]
 rw [h1]
 simp only [Result.andThen, MR]
 rfl
theorem yO {M : Nat -> Prop} {sv : Value} {stk : List Z0} (hs : (sv = .slice none 0 0 /\ stk = []) \/ ∃ g c, sv = .slice (some ⟨g, 0, none⟩) stk.length c /\ stk.length <= c) (k : Nat) (hk : k <= stk.length) :
 ∃ (a : Option Addr) (c : Nat) (pa : Option Addr), sv = .slice a stk.length c /\ stk.length <= c /\ (∀ w, (Instr.sliceAt 92 (.slice a stk.length c) (some (.int .i64 ((stk.length - k : Nat) : Int))) none none).run Tryz.prog w = .ok (.slice pa k (c - (stk.length - k))) w) /\
  (∀ w, (Instr.sliceAt 92 (.slice a stk.length c) none (some (.int .i64 ((stk.length - k : Nat) : Int))) (some (.int .i64 ((stk.length - k : Nat) : Int)))).run Tryz.prog w = .ok (.slice a (stk.length - k) (stk.length - k)) w) /\
  (pa = none -> k = 0 /\ c - (stk.length - k) = 0) /\
  (∀ w, U8 M w sv stk.length (ZR stk) -> ∀ ad, pa = some ad -> ∀ j u, (ZR (stk.drop (stk.length - k)))[j]? = some u -> w.cell? (ad.add j) = some u) /\
  ((a = none /\ stk = []) \/ ∃ g, a = some ⟨g, 0, none⟩) := by
 rcases hs with ⟨rfl, rfl⟩ | ⟨g, c, rfl, hc⟩
 ·obtain rfl : k = 0 := by simpa using hk
  refine ⟨none, 0, none, rfl, Nat.le_refl _, fun w => ?_, fun w => ?_, fun _ => ⟨rfl, rfl⟩, ?_, .inl ⟨rfl, rfl⟩⟩
  ·exact KX none 0 0 0 (Nat.le_refl _) w
  ·exact slice_head none 0 0 0 (Nat.le_refl _) w
  ·intro w _ ad h; cases h
 ·refine ⟨some ⟨g, 0, none⟩, c, if c = stk.length - k then some ⟨g, 0, none⟩ else some ⟨g, 0 + (stk.length - k) * 4, none⟩, rfl, hc, fun w => ?_, fun w => ?_, fun e => ?_, fun w hr ad hd j u hu => ?_, .inr ⟨g, rfl⟩⟩
  ·rw [KX _ _ _ _ (Nat.sub_le _ _) w, show stk.length - (stk.length - k) = k by omega]
   simp [Addr.add_lit]
  ·rw [slice_head _ _ _ _ (by omega) w]
   simp [Addr.add_lit]
  ·split at e <;> cases e
  ·by_cases hcq : c = stk.length - k
   ·obtain rfl : k = 0 := by omega
    rw [List.drop_of_length_le (by omega)] at hu; cases hu
   ·rw [Z7 hcq] at hd
    cases hd; exact yQ hr _ (Nat.sub_le _ _) j u hu
theorem MQ (n : Int) : 0 <= ZA n /\ ZA n <= 2 := by
 unfold ZA
 split
 ·exact ⟨by decide, by decide⟩
 ·split
  ·exact ⟨by decide, by decide⟩
  ·exact ⟨by decide, by decide⟩
theorem pX {nt : Nat} {fs : List WU} {c l : Int} {code : List Ins} {k : Nat} {i : Ins} (h : Zo nt fs c l code k i = true) (hc : ∀ n, 0 <= n -> n < (fs.length : Int) -> (0 <= (fs.getD n.toNat default).c /\ (fs.getD n.toNat default).c <= 1000)) : (Ya i.op i.a i.b).1 = (Yd i : Int) /\ Yd i <= 1000 := by
 obtain ⟨_, _, _, r7, r10, _, _, _, r15⟩ := Yt h
 have key : 0 <= (Ya i.op i.a i.b).1 /\ (Ya i.op i.a i.b).1 <= 1000 := by
  unfold Ya; split
  ·exact ⟨by decide, by decide⟩
  split
  ·exact ⟨by decide, by decide⟩
  split
  ·rename_i h7
   have := (r7 h7).2; have h2 := hc i.a (r7 h7).1.1 (by have := (r7 h7).1.2; omega); rw [ZY ((Xg _ _ _).2 (by omega))]; exact ⟨by simp only; omega, by simp only; omega⟩
  split
  ·rename_i h10
   have := r10 h10; rw [ZY ((Xg _ _ _).2 (by omega))]; exact this
  split
  ·exact ⟨by decide, by decide⟩
  split
  ·exact ⟨by decide, by decide⟩
  split
  ·exact ⟨by decide, by decide⟩
  split
  ·rename_i h15
   have := r15 h15; rw [ZY ((Xg _ _ _).2 (by omega))]; exact ⟨(MQ i.a).1, by have := (MQ i.a).2; simp only; omega⟩
  ·exact ⟨by decide, by decide⟩
 unfold Yd
 omega
theorem pW {w : World} {a : Option Addr} {c : Nat} {code : List Ins} (h : VE w (.slice a code.length c) code) (n : Nat) (hn : n < code.length) :
 ∃ b off, a = some ⟨b, off, none⟩ /\ b < w.heap.size /\ w.cell? ⟨b, off + n * 3, none⟩ = some (.int .i64 (code.getD n default).op) /\ w.cell? ⟨b, off + n * 3 + 1, none⟩ = some (.int .i64 (code.getD n default).a) /\ w.cell? ⟨b, off + n * 3 + 2, none⟩ = some (.int .i64 (code.getD n default).b) := by
 obtain ⟨a', c', hv, hlc, hcell⟩ := h
 obtain ⟨rfl, _, rfl⟩ := Value.slice.inj hv
 obtain ⟨b, off, rfl, hlt, hc⟩ := hcell (by omega)
 obtain ⟨c0, c1, c2⟩ := T9 code n hn
 have hlen := Vf code
 refine ⟨b, off, rfl, hlt, ?_, ?_, ?_⟩
 ·rw [hc (n * 3) (by omega), c0]
 ·rw [Nat.add_assoc, hc (n * 3 + 1) (by omega), c1]
 ·rw [Nat.add_assoc, hc (n * 3 + 2) (by omega), c2]
theorem MF.tick {w : World} {sb : Nat} {fv tv : Value} {main fuel : Int} {s : Xc} {ov : Value} (h : MF w sb fv tv main fuel s ov) : MF (w.setCell ⟨sb, 4, none⟩ (.int .i64 (s.steps + 1))) sb fv tv main fuel (tick s) ov :=
 ⟨ZL (i := 4) h.blk _, Zx h.own (Zv w sb 4 _) (fun k hk e => by have := (Zw h.own _ e).1; cases hk; omega)⟩
theorem Ij {p : Zz} {fuel : Int} {G : Nat} {M : Nat -> Prop} {sb : Nat} {fv tv ov : Value} {f : Z0} {R : ZT × Xc} {V wr w' : World} {cv sv : Value} {stk lo lo' : List Z0} {at_ at' : Int} {s : Xc} {o2 : Value} {m fr : Nat} {a : Option Addr} (HL : LR p fuel G M sb fv tv ov f R V cv stk lo at_ s o2 (m + 1) sv wr)
 (hB : Vi p fuel M sb fv tv ov f V cv lo' (tick s) o2 w') (hfr : fr <= stk.length) (hash : (a = none /\ stk = []) \/ ∃ g, a = some ⟨g, 0, none⟩) (hS2 : U8 (Mine M V.heap.size) w' (.slice a fr fr) fr (ZR (stk.take fr))) (hv : ∀ y ∈ stk, R9 (Mine M V.heap.size) w' y) (hlen : lo'.length = lo.length) (QN : ∀ y ∈ lo', Yx p (ZW y))
 (heq : Yl p fuel m (ZW f) (lo'.map ZW) ((stk.take fr).map ZW) at' (tick s) = R) (hne : s.steps ≠ fuel) (h0 : 0 <= at') (h1 : at' <= 20000) : LR p fuel G M sb fv tv ov f R V cv (stk.take fr) lo' at' (tick s) o2 m (.slice a fr fr) w' := by
 have TD := HL.ru
 have htop := HL.top
 have hpos := HL.pos
 have hle := HL.le
 have hsm := HL.small
 have ht : (tick s).steps = s.steps + 1 := rfl
 have hl : (stk.take fr).length = fr := by rw [List.length_take]; omega
 refine ⟨hB, ?_, by rw [hl]; exact hS2, fun y hy => hv y (List.mem_of_mem_take hy), by rw [hlen]; exact HL.KZ, heq, by omega, by omega, by omega, by omega, QN, fun y hy => HL.QH y (List.mem_of_mem_take hy), HL.out, by omega, h0, h1⟩
 rcases hash with ⟨rfl, rfl⟩ | ⟨g, rfl⟩
 ·obtain rfl : fr = 0 := by simpa using hfr
  exact .inl ⟨rfl, rfl⟩
 ·exact .inr ⟨g, fr, by rw [hl], by rw [hl]; exact Nat.le_refl _⟩
theorem pV {p : Zz} {fuel : Int} {G : Nat} {M : Nat -> Prop} {sb : Nat} {fv tv ov : Value} {f x : Z0} {R : ZT × Xc} {V wr w' : World} {cv sv : Value} {stk lo : List Z0} {at_ at' : Int} {s s3 : Xc} {o2 o3 : Value} {m fr g c : Nat} (HL : LR p fuel G M sb fv tv ov f R V cv stk lo at_ s o2 (m + 1) sv wr)
 (hB : Vi p fuel M sb fv tv ov f V cv lo s3 o3 w') (hfr : fr <= stk.length) (hS2 : U8 (Mine M V.heap.size) w' (.slice (some ⟨g, 0, none⟩) (fr + 1) c) (fr + 1) (ZR (stk.take fr ++ [x]))) (hc : fr + 1 <= c) (hv : ∀ y ∈ stk, R9 (Mine M V.heap.size) w' y) (hx : R9 (Mine M V.heap.size) w' x) (hxo : Yx p (ZW x))
 (heq : Yl p fuel m (ZW f) (lo.map ZW) ((stk.take fr).map ZW ++ [ZW x]) at' s3 = R) (hs3 : s.steps + 1 <= s3.steps) (ht3 : s3.steps <= fuel) (ho3 : s3.out.length <= 1000) (h0 : 0 <= at') (h1 : at' <= 20000) : LR p fuel G M sb fv tv ov f R V cv (stk.take fr ++ [x]) lo at' s3 o3 m (.slice (some ⟨g, 0, none⟩) (fr + 1) c) w' := by
 have TD := HL.ru
 have htop := HL.top
 have hpos := HL.pos
 have hle := HL.le
 have hsm := HL.small
 have hl : (stk.take fr ++ [x]).length = fr + 1 := by simp; omega
 refine ⟨hB, .inr ⟨g, c, by rw [hl], by rw [hl]; exact hc⟩, by rw [hl]; exact hS2, fun y hy => ?_, HL.KZ, by rw [List.map_append]; exact heq, by omega, by omega, by omega, ht3, HL.look, fun y hy => ?_, ho3, by rw [hl]; omega, h0, h1⟩
 ·rcases List.mem_append.1 hy with h | h
  ·exact hv y (List.mem_of_mem_take h)
  ·rw [List.mem_singleton.1 h]; exact hx
 ·rcases List.mem_append.1 hy with h | h
  ·exact HL.QH y (List.mem_of_mem_take h)
  ·rw [List.mem_singleton.1 h]; exact hxo
theorem Wo {M : Nat -> Prop} {w : World} {a : Option Addr} {n c : Nat} {xs : List Value} (h : U8 M w (.slice a n c) n xs) {b : Addr} (hb : a = some b) {j : Nat} {u : Value} (hj : xs[j]? = some u) (hn : xs.length = n * 4 := by rw [Zg, List.length_take]; omega) : w.cell? (b.add j) = some u := by
 obtain ⟨a', c', hv, _, _, hcell⟩ := h
 obtain ⟨rfl, _, rfl⟩ := Value.slice.inj hv
 have hlt := (List.getElem?_eq_some_iff.1 hj).1
 obtain ⟨g, off, cur, ha, _, _, hc⟩ := hcell (by omega)
 rw [hb] at ha
 cases ha
 rw [Addr.add_lit, hc j hlt]
 simp [List.getD, hj]
theorem Ve {s fuel : Int} (h : s <= fuel) (hn : s ≠ fuel) : s + 1 <= fuel := by omega
theorem VI {fuel s s' : Int} (h : s <= fuel) (hn : s ≠ fuel) (h2 : s + 1 <= s') : (fuel - s').toNat < (fuel - s).toNat := by omega
theorem Vx {p : Zz} {fuel : Int} {G : Nat} {M : Nat -> Prop} {sb : Nat} {fv tv ov : Value} {f x : Z0} {R : ZT × Xc} {V wr W5 W6 w' : World} {cv sv v6 : Value} {stk lo : List Z0} {at_ at' : Int} {s s3 : Xc} {o2 o3 : Value} {m fr B : Nat} (HL : LR p fuel G M sb fv tv ov f R V cv stk lo at_ s o2 (m + 1) sv wr)
 (hB : Vi p fuel M sb fv tv ov f V cv lo s3 o3 W5) (hK : UK (Mine M V.heap.size) wr W5) (hfr : fr <= stk.length) (Vn : ∀ b, Mine M V.heap.size b -> b < W5.heap.size) (hx : R9 (Mine M V.heap.size) W5 x) (hxo : Yx p (ZW x))
 (heq : Yl p fuel m (ZW f) (lo.map ZW) ((stk.take fr).map ZW ++ [ZW x]) at' s3 = R) (hs3 : s.steps + 1 <= s3.steps) (ht3 : s3.steps <= fuel) (ho3 : s3.out.length <= 1000) (h0 : 0 <= at') (h1 : at' <= 20000)
 (h56 : W5.grownBy W6 none) (hB6 : W5.heap.size <= B) (hown : w'.ownsRow B 94 4 v6 (fr + 1) (ZR (stk.take fr) ++ [.int .i64 x.op, .int .i64 x.n, .string x.s, x.lv])) (hg6 : W6.grownBy w' none) :
 LR p fuel G M sb fv tv ov f R V cv (stk.take fr ++ [x]) lo at' s3 o3 m v6 w' := by
 have g := both h56 hg6
 have hk := ZG (M := Mine M V.heap.size) g
 obtain ⟨gg, cap, rfl, _, _⟩ := hown.form (Nat.succ_pos _)
 have hcap : fr + 1 <= cap := by
  obtain ⟨_, ⟨hv, _⟩ | ⟨_, _, _, hv, _, _, hc, _⟩⟩ := hown
  ·cases hv
  ·obtain ⟨_, _, rfl⟩ := Value.slice.inj hv; exact hc
 rw [show ZR (stk.take fr) ++ [Value.int .i64 x.op, .int .i64 x.n, .string x.s, x.lv] = ZR (stk.take fr ++ [x]) from (P7 _ _).symm] at hown
 exact pV HL (hB.free g) hfr (KY hown (fun b hb => Nat.lt_of_lt_of_le (Vn b hb) hB6)) hcap (fun y hy => (HL.Cj y hy).kept (hK.trans hk)) (hx.kept hk) hxo heq hs3 ht3 ho3 h0 h1
theorem tV (l : List Value) (n : Nat) (h : l.length = n) : l = (List.range n).map (fun i => l.getD i undef) := by
 subst h
 refine List.ext_getElem (by simp) fun i h1 h2 => ?_
 simp [List.getD, h1]
theorem yN (f : Nat -> Value) : (List.range 279).map f = [f 0, f 1, f 2, f 3, f 4, f 5, f 6, f 7, f 8, f 9, f 10, f 11, f 12, f 13, f 14, f 15, f 16, f 17, f 18, f 19, f 20, f 21, f 22, f 23, f 24, f 25, f 26, f 27, f 28, f 29, f 30, f 31, f 32, f 33, f 34, f 35, f 36, f 37, f 38, f 39, f 40, f 41, f 42, f 43, f 44, f 45, f 46, f 47, f 48, f 49, f 50, f 51, f 52, f 53, f 54, f 55, f 56, f 57, f 58, f 59, f 60, f 61, f 62, f 63, f 64, f 65, f 66, f 67, f 68, f 69, f 70, f 71, f 72, f 73, f 74, f 75, f 76, f 77, f 78, f 79, f 80, f 81, f 82, f 83, f 84, f 85, f 86, f 87, f 88, f 89, f 90, f 91, f 92, f 93, f 94, f 95, f 96, f 97, f 98, f 99, f 100, f 101, f 102, f 103, f 104, f 105, f 106, f 107, f 108, f 109, f 110, f 111, f 112, f 113, f 114, f 115, f 116, f 117, f 118, f 119, f 120, f 121, f 122, f 123, f 124, f 125, f 126, f 127, f 128, f 129, f 130, f 131, f 132, f 133, f 134, f 135, f 136, f 137, f 138, f 139, f 140, f 141, f 142, f 143, f 144, f 145, f 146, f 147, f 148, f 149, f 150, f 151, f 152, f 153, f 154, f 155, f 156, f 157, f 158, f 159, f 160, f 161, f 162, f 163, f 164, f 165, f 166, f 167, f 168, f 169, f 170, f 171, f 172, f 173, f 174, f 175, f 176, f 177, f 178, f 179, f 180, f 181, f 182, f 183, f 184, f 185, f 186, f 187, f 188, f 189, f 190, f 191, f 192, f 193, f 194, f 195, f 196, f 197, f 198, f 199, f 200, f 201, f 202, f 203, f 204, f 205, f 206, f 207, f 208, f 209, f 210, f 211, f 212, f 213, f 214, f 215, f 216, f 217, f 218, f 219, f 220, f 221, f 222, f 223, f 224, f 225, f 226, f 227, f 228, f 229, f 230, f 231, f 232, f 233, f 234, f 235, f 236, f 237, f 238, f 239, f 240, f 241, f 242, f 243, f 244, f 245, f 246, f 247, f 248, f 249, f 250, f 251, f 252, f 253, f 254, f 255, f 256, f 257, f 258, f 259, f 260, f 261, f 262, f 263, f 264, f 265, f 266, f 267, f 268, f 269, f 270, f 271, f 272, f 273, f 274, f 275, f 276, f 277, f 278] := rfl
@[elab_as_elim] theorem WH {C : Act -> Prop} (a : Act) (hs : a.tmps.size = 279) (hd : a.defers = []) (h : ∀ u0 u1 u2 u3 u4 u5 u6 u7 u8 u9 u10 u11 u12 u13 u14 u15 u16 u17 u18 u19 u20 u21 u22 u23 u24 u25 u26 u27 u28 u29 u30 u31 u32 u33 u34 u35 u36 u37 u38 u39 u40 u41 u42 u43 u44 u45 u46 u47 u48 u49 u50 u51 u52 u53 u54 u55 u56 u57 u58 u59 u60 u61 u62 u63 u64 u65 u66 u67 u68 u69 u70 u71 u72 u73 u74 u75 u76 u77 u78 u79 u80 u81 u82 u83 u84 u85 u86 u87 u88 u89 u90 u91 u92 u93 u94 u95 u96 u97 u98 u99 u100 u101 u102 u103 u104 u105 u106 u107 u108 u109 u110 u111 u112 u113 u114 u115 u116 u117 u118 u119 u120 u121 u122 u123 u124 u125 u126 u127 u128 u129 u130 u131 u132 u133 u134 u135 u136 u137 u138 u139 u140 u141 u142 u143 u144 u145 u146 u147 u148 u149 u150 u151 u152 u153 u154 u155 u156 u157 u158 u159 u160 u161 u162 u163 u164 u165 u166 u167 u168 u169 u170 u171 u172 u173 u174 u175 u176 u177 u178 u179 u180 u181 u182 u183 u184 u185 u186 u187 u188 u189 u190 u191 u192 u193 u194 u195 u196 u197 u198 u199 u200 u201 u202 u203 u204 u205 u206 u207 u208 u209 u210 u211 u212 u213 u214 u215 u216 u217 u218 u219 u220 u221 u222 u223 u224 u225 u226 u227 u228 u229 u230 u231 u232 u233 u234 u235 u236 u237 u238 u239 u240 u241 u242 u243 u244 u245 u246 u247 u248 u249 u250 u251 u252 u253 u254 u255 u256 u257 u258 u259 u260 u261 u262 u263 u264 u265 u266 u267 u268 u269 u270 u271 u272 u273 u274 u275 u276 u277 u278 : Value, C ⟨#[u0, u1, u2, u3, u4, u5, u6, u7, u8, u9, u10, u11, u12, u13, u14, u15, u16, u17, u18, u19, u20, u21, u22, u23, u24, u25, u26, u27, u28, u29, u30, u31, u32, u33, u34, u35, u36, u37, u38, u39, u40, u41, u42, u43, u44, u45, u46, u47, u48, u49, u50, u51, u52, u53, u54, u55, u56, u57, u58, u59, u60, u61, u62, u63, u64, u65, u66, u67, u68, u69, u70, u71, u72, u73, u74, u75, u76, u77, u78, u79, u80, u81, u82, u83, u84, u85, u86, u87, u88, u89, u90, u91, u92, u93, u94, u95, u96, u97, u98, u99, u100, u101, u102, u103, u104, u105, u106, u107, u108, u109, u110, u111, u112, u113, u114, u115, u116, u117, u118, u119, u120, u121, u122, u123, u124, u125, u126, u127, u128, u129, u130, u131, u132, u133, u134, u135, u136, u137, u138, u139, u140, u141, u142, u143, u144, u145, u146, u147, u148, u149, u150, u151, u152, u153, u154, u155, u156, u157, u158, u159, u160, u161, u162, u163, u164, u165, u166, u167, u168, u169, u170, u171, u172, u173, u174, u175, u176, u177, u178, u179, u180, u181, u182, u183, u184, u185, u186, u187, u188, u189, u190, u191, u192, u193, u194, u195, u196, u197, u198, u199, u200, u201, u202, u203, u204, u205, u206, u207, u208, u209, u210, u211, u212, u213, u214, u215, u216, u217, u218, u219, u220, u221, u222, u223, u224, u225, u226, u227, u228, u229, u230, u231, u232, u233, u234, u235, u236, u237, u238, u239, u240, u241, u242, u243, u244, u245, u246, u247, u248, u249, u250, u251, u252, u253, u254, u255, u256, u257, u258, u259, u260, u261, u262, u263, u264, u265, u266, u267, u268, u269, u270, u271, u272, u273, u274, u275, u276, u277, u278], []⟩) : C a := by
 obtain ⟨⟨l⟩, d⟩ := a
 simp only at hd
 subst hd
 have e := (tV l 279 hs).trans (yN _)
 rw [e]
 exact h (l.getD 0 undef) (l.getD 1 undef) (l.getD 2 undef) (l.getD 3 undef) (l.getD 4 undef) (l.getD 5 undef) (l.getD 6 undef) (l.getD 7 undef) (l.getD 8 undef) (l.getD 9 undef) (l.getD 10 undef) (l.getD 11 undef) (l.getD 12 undef) (l.getD 13 undef) (l.getD 14 undef) (l.getD 15 undef) (l.getD 16 undef) (l.getD 17 undef) (l.getD 18 undef) (l.getD 19 undef) (l.getD 20 undef) (l.getD 21 undef) (l.getD 22 undef) (l.getD 23 undef) (l.getD 24 undef) (l.getD 25 undef) (l.getD 26 undef) (l.getD 27 undef) (l.getD 28 undef) (l.getD 29 undef) (l.getD 30 undef) (l.getD 31 undef) (l.getD 32 undef) (l.getD 33 undef) (l.getD 34 undef) (l.getD 35 undef) (l.getD 36 undef) (l.getD 37 undef) (l.getD 38 undef) (l.getD 39 undef) (l.getD 40 undef) (l.getD 41 undef) (l.getD 42 undef) (l.getD 43 undef) (l.getD 44 undef) (l.getD 45 undef) (l.getD 46 undef) (l.getD 47 undef) (l.getD 48 undef) (l.getD 49 undef) (l.getD 50 undef) (l.getD 51 undef) (l.getD 52 undef) (l.getD 53 undef) (l.getD 54 undef) (l.getD 55 undef) (l.getD 56 undef) (l.getD 57 undef) (l.getD 58 undef) (l.getD 59 undef) (l.getD 60 undef) (l.getD 61 undef) (l.getD 62 undef) (l.getD 63 undef) (l.getD 64 undef) (l.getD 65 undef) (l.getD 66 undef) (l.getD 67 undef) (l.getD 68 undef) (l.getD 69 undef) (l.getD 70 undef) (l.getD 71 undef) (l.getD 72 undef) (l.getD 73 undef) (l.getD 74 undef) (l.getD 75 undef) (l.getD 76 undef) (l.getD 77 undef) (l.getD 78 undef) (l.getD 79 undef) (l.getD 80 undef) (l.getD 81 undef) (l.getD 82 undef) (l.getD 83 undef) (l.getD 84 undef) (l.getD 85 undef) (l.getD 86 undef) (l.getD 87 undef) (l.getD 88 undef) (l.getD 89 undef) (l.getD 90 undef) (l.getD 91 undef) (l.getD 92 undef) (l.getD 93 undef) (l.getD 94 undef) (l.getD 95 undef) (l.getD 96 undef) (l.getD 97 undef) (l.getD 98 undef) (l.getD 99 undef) (l.getD 100 undef) (l.getD 101 undef) (l.getD 102 undef) (l.getD 103 undef) (l.getD 104 undef) (l.getD 105 undef) (l.getD 106 undef) (l.getD 107 undef) (l.getD 108 undef) (l.getD 109 undef) (l.getD 110 undef) (l.getD 111 undef) (l.getD 112 undef) (l.getD 113 undef) (l.getD 114 undef) (l.getD 115 undef) (l.getD 116 undef) (l.getD 117 undef) (l.getD 118 undef) (l.getD 119 undef) (l.getD 120 undef) (l.getD 121 undef) (l.getD 122 undef) (l.getD 123 undef) (l.getD 124 undef) (l.getD 125 undef) (l.getD 126 undef) (l.getD 127 undef) (l.getD 128 undef) (l.getD 129 undef) (l.getD 130 undef) (l.getD 131 undef) (l.getD 132 undef) (l.getD 133 undef) (l.getD 134 undef) (l.getD 135 undef) (l.getD 136 undef) (l.getD 137 undef) (l.getD 138 undef) (l.getD 139 undef) (l.getD 140 undef) (l.getD 141 undef) (l.getD 142 undef) (l.getD 143 undef) (l.getD 144 undef) (l.getD 145 undef) (l.getD 146 undef) (l.getD 147 undef) (l.getD 148 undef) (l.getD 149 undef) (l.getD 150 undef) (l.getD 151 undef) (l.getD 152 undef) (l.getD 153 undef) (l.getD 154 undef) (l.getD 155 undef) (l.getD 156 undef) (l.getD 157 undef) (l.getD 158 undef) (l.getD 159 undef) (l.getD 160 undef) (l.getD 161 undef) (l.getD 162 undef) (l.getD 163 undef) (l.getD 164 undef) (l.getD 165 undef) (l.getD 166 undef) (l.getD 167 undef) (l.getD 168 undef) (l.getD 169 undef) (l.getD 170 undef) (l.getD 171 undef) (l.getD 172 undef) (l.getD 173 undef) (l.getD 174 undef) (l.getD 175 undef) (l.getD 176 undef) (l.getD 177 undef) (l.getD 178 undef) (l.getD 179 undef) (l.getD 180 undef) (l.getD 181 undef) (l.getD 182 undef) (l.getD 183 undef) (l.getD 184 undef) (l.getD 185 undef) (l.getD 186 undef) (l.getD 187 undef) (l.getD 188 undef) (l.getD 189 undef) (l.getD 190 undef) (l.getD 191 undef) (l.getD 192 undef) (l.getD 193 undef) (l.getD 194 undef) (l.getD 195 undef) (l.getD 196 undef) (l.getD 197 undef) (l.getD 198 undef) (l.getD 199 undef) (l.getD 200 undef) (l.getD 201 undef) (l.getD 202 undef) (l.getD 203 undef) (l.getD 204 undef) (l.getD 205 undef) (l.getD 206 undef) (l.getD 207 undef) (l.getD 208 undef) (l.getD 209 undef) (l.getD 210 undef) (l.getD 211 undef) (l.getD 212 undef) (l.getD 213 undef) (l.getD 214 undef) (l.getD 215 undef) (l.getD 216 undef) (l.getD 217 undef) (l.getD 218 undef) (l.getD 219 undef) (l.getD 220 undef) (l.getD 221 undef) (l.getD 222 undef) (l.getD 223 undef) (l.getD 224 undef) (l.getD 225 undef) (l.getD 226 undef) (l.getD 227 undef) (l.getD 228 undef) (l.getD 229 undef) (l.getD 230 undef) (l.getD 231 undef) (l.getD 232 undef) (l.getD 233 undef) (l.getD 234 undef) (l.getD 235 undef) (l.getD 236 undef) (l.getD 237 undef) (l.getD 238 undef) (l.getD 239 undef) (l.getD 240 undef) (l.getD 241 undef) (l.getD 242 undef) (l.getD 243 undef) (l.getD 244 undef) (l.getD 245 undef) (l.getD 246 undef) (l.getD 247 undef) (l.getD 248 undef) (l.getD 249 undef) (l.getD 250 undef) (l.getD 251 undef) (l.getD 252 undef) (l.getD 253 undef) (l.getD 254 undef) (l.getD 255 undef) (l.getD 256 undef) (l.getD 257 undef) (l.getD 258 undef) (l.getD 259 undef) (l.getD 260 undef) (l.getD 261 undef) (l.getD 262 undef) (l.getD 263 undef) (l.getD 264 undef) (l.getD 265 undef) (l.getD 266 undef) (l.getD 267 undef) (l.getD 268 undef) (l.getD 269 undef) (l.getD 270 undef) (l.getD 271 undef) (l.getD 272 undef) (l.getD 273 undef) (l.getD 274 undef) (l.getD 275 undef) (l.getD 276 undef) (l.getD 277 undef) (l.getD 278 undef)
def fA (pre : List Value) (rel : Value -> Value -> World -> Prop) (mu : World -> Nat) (n : Nat) (a : Act) (w : World) : Prop := a.tmps.size = 279 /\ a.defers = [] /\ a.tmps.toList.take 9 = pre /\ rel (a.tmps.getD 9 undef) (a.tmps.getD 10 undef) w /\ mu w = n
def Boxed (N : Nat -> Prop) (q : Nat) (b : Nat) : Prop := N b \/ b = q
theorem Nr {N : Nat -> Prop} {w : World} : ∀ b, Boxed N w.heap.size b -> N b \/ w.heap.size <= b := fun b h => by
 rcases h with h | h
 ·exact .inl h
 ·exact .inr (by omega)
theorem KW (w : World) : w.grownBy w none := ⟨rfl, rfl, rfl, Nat.le_refl _, fun _ _ _ => rfl⟩
structure yM (p : Zz) (fuel : Int) (M : Nat -> Prop) (sb : Nat) (fv tv : Value) (ov : Value) (f : Z0) (V : World) (cv : Value) (lo : List Z0) (r : ZT × Xc) (o3 : Value) (w4 w6 w7 : World) (x : Z0) : Prop where
 box : w6.heap[w4.heap.size]? = some (.cells Zf 94 (0, 0))
 base : Vi p fuel M sb fv tv ov f V cv lo r.2 o3 w7
 keep : UK (Mine M V.heap.size) w4 w7
 nI : UK (Mine M V.heap.size) w4 w6
 isv : R9 (Mine M V.heap.size) w7 x
 strip : ZW x = r.1
 size : w4.heap.size <= w7.heap.size
theorem Rh {p : Zz} {fuel : Int} {M : Nat -> Prop} {sb : Nat} {fv tv ov : Value} {f : Z0} {V : World} {cv : Value} {lo : List Z0} {s : Xc} {o2 : Value} {w4 W5 w6 : World} {r : ZT × Xc} {o3 : Value} {xo xn : Int} {xs : ByteArray} {xv : Value} {xl : List Z0}
 (h : Vi p fuel M sb fv tv ov f V cv lo s o2 w4) (hsb : sb < V.heap.size) (g5 : (w4.alloc (.cells Zf 94)).grownBy W5 none) (hx : ZW (.mk xo xn xs xv xl) = r.1) (hxv : R9 (Boxed (Mine M V.heap.size) w4.heap.size) w6 (.mk xo xn xs xv xl)) (hS : MF w6 sb fv tv p.main fuel r.2 o3) (hE : Em sb W5 w6 o2.ownBlock o3.ownBlock) :
 yM p fuel M sb fv tv ov f V cv lo r o3 w4 w6 ((((w6.setCell ⟨w4.heap.size, 0, none⟩ (.int .i64 xo)).setCell ⟨w4.heap.size, 1, none⟩ (.int .i64 xn)).setCell ⟨w4.heap.size, 2, none⟩ (.string xs)).setCell ⟨w4.heap.size, 3, none⟩ xv) (.mk xo xn xs xv xl) := by
 have hz := h.em.size
 have hb5 := (g5.block _ (by simp) (by nofun)).trans (Zn w4 (.cells Zf 94))
 have gA := both (Z8 w4 (.cells Zf 94)) g5
 have fu := (h.VL.free gA).other hE hb5 (by decide) (by omega)
 have gs : w6.grownBy ((((w6.setCell ⟨w4.heap.size, 0, none⟩ (.int .i64 xo)).setCell ⟨w4.heap.size, 1, none⟩ (.int .i64 xn)).setCell ⟨w4.heap.size, 2, none⟩ (.string xs)).setCell ⟨w4.heap.size, 3, none⟩ xv) (some w4.heap.size) := Pw w6 w4.heap.size 0 1 2 3 (.int .i64 xo) (.int .i64 xn) (.string xs) xv
 have hE6 : Em sb w4 w6 o2.ownBlock o3.ownBlock := (Em.free gA).trans hE
 have hE7 : Em sb w4 ((((w6.setCell ⟨w4.heap.size, 0, none⟩ (.int .i64 xo)).setCell ⟨w4.heap.size, 1, none⟩ (.int .i64 xn)).setCell ⟨w4.heap.size, 2, none⟩ (.string xs)).setCell ⟨w4.heap.size, 3, none⟩ xv) o2.ownBlock o3.ownBlock := hE6.fresh gs (fun q hq => by cases hq; exact Nat.le_refl _)
 have hS7 : MF ((((w6.setCell ⟨w4.heap.size, 0, none⟩ (.int .i64 xo)).setCell ⟨w4.heap.size, 1, none⟩ (.int .i64 xn)).setCell ⟨w4.heap.size, 2, none⟩ (.string xs)).setCell ⟨w4.heap.size, 3, none⟩ xv) sb fv tv p.main fuel r.2 o3 := ⟨(gs.block sb (Z6 hS.blk) (fun e => by have := Option.some.inj e; omega)).trans hS.blk, Zx hS.own gs (fun q hq e => by
  obtain ⟨cu, MW⟩ := XP hS.own q e; rw [<- Option.some.inj hq, fu] at MW; exact absurd (Obj.cells.inj (Option.some.inj MW)).2.1 (by decide))⟩
 have hk : UK (Boxed (Mine M V.heap.size) w4.heap.size) w6 ((((w6.setCell ⟨w4.heap.size, 0, none⟩ (.int .i64 xo)).setCell ⟨w4.heap.size, 1, none⟩ (.int .i64 xn)).setCell ⟨w4.heap.size, 2, none⟩ (.string xs)).setCell ⟨w4.heap.size, 3, none⟩ xv) := fun b cur hb hm => gs.block b (Z6 hb) (fun e => hm (.inr (Option.some.inj e)))
 exact ⟨fu, h.step hsb hS7 hE7, h.VL.Aw hE7, h.VL.Aw hE6, (hxv.kept hk).less (fun b hb => .inl hb), hx, hE7.size⟩
theorem pU (a b : Int) (h : 1 <= a /\ a <= 14) : Yd ⟨15, a, b⟩ = 1 \/ Yd ⟨15, a, b⟩ = 2 := by
 have e : ZA a = 1 \/ ZA a = 2 := by
  unfold ZA; split
  ·exact .inl rfl
  ·first | exact .inr rfl | (rw [ZY h]; exact .inr rfl)
 unfold Yd Ya
 simp only [show ¬ ((15 : Int) = 1 \/ (15 : Int) = 2 \/ (15 : Int) = 3 \/ (15 : Int) = 5 \/ (15 : Int) = 6) by decide, show ¬ ((15 : Int) = 4 \/ (15 : Int) = 9 \/ (15 : Int) = 13) by decide, show ¬ (15 : Int) = 7 by decide, show ¬ (15 : Int) = 10 by decide, show ¬ ((15 : Int) = 11 \/ (15 : Int) = 12) by decide, show ¬ (15 : Int) = 8 by decide, show ¬ ((15 : Int) = 14 \/ (15 : Int) = 16) by decide, if_false, if_true, (Xg a 1 14).2 h]
 rcases e with e | e <;> rw [e]
 ·exact .inl rfl
 ·exact .inr rfl
theorem tT {α : Type} {l : List α} (h : l.length = 2) : ∃ a b, l = [a, b] := by
 match l, h with
 | [a, b], _ => exact ⟨a, b, rfl⟩
theorem kQ (a b : Int) : Yd ⟨8, a, b⟩ = 2 := by
 unfold Yd Ya
 rfl
theorem tQ {M : Nat -> Prop} {w : World} {v : Value} {f a : Z0} (h : U8 M w v 2 (ZR [f, a])) :
 ∃ g off c, v = .slice (some ⟨g, off, none⟩) 2 c /\ 2 <= c /\ (∀ w', UK M w w' -> w'.heap[g]? = w.heap[g]?) /\ w.cell? ⟨g, off, none⟩ = some (.int .i64 f.op) /\ w.cell? ⟨g, off + 1, none⟩ = some (.int .i64 f.n) /\ w.cell? ⟨g, off + 2, none⟩ = some (.string f.s) /\ w.cell? ⟨g, off + 3, none⟩ = some f.lv /\ w.cell? ⟨g, off + 4, none⟩ = some (.int .i64 a.op) /\ w.cell? ⟨g, off + 4 + 1, none⟩ = some (.int .i64 a.n) /\ w.cell? ⟨g, off + 4 + 2, none⟩ = some (.string a.s) /\ w.cell? ⟨g, off + 4 + 3, none⟩ = some a.lv := by
 obtain ⟨b, off, c, hv, hc, hm, hb, x0, x1, x2, x3⟩ := Vp (l := [f, a]) h 0 (by simp)
 obtain ⟨b', off', c', hv', _, _, _, y0, y1, y2, y3⟩ := Vp (l := [f, a]) h 1 (by simp)
 rw [hv] at hv'
 obtain ⟨e1, _, rfl⟩ := Value.slice.inj hv'
 obtain ⟨rfl, rfl, _⟩ := Addr.mk.inj (Option.some.inj e1)
 simp only [Nat.zero_mul, Nat.one_mul, Nat.add_zero, List.getD, List.getElem?_cons_zero, List.getElem?_cons_succ, Option.getD_some] at x0 x1 x2 x3 y0 y1 y2 y3
 obtain ⟨a2, c2, hv2, _, _, hcell⟩ := h
 obtain ⟨b2, off2, cur, ha2, hm2, hb2, _⟩ := hcell (by decide)
 rw [hv] at hv2
 obtain ⟨e2, _, _⟩ := Value.slice.inj hv2
 rw [ha2] at e2
 obtain ⟨rfl, rfl, _⟩ := Addr.mk.inj (Option.some.inj e2)
 exact ⟨b, off, c, hv, hc, fun w' k => k _ cur hb2 hm2, x0, x1, x2, x3, y0, y1, y2, y3⟩
theorem QG {w w' : World} {g off : Nat} {fo fn ao an : Int} {fs as1 : ByteArray} {fv av : Value} (e : w'.heap[g]? = w.heap[g]?) (h : w.cell? ⟨g, off, none⟩ = some (.int .i64 fo) /\ w.cell? ⟨g, off + 1, none⟩ = some (.int .i64 fn) /\ w.cell? ⟨g, off + 2, none⟩ = some (.string fs) /\ w.cell? ⟨g, off + 3, none⟩ = some fv /\ w.cell? ⟨g, off + 4, none⟩ = some (.int .i64 ao) /\ w.cell? ⟨g, off + 4 + 1, none⟩ = some (.int .i64 an) /\ w.cell? ⟨g, off + 4 + 2, none⟩ = some (.string as1) /\ w.cell? ⟨g, off + 4 + 3, none⟩ = some av) : w'.cell? ⟨g, off, none⟩ = some (.int .i64 fo) /\ w'.cell? ⟨g, off + 1, none⟩ = some (.int .i64 fn) /\ w'.cell? ⟨g, off + 2, none⟩ = some (.string fs) /\ w'.cell? ⟨g, off + 3, none⟩ = some fv /\ w'.cell? ⟨g, off + 4, none⟩ = some (.int .i64 ao) /\ w'.cell? ⟨g, off + 4 + 1, none⟩ = some (.int .i64 an) /\ w'.cell? ⟨g, off + 4 + 2, none⟩ = some (.string as1) /\ w'.cell? ⟨g, off + 4 + 3, none⟩ = some av := by
 have k : ∀ o, w'.cell? ⟨g, o, none⟩ = w.cell? ⟨g, o, none⟩ := fun o => by unfold World.cell?; rw [e]
 simp only [k]
 exact h
end Go.Proofs.YtbcfdebdikgijaaGreatDoor
