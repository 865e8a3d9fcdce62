/- The execution of a program, as a plain function; what holds of its values. The execution of a valid program: its values stay in order. The execution of a valid program: what its end is like. The execution of a program depends on its code alone. The code of an expression is one (plain law). Texts that are handed on (plain law). -/
import Derived.Test.YtidolpcbbbakmaaGreatM35
import Derived.Test.YtidolpcbbbakmaaGreatM31
namespace Go.Proofs.YtidolpcbbbakmaaGreat
open Go Go.RowKit
def funOf (p : ProgD) (f : ValD) : FunD := p.funs.getD f.n.toNat default
def locals0 (p : ProgD) (f arg : ValD) : List ValD := arg :: List.replicate ((funOf p f).l.toNat - 1) default
def popsOf (i : Ins) : Nat := (effT i.op i.a i.b).1.toNat
def tick (st : StD) : StD := { st with steps := st.steps + 1 }
/-- What an instruction lays on the stack, but for a call. -/
def pushP (p : ProgD) (f : ValD) (loc l : List ValD) (i : Ins) (st : StD) : ValD × StD :=
  if i.op = 1 then (.mk 1 i.a ⟨#[]⟩ [], st)
  else if i.op = 2 then (.mk 2 0 (p.texts.getD i.a.toNat default) [], st)
  else if i.op = 3 then (loc.getD i.a.toNat default, st)
  else if i.op = 5 then (f.l.getD i.a.toNat default, st)
  else if i.op = 6 then (f, st)
  else if i.op = 7 then (.mk 7 i.a ⟨#[]⟩ l, st)
  else if i.op = 10 then (.mk 3 0 ⟨#[]⟩ l, st)
  else if i.op = 12 then (.mk 4 i.a ⟨#[]⟩ l, st)
  else if i.op = 11 then (if (l.headD default).op = 3 ∧ i.a < ((l.headD default).l.length : Int) then (l.headD default).l.getD i.a.toNat default else default, st)
  else applyQ st (primQ i.a l)
/-- The execution of a function's code from a place on; g bounds the instructions. -/
def runP (p : ProgD) (fuel : Int) : Nat → ValD → List ValD → List ValD → Int → StD → ValD × StD
  | 0, _, _, _, _, st => (default, st)
  | g + 1, f, loc, stk, at_, st =>
    if st.e ≠ 0 then (default, st)
    else if at_ < 0 ∨ ((funOf p f).code.length : Int) ≤ at_ then (default, stopP st 4 0)
    else if st.steps = fuel then (default, stopP st 3 0)
    else
      let i := (funOf p f).code.getD at_.toNat default
      let k := popsOf i
      if stk.length < k then (default, stopP (tick st) 4 0)
      else
        let l := stk.drop (stk.length - k)
        let s2 := stk.take (stk.length - k)
        if i.op = 9 then (l.headD default, tick st)
        else if i.op = 14 then runP p fuel g f loc s2 i.a (tick st)
        else if i.op = 16 then (default, stopP (tick st) 2 i.a)
        else if i.op = 4 then runP p fuel g f (loc.set i.a.toNat (l.headD default)) s2 (at_ + 1) (tick st)
        else if i.op = 13 then
          (if (l.headD default).op ≠ 4 ∨ i.b ≤ (l.headD default).n then (default, stopP (tick st) 4 0)
          else runP p fuel g f (loc.set i.a.toNat ((l.headD default).l.headD default)) s2 (at_ + 1 + (l.headD default).n) (tick st))
        else
          let r := if i.op = 8 then (if (l.headD default).op = 7 then runP p fuel g (l.headD default) (locals0 p (l.headD default) (l.getD 1 default)) [] 0 (tick st) else (default, tick st)) else pushP p f loc l i (tick st)
          if r.1.op = 0 then (default, stopP r.2 4 0) else runP p fuel g f loc (s2 ++ [r.1]) (at_ + 1) r.2
/-- The functions and the tags in a value are in order. -/
inductive ValOk (p : ProgD) : ValD → Prop
  | mk {op n : Int} {s : ByteArray} {l : List ValD} : (op = 7 → 0 ≤ n ∧ n < p.funs.length ∧ (l.length : Int) = (p.funs.getD n.toNat default).c) → (op = 4 → 1 ≤ l.length ∧ 0 ≤ n ∧ n ≤ 1000) → (∀ y ∈ l, ValOk p y) → ValOk p (.mk op n s l)
theorem ValOk.all {p : ProgD} {v : ValD} (h : ValOk p v) : (v.op = 7 → 0 ≤ v.n ∧ v.n < p.funs.length ∧ (v.l.length : Int) = (p.funs.getD v.n.toNat default).c) ∧ (v.op = 4 → 1 ≤ v.l.length ∧ 0 ≤ v.n ∧ v.n ≤ 1000) ∧ ∀ y ∈ v.l, ValOk p y := by
  cases h with
  | mk h1 h2 h3 => exact ⟨h1, h2, h3⟩
theorem valOk_default (p : ProgD) : ValOk p default := .mk (fun h => by cases h) (fun h => by cases h) (fun _ h => by cases h)
theorem valOk_flat (p : ProgD) (op n : Int) (s : ByteArray) (h7 : op ≠ 7) (h4 : op ≠ 4) : ValOk p (.mk op n s []) := .mk (fun h => absurd h h7) (fun h => absurd h h4) (fun _ h => by cases h)
theorem valOk_getD {p : ProgD} {l : List ValD} (h : ∀ y ∈ l, ValOk p y) (k : Nat) : ValOk p (l.getD k default) := by
  by_cases hk : k < l.length
  · exact h _ (getD_mem default l k hk)
  · have e : l.getD k default = default := by simp [List.getD, List.getElem?_eq_none (Nat.le_of_not_lt hk)]
    rw [e]; exact valOk_default p
theorem valOk_headD {p : ProgD} {l : List ValD} (h : ∀ y ∈ l, ValOk p y) : ValOk p (l.headD default) := by
  cases l with
  | nil => exact valOk_default p
  | cons x r => exact h x (List.mem_cons_self ..)
theorem applyQ_ok (p : ProgD) (st : StD) (n : Int) (l : List ValD) (ho : st.out.length ≤ 1000) : ValOk p (applyQ st (primQ n l)).1 ∧ (applyQ st (primQ n l)).2.out.length ≤ 1000 ∧ (applyQ st (primQ n l)).2.steps = st.steps := by
  have hs : ∀ e m, (stopP st e m).out = st.out ∧ (stopP st e m).steps = st.steps := fun e m => by unfold stopP; split <;> exact ⟨rfl, rfl⟩
  have hv : ∀ v, primQ n l = .val v → ValOk p v := fun v h => by
    unfold primQ at h
    repeat' split at h
    all_goals first | (cases h; done) | skip
    · cases h; exact valOk_default p
    · unfold ofR at h
      split at h
      · cases h
      · cases h; exact valOk_flat p _ _ _ (by decide) (by decide)
      · cases h; exact valOk_flat p _ _ _ (by decide) (by decide)
      · rename_i b _
        cases h
        refine .mk (fun h => by cases h) (fun _ => ⟨Nat.le_refl _, ?_⟩) (fun y hy => ?_)
        · cases b <;> decide
        · rcases List.mem_singleton.1 hy with rfl
          exact valOk_flat p _ _ _ (by decide) (by decide)
  cases hq : primQ n l with
  | stuck => exact ⟨valOk_default p, by rw [show (applyQ st .stuck).2 = stopP st 4 0 from rfl, (hs _ _).1]; exact ho, (hs _ _).2⟩
  | fail c => exact ⟨valOk_default p, by rw [show (applyQ st (.fail c)).2 = stopP st 2 c from rfl, (hs _ _).1]; exact ho, (hs _ _).2⟩
  | val v => exact ⟨hv v hq, ho, rfl⟩
  | print s =>
    unfold applyQ
    split
    · cases ‹_ = _›
    · cases ‹_ = _›
    · cases ‹_ = _›
    · rename_i t ht
      by_cases h : st.out.length = 1000
      · rw [if_pos h]; exact ⟨valOk_default p, by rw [(hs _ _).1]; exact ho, (hs _ _).2⟩
      · rw [if_neg h]
        exact ⟨valOk_flat p _ _ _ (by decide) (by decide), by simp; omega, rfl⟩
structure GoodP (p : ProgD) : Prop where
  head : ∀ k, k < p.funs.length → headB (p.funs.getD k default) = true
  right : ∀ k, k < p.funs.length → ∀ j, j < (p.funs.getD k default).code.length → rightI p.texts.length p.funs (p.funs.getD k default).c (p.funs.getD k default).l (p.funs.getD k default).code j ((p.funs.getD k default).code.getD j default) = true
  main : 0 ≤ p.main ∧ p.main < p.funs.length ∧ (p.funs.getD p.main.toNat default).c = 0
  texts : p.texts.length ≤ 1000
  funs : p.funs.length ≤ 4096
theorem inB_iff (n a b : Int) : inB n a b = true ↔ a ≤ n ∧ n ≤ b := by unfold inB; simp
theorem good_of {p : ProgD} (h : validB p = true) : GoodP p := by
  unfold validB at h
  simp only [Bool.and_eq_true, decide_eq_true_iff, inB_iff] at h
  obtain ⟨h0, h1, _, h3, h4, h5⟩ := h
  have hm : ∀ k, k < p.funs.length → p.funs.getD k default ∈ p.funs := fun k hk => getD_mem default p.funs k hk
  refine ⟨fun k hk => List.all_eq_true.1 h3 _ (hm k hk), fun k hk j hj => ?_, ?_, h1, by omega⟩
  · have := List.all_eq_true.1 h4 _ (hm k hk)
    unfold rightsB at this
    have := List.all_eq_true.1 this j (List.mem_range.2 hj)
    rw [rightB_eq] at this
    exact this
  · unfold mainB at h5
    simp only [Bool.and_eq_true, decide_eq_true_iff, inB_iff] at h5
    exact ⟨h5.1.1, by omega, h5.2⟩
/-- What is known of an instruction at a place of a function of a valid program. -/
theorem ins_ok {p : ProgD} (hp : GoodP p) {f : ValD} (hf : ValOk p f) (h7 : f.op = 7) {at_ : Int} (ha : ¬ (at_ < 0 ∨ ((funOf p f).code.length : Int) ≤ at_)) :
    rightI p.texts.length p.funs (funOf p f).c (funOf p f).l (funOf p f).code at_.toNat ((funOf p f).code.getD at_.toNat default) = true ∧ headB (funOf p f) = true := by
  obtain ⟨h1, _, _⟩ := hf.all
  obtain ⟨n0, n1, _⟩ := h1 h7
  have hk : f.n.toNat < p.funs.length := by omega
  exact ⟨hp.right _ hk _ (by unfold funOf at ha; omega), hp.head _ hk⟩
theorem head_iff (f : FunD) : headB f = true ↔ (0 ≤ f.c ∧ f.c ≤ 1000) ∧ (1 ≤ f.l ∧ f.l ≤ 4096) ∧ (0 ≤ f.d ∧ f.d ≤ 4096) ∧ (1 ≤ (f.code.length : Int) ∧ (f.code.length : Int) ≤ 16384) := by
  unfold headB
  simp only [Bool.and_eq_true, inB_iff]
theorem right_op {nt : Nat} {fs : List FunD} {c l : Int} {code : List Ins} {k : Nat} {i : Ins} (h : rightI nt fs c l code k i = true) : 1 ≤ i.op ∧ i.op ≤ 16 := by
  unfold rightI at h
  by_cases hk : knownB i.op = false
  · rw [if_pos hk] at h; cases h
  · have : knownB i.op = true := by simpa using hk
    unfold knownB at this
    exact (inB_iff _ _ _).1 this
theorem right_rest {nt : Nat} {fs : List FunD} {c l : Int} {code : List Ins} {k : Nat} {i : Ins} (h : rightI nt fs c l code k i = true) :
    (i.op = 2 → 0 ≤ i.a ∧ i.a ≤ (nt : Int) - 1) ∧ (i.op = 3 ∨ i.op = 4 → 0 ≤ i.a ∧ i.a ≤ l - 1) ∧ (i.op = 5 → 0 ≤ i.a ∧ i.a ≤ c - 1) ∧ (i.op = 7 → (0 ≤ i.a ∧ i.a ≤ (fs.length : Int) - 1) ∧ i.b = (fs.getD i.a.toNat default).c) ∧
    (i.op = 10 → 0 ≤ i.a ∧ i.a ≤ 1000) ∧ (i.op = 11 ∨ i.op = 12 → 0 ≤ i.a ∧ i.a ≤ 999) ∧ (i.op = 13 → (0 ≤ i.a ∧ i.a ≤ l - 1) ∧ 1 ≤ i.b ∧ i.b ≤ 1000) ∧ (i.op = 14 → 0 ≤ i.a ∧ i.a ≤ (code.length : Int) - 1) ∧ (i.op = 15 → 1 ≤ i.a ∧ i.a ≤ 14) := by
  have h0 := right_op h
  unfold rightI at h
  have hk : ¬ knownB i.op = false := by
    have : knownB i.op = true := by unfold knownB; rw [inB_iff]; exact h0
    rw [this]; decide
  rw [if_neg hk] at h
  by_cases h2 : opnds i.op < 1 ∧ i.a ≠ 0 ∨ opnds i.op < 2 ∧ i.b ≠ 0
  · rw [if_pos h2] at h; cases h
  rw [if_neg h2] at h
  refine ⟨fun e => ?_, fun e => ?_, fun e => ?_, fun e => ?_, fun e => ?_, fun e => ?_, fun e => ?_, fun e => ?_, fun e => ?_⟩
  · rw [e] at h; simpa [inB_iff] using h
  · rcases e with e | e <;> rw [e] at h <;> simpa [inB_iff] using h
  · rw [e] at h; simpa [inB_iff] using h
  · rw [e] at h; simpa [inB_iff] using h
  · rw [e] at h; simpa [inB_iff] using h
  · rcases e with e | e <;> rw [e] at h <;> simpa [inB_iff] using h
  · rw [e] at h
    simp only [show ¬ (13 : Int) = 1 by decide, show ¬ (13 : Int) = 2 by decide, show ¬ ((13 : Int) = 3 ∨ (13 : Int) = 4) by decide, show ¬ (13 : Int) = 5 by decide, show ¬ (13 : Int) = 7 by decide, show ¬ (13 : Int) = 10 by decide, show ¬ ((13 : Int) = 11 ∨ (13 : Int) = 12) by decide, if_false, if_true, Bool.and_eq_true, inB_iff] at h
    exact ⟨h.1, h.2.1⟩
  · rw [e] at h; simpa [inB_iff] using h
  · rw [e] at h; simpa [inB_iff] using h
theorem stopP_out (st : StD) (e m : Int) : (stopP st e m).out = st.out := by unfold stopP; split <;> rfl
theorem stopP_steps (st : StD) (e m : Int) : (stopP st e m).steps = st.steps := by unfold stopP; split <;> rfl
/-- The end of an execution. -/
def EndOk (p : ProgD) (fuel s0 : Int) (r : ValD × StD) : Prop := ValOk p r.1 ∧ r.2.out.length ≤ 1000 ∧ s0 ≤ r.2.steps ∧ r.2.steps ≤ fuel
theorem end_stop {p : ProgD} {fuel s0 : Int} {st : StD} (e m : Int) (ho : st.out.length ≤ 1000) (h1 : s0 ≤ st.steps) (h2 : st.steps ≤ fuel) : EndOk p fuel s0 (default, stopP st e m) :=
  ⟨valOk_default p, by rw [stopP_out]; exact ho, by rw [stopP_steps]; exact h1, by rw [stopP_steps]; exact h2⟩
theorem pops_len {stk : List ValD} {k : Nat} (h : ¬ stk.length < k) : (stk.drop (stk.length - k)).length = k := by rw [List.length_drop]; omega
theorem pops_7 (a b : Int) (h : 0 ≤ b ∧ b ≤ 1000) : popsOf ⟨7, a, b⟩ = b.toNat := by
  unfold popsOf effT
  simp only [show ¬ ((7 : Int) = 1 ∨ (7 : Int) = 2 ∨ (7 : Int) = 3 ∨ (7 : Int) = 5 ∨ (7 : Int) = 6) by decide, show ¬ ((7 : Int) = 4 ∨ (7 : Int) = 9 ∨ (7 : Int) = 13) by decide, if_false, if_true, (inB_iff b 0 1000).2 h]
theorem pops_12 {i : Ins} (h : i.op = 12) : popsOf i = 1 := by unfold popsOf effT; rw [h]; simp
theorem mem_take_ok {p : ProgD} {l : List ValD} (h : ∀ y ∈ l, ValOk p y) (k : Nat) : ∀ y ∈ l.take k, ValOk p y := fun y hy => h y (List.mem_of_mem_take hy)
theorem mem_drop_ok {p : ProgD} {l : List ValD} (h : ∀ y ∈ l, ValOk p y) (k : Nat) : ∀ y ∈ l.drop k, ValOk p y := fun y hy => h y (List.mem_of_mem_drop hy)
theorem mem_set_ok {p : ProgD} {l : List ValD} (h : ∀ y ∈ l, ValOk p y) (k : Nat) {v : ValD} (hv : ValOk p v) : ∀ y ∈ l.set k v, ValOk p y := fun y hy => by
  rcases List.mem_or_eq_of_mem_set hy with h1 | rfl
  · exact h y h1
  · exact hv
theorem locals0_ok {p : ProgD} (f : ValD) {arg : ValD} (h : ValOk p arg) : ∀ y ∈ locals0 p f arg, ValOk p y := fun y hy => by
  unfold locals0 at hy
  rcases List.mem_cons.1 hy with rfl | hy
  · exact h
  · rw [(List.mem_replicate.1 hy).2]; exact valOk_default p
theorem pushP_ok {p : ProgD} (hp : GoodP p) {f : ValD} {loc l : List ValD} {i : Ins} {st : StD} {fn : FunD} {j : Nat} (hf : ValOk p f) (hl : ∀ y ∈ loc, ValOk p y) (hk : ∀ y ∈ l, ValOk p y) (hlen : l.length = popsOf i) (ho : st.out.length ≤ 1000)
    (hr : rightI p.texts.length p.funs fn.c fn.l fn.code j i = true) : ValOk p (pushP p f loc l i st).1 ∧ (pushP p f loc l i st).2.out.length ≤ 1000 ∧ (pushP p f loc l i st).2.steps = st.steps := by
  obtain ⟨r2, r3, r5, r7, r10, r11, r13, r14, r15⟩ := right_rest hr
  unfold pushP
  by_cases h1 : i.op = 1
  · rw [if_pos h1]; exact ⟨valOk_flat p _ _ _ (by decide) (by decide), ho, rfl⟩
  rw [if_neg h1]
  by_cases h2 : i.op = 2
  · rw [if_pos h2]; exact ⟨valOk_flat p _ _ _ (by decide) (by decide), ho, rfl⟩
  rw [if_neg h2]
  by_cases h3 : i.op = 3
  · rw [if_pos h3]; exact ⟨valOk_getD hl _, ho, rfl⟩
  rw [if_neg h3]
  by_cases h5 : i.op = 5
  · rw [if_pos h5]; exact ⟨valOk_getD hf.all.2.2 _, ho, rfl⟩
  rw [if_neg h5]
  by_cases h6 : i.op = 6
  · rw [if_pos h6]; exact ⟨hf, ho, rfl⟩
  rw [if_neg h6]
  by_cases h7 : i.op = 7
  · rw [if_pos h7]
    obtain ⟨⟨a0, a1⟩, hb⟩ := r7 h7
    have hc := ((head_iff _).1 (hp.head i.a.toNat (by omega))).1
    refine ⟨.mk (fun _ => ⟨a0, by omega, ?_⟩) (fun h => by cases h) hk, ho, rfl⟩
    have e : i = ⟨7, i.a, i.b⟩ := by cases i; simp only at h7; subst h7; rfl
    have hb2 : 0 ≤ i.b ∧ i.b ≤ 1000 := by rw [hb]; exact hc
    rw [hlen, e, pops_7 _ _ hb2, ← hb]
    omega
  rw [if_neg h7]
  by_cases h10 : i.op = 10
  · rw [if_pos h10]; exact ⟨.mk (fun h => by cases h) (fun h => by cases h) hk, ho, rfl⟩
  rw [if_neg h10]
  by_cases h12 : i.op = 12
  · rw [if_pos h12]
    have ha := r11 (.inr h12)
    refine ⟨.mk (fun h => by cases h) (fun _ => ⟨?_, ha.1, by omega⟩) hk, ho, rfl⟩
    rw [hlen, pops_12 h12]
    exact Nat.le_refl _
  rw [if_neg h12]
  by_cases h11 : i.op = 11
  · rw [if_pos h11]
    refine ⟨?_, ho, rfl⟩
    simp only
    split
    · exact valOk_getD (valOk_headD hk).all.2.2 _
    · exact valOk_default p
  rw [if_neg h11]
  exact applyQ_ok p st _ _ ho
theorem runP_ok {p : ProgD} (hp : GoodP p) (fuel : Int) : ∀ (g : Nat) (f : ValD) (loc stk : List ValD) (at_ : Int) (st : StD), ValOk p f → f.op = 7 → (∀ y ∈ loc, ValOk p y) → (∀ y ∈ stk, ValOk p y) → st.out.length ≤ 1000 → st.steps ≤ fuel →
    EndOk p fuel st.steps (runP p fuel g f loc stk at_ st)
  | 0, f, loc, stk, at_, st, _, _, _, _, ho, hs => ⟨valOk_default p, ho, Int.le_refl _, hs⟩
  | g + 1, f, loc, stk, at_, st, hf, h7, hl, hk, ho, hs => by
    have ih := runP_ok hp fuel g
    rw [runP]
    by_cases he : st.e ≠ 0
    · rw [if_pos he]; exact ⟨valOk_default p, ho, Int.le_refl _, hs⟩
    rw [if_neg he]
    by_cases ha : at_ < 0 ∨ ((funOf p f).code.length : Int) ≤ at_
    · rw [if_pos ha]; exact end_stop _ _ ho (Int.le_refl _) hs
    rw [if_neg ha]
    by_cases hs2 : st.steps = fuel
    · rw [if_pos hs2]; exact end_stop _ _ ho (Int.le_refl _) hs
    rw [if_neg hs2]
    obtain ⟨hr, _⟩ := ins_ok hp hf h7 ha
    generalize (funOf p f).code.getD at_.toNat default = i at *
    have ho1 : (tick st).out.length ≤ 1000 := ho
    have hs1 : (tick st).steps ≤ fuel := by show st.steps + 1 ≤ fuel; omega
    have hs0 : st.steps ≤ (tick st).steps := by show st.steps ≤ st.steps + 1; omega
    generalize tick st = st1 at *
    simp only
    by_cases hlen : stk.length < popsOf i
    · rw [if_pos hlen]; exact end_stop _ _ ho1 hs0 hs1
    rw [if_neg hlen]
    have hL := pops_len hlen
    have hd := mem_drop_ok hk (stk.length - popsOf i)
    have ht := mem_take_ok hk (stk.length - popsOf i)
    generalize stk.drop (stk.length - popsOf i) = l at *
    generalize stk.take (stk.length - popsOf i) = s2 at *
    have up : ∀ {r : ValD × StD}, EndOk p fuel st1.steps r → EndOk p fuel st.steps r := fun h => ⟨h.1, h.2.1, Int.le_trans hs0 h.2.2.1, h.2.2.2⟩
    by_cases h9 : i.op = 9
    · rw [if_pos h9]; exact ⟨valOk_headD hd, ho1, hs0, hs1⟩
    rw [if_neg h9]
    by_cases h14 : i.op = 14
    · rw [if_pos h14]; exact up (ih f loc s2 _ st1 hf h7 hl ht ho1 hs1)
    rw [if_neg h14]
    by_cases h16 : i.op = 16
    · rw [if_pos h16]; exact end_stop _ _ ho1 hs0 hs1
    rw [if_neg h16]
    by_cases h4 : i.op = 4
    · rw [if_pos h4]; exact up (ih f _ s2 _ st1 hf h7 (mem_set_ok hl _ (valOk_headD hd)) ht ho1 hs1)
    rw [if_neg h4]
    by_cases h13 : i.op = 13
    · rw [if_pos h13]
      by_cases hb : (l.headD default).op ≠ 4 ∨ i.b ≤ (l.headD default).n
      · rw [if_pos hb]; exact end_stop _ _ ho1 hs0 hs1
      · rw [if_neg hb]; exact up (ih f _ s2 _ st1 hf h7 (mem_set_ok hl _ (valOk_headD (valOk_headD hd).all.2.2)) ht ho1 hs1)
    rw [if_neg h13]
    have hR : EndOk p fuel st1.steps (if i.op = 8 then (if (l.headD default).op = 7 then runP p fuel g (l.headD default) (locals0 p (l.headD default) (l.getD 1 default)) [] 0 st1 else (default, st1)) else pushP p f loc l i st1) := by
      by_cases h8 : i.op = 8
      · rw [if_pos h8]
        by_cases h : (l.headD default).op = 7
        · rw [if_pos h]; exact ih _ _ _ _ st1 (valOk_headD hd) h (locals0_ok _ (valOk_getD hd _)) (fun _ h => by cases h) ho1 hs1
        · rw [if_neg h]; exact ⟨valOk_default p, ho1, Int.le_refl _, hs1⟩
      · rw [if_neg h8]
        obtain ⟨a1, a2, a3⟩ := pushP_ok hp hf hl hd hL ho1 hr
        exact ⟨a1, a2, by rw [a3]; exact Int.le_refl _, by rw [a3]; exact hs1⟩
    generalize (if i.op = 8 then (if (l.headD default).op = 7 then runP p fuel g (l.headD default) (locals0 p (l.headD default) (l.getD 1 default)) [] 0 st1 else (default, st1)) else pushP p f loc l i st1) = r at *
    obtain ⟨r1, r2, r3, r4⟩ := hR
    by_cases h0 : r.1.op = 0
    · rw [if_pos h0]; exact up (end_stop _ _ r2 r3 r4)
    · rw [if_neg h0]
      have hk2 : ∀ y ∈ s2 ++ [r.1], ValOk p y := fun y hy => by
        rcases List.mem_append.1 hy with h | h
        · exact ht y h
        · rw [List.mem_singleton.1 h]; exact r1
      have := ih f loc (s2 ++ [r.1]) (at_ + 1) r.2 hf h7 hl hk2 r2 r4
      exact up ⟨this.1, this.2.1, Int.le_trans r3 this.2.2.1, this.2.2.2⟩
/-- Two programs with the same code. -/
structure SameP (p q : ProgD) : Prop where
  texts : p.texts = q.texts
  main : p.main = q.main
  l : ∀ k, (p.funs.getD k default).l = (q.funs.getD k default).l
  code : ∀ k, (p.funs.getD k default).code = (q.funs.getD k default).code
theorem runP_same {p q : ProgD} (h : SameP p q) (fuel : Int) : ∀ (g : Nat) (f : ValD) (loc stk : List ValD) (at_ : Int) (st : StD), runP p fuel g f loc stk at_ st = runP q fuel g f loc stk at_ st
  | 0, _, _, _, _, _ => rfl
  | g + 1, f, loc, stk, at_, st => by
    have ih := runP_same h fuel g
    have hc : ∀ f, (funOf p f).code = (funOf q f).code := fun f => h.code _
    have hl : ∀ f a, locals0 p f a = locals0 q f a := fun f a => by unfold locals0 funOf; rw [h.l]
    have hu : ∀ f loc l i st, pushP p f loc l i st = pushP q f loc l i st := fun f loc l i st => by unfold pushP; rw [h.texts]
    rw [runP, runP]
    simp only [hc, hl, hu, ih]
section
variable (C C' : List Ins) (T T' : ByteArray → Int) (caps : Int) (clo : Int → Int → Bool)
def OneX (x : ExpD) : Prop := ∀ (loc : Int) (p : Nat), flatX caps clo loc x = true → CodeX C T loc x p → CodeX C' T' loc x p → (∀ s ∈ textsX x, T s = T' s) → ∀ j, j < clenX x → C[p + j]? = C'[p + j]?
theorem oneS : ∀ (l : List ExpD), (∀ y ∈ l, OneX C C' T T' caps clo y) → ∀ (loc : Int) (p : Nat), flatL caps clo loc loc l = true → CodeS C T loc l p → CodeS C' T' loc l p → (∀ s ∈ textsL l, T s = T' s) → ∀ j, j < clenL l → C[p + j]? = C'[p + j]?
  | [], _, _, _, _, _, _, _, j, hj => by rw [clenL_nil] at hj; omega
  | x :: r, ih, loc, p, hf, h, h', ht, j, hj => by
    rw [clenL_cons] at hj
    rw [CodeS] at h h'
    rw [flatL, Bool.and_eq_true] at hf
    rw [textsL_cons] at ht
    by_cases hx : j < clenX x
    · exact ih x (List.mem_cons_self ..) loc p hf.1 h.1 h'.1 (fun s hs => ht s (List.mem_append_left _ hs)) j hx
    · have := oneS r (fun y hy => ih y (List.mem_cons_of_mem _ hy)) loc (p + clenX x) hf.2 h.2 h'.2 (fun s hs => ht s (List.mem_append_right _ hs)) (j - clenX x) (by omega)
      rwa [show p + clenX x + (j - clenX x) = p + j by omega] at this
theorem oneB : ∀ (l : List ExpD), (∀ y ∈ l, OneX C C' T T' caps clo y) → ∀ (loc : Int) (tab p e : Nat), flatL caps clo loc loc l = true → CodeB C T loc l tab p e → CodeB C' T' loc l tab p e → (∀ s ∈ textsL l, T s = T' s) →
    (∀ j, j < l.length → C[tab + j]? = C'[tab + j]?) ∧ ∀ j, j < clenL l + (l.length - 1) → C[p + j]? = C'[p + j]?
  | [], _, _, _, _, _, _, _, _, _ => ⟨fun j hj => (Nat.not_lt_zero j hj).elim, fun j hj => (Nat.not_lt_zero j (by rw [clenL_nil] at hj; exact hj)).elim⟩
  | x :: r, ih, loc, tab, p, e, hf, h, h', ht => by
    rw [CodeB] at h h'
    rw [flatL, Bool.and_eq_true] at hf
    rw [textsL_cons] at ht
    have hr := oneB r (fun y hy => ih y (List.mem_cons_of_mem _ hy)) loc (tab + 1) (p + clenX x + 1) e hf.2 h.2.2.2 h'.2.2.2 (fun s hs => ht s (List.mem_append_right _ hs))
    refine ⟨fun j hj => ?_, fun j hj => ?_⟩
    · cases j with
      | zero => rw [Nat.add_zero, h.1, h'.1]
      | succ j =>
        have := hr.1 j (by simpa using hj)
        rwa [show tab + 1 + j = tab + (j + 1) by omega] at this
    · rw [clenL_cons, List.length_cons] at hj
      by_cases hx : j < clenX x
      · exact ih x (List.mem_cons_self ..) loc p hf.1 h.2.1 h'.2.1 (fun s hs => ht s (List.mem_append_left _ hs)) j hx
      · by_cases hn : r = []
        · subst hn; rw [clenL_nil] at hj; simp at hj; omega
        · have h0 : 0 < r.length := List.length_pos_iff.2 hn
          by_cases he : j = clenX x
          · rw [he, h.2.2.1 hn, h'.2.2.1 hn]
          · have := hr.2 (j - clenX x - 1) (by omega)
            rwa [show p + clenX x + 1 + (j - clenX x - 1) = p + j by omega] at this
theorem lastI_one {op n : Int} {s : ByteArray} {k : Nat} (h : op = 3 → T s = T' s) : lastI T op n s k = lastI T' op n s k := by
  unfold lastI
  by_cases h3 : op = 3
  · rw [h h3]
  · simp only [if_neg h3]
theorem oneX (x : ExpD) : OneX C C' T T' caps clo x := by
  induction x using ExpD.induct with
  | h op n s lv l ih =>
    intro loc p hf h h' ht j hj
    rw [flatX, Bool.and_eq_true] at hf
    rw [textsX_mk] at ht
    rw [clenX_mk] at hj
    rw [CodeX] at h h'
    by_cases h11 : op = 11
    · rw [if_pos h11] at h h'
      rw [if_neg (by omega)] at ht hj
      rw [bump_1 (.inr h11)] at hf
      cases l with
      | nil => rw [CodeLet] at h; exact h.elim
      | cons x r =>
        rw [CodeLet] at h h'
        rw [flatL, Bool.and_eq_true] at hf
        rw [textsL_cons] at ht
        rw [clenL_cons] at hj
        by_cases hx : j < clenX x
        · exact ih x (List.mem_cons_self ..) loc p hf.2.1 h.1 h'.1 (fun s hs => ht s (List.mem_append_left _ hs)) j hx
        · by_cases he : j = clenX x
          · rw [he, h.2.1, h'.2.1]
          · have := oneS C C' T T' caps clo r (fun y hy => ih y (List.mem_cons_of_mem _ hy)) (loc + 1) (p + clenX x + 1) hf.2.2 h.2.2 h'.2.2 (fun s hs => ht s (List.mem_append_right _ hs)) (j - clenX x - 1) (by omega)
            rwa [show p + clenX x + 1 + (j - clenX x - 1) = p + j by omega] at this
    · rw [if_neg h11] at h h'
      by_cases h9 : op = 9
      · rw [if_pos h9] at h h' hj
        rw [if_neg (by omega)] at ht
        rw [bump_1 (.inl h9)] at hf
        cases l with
        | nil => rw [CodeSw] at h; exact h.elim
        | cons x r =>
          rw [CodeSw] at h h'
          rw [flatL, Bool.and_eq_true] at hf
          rw [textsL_cons] at ht
          rw [clenL_cons] at hj
          simp only [List.length_cons, Nat.add_sub_cancel] at hj
          have hB := oneB C C' T T' caps clo r (fun y hy => ih y (List.mem_cons_of_mem _ hy)) (loc + 1) _ _ _ hf.2.2 h.2.2 h'.2.2 (fun s hs => ht s (List.mem_append_right _ hs))
          by_cases hx : j < clenX x
          · exact ih x (List.mem_cons_self ..) loc p hf.2.1 h.1 h'.1 (fun s hs => ht s (List.mem_append_left _ hs)) j hx
          · by_cases he : j = clenX x
            · rw [he, h.2.1, h'.2.1]
            · by_cases ht2 : j < clenX x + 1 + r.length
              · have := hB.1 (j - clenX x - 1) (by omega)
                rwa [show p + clenX x + 1 + (j - clenX x - 1) = p + j by omega] at this
              · have := hB.2 (j - clenX x - 1 - r.length) (by omega)
                rwa [show p + clenX x + 1 + r.length + (j - clenX x - 1 - r.length) = p + j by omega] at this
      · rw [if_neg h9] at h h' hj
        rw [bump_0 h9 h11, Int.add_zero] at hf
        by_cases h3 : op = 3
        · rw [if_pos h3] at ht
          have hk := (form_3 (h3 ▸ hf.1)).1
          simp only [Bool.and_eq_true, decide_eq_true_iff] at hk
          have hl : l = [] := List.eq_nil_of_length_eq_zero hk.1
          subst hl
          rw [clenL_nil] at hj h h'
          obtain rfl : j = 0 := by omega
          rw [h.2, h'.2, lastI_one T T' (fun _ => ht s (List.mem_singleton_self s))]
        · rw [if_neg h3] at ht
          by_cases hx : j < clenL l
          · exact oneS C C' T T' caps clo l ih loc p hf.2 h.1 h'.1 ht j hx
          · obtain rfl : j = clenL l := by omega
            rw [h.2, h'.2, lastI_one T T' (fun e => absurd e h3)]
end
theorem whole_one {C C' : List Ins} {T T' : ByteArray → Int} {caps : Int} {clo : Int → Int → Bool} {x : ExpD} (hf : flatX caps clo 1 x = true) (h : Whole C T x) (h' : Whole C' T' x) (ht : ∀ s ∈ textsX x, T s = T' s) : C = C' := by
  obtain ⟨a1, a2, a3⟩ := h
  obtain ⟨b1, b2, b3⟩ := h'
  have hX := oneX C C' T T' caps clo x 1 0 hf a1 b1 ht
  refine List.ext_getElem? fun j => ?_
  by_cases hj : j < clenX x
  · have := hX j hj
    rwa [Nat.zero_add] at this
  · by_cases he : j = clenX x
    · rw [he, a3, b3]
    · rw [List.getElem?_eq_none (by omega), List.getElem?_eq_none (by omega)]
theorem addT_pre (acc : List ByteArray) (s : ByteArray) : ∃ e, addT acc s = acc ++ e := by
  unfold addT
  split
  · exact ⟨[], (List.append_nil _).symm⟩
  · exact ⟨[s], rfl⟩
theorem foldT_pre : ∀ (l acc : List ByteArray), ∃ e, l.foldl addT acc = acc ++ e
  | [], acc => ⟨[], (List.append_nil _).symm⟩
  | s :: l, acc => by
    obtain ⟨e, he⟩ := addT_pre acc s
    obtain ⟨e2, he2⟩ := foldT_pre l (addT acc s)
    exact ⟨e ++ e2, by rw [List.foldl_cons, he2, he, List.append_assoc]⟩
theorem findT_pre : ∀ (a e : List ByteArray) (s : ByteArray), s ∈ a → findT (a ++ e) s = findT a s
  | [], _, _, h => by cases h
  | x :: a, e, s, h => by
    rw [List.cons_append]
    unfold findT
    by_cases hx : x = s
    · rw [if_pos hx, if_pos hx]
    · rw [if_neg hx, if_neg hx, findT_pre a e s (by rcases List.mem_cons.1 h with g | g; exact absurd g.symm hx; exact g)]
theorem mem_addT (acc : List ByteArray) (s : ByteArray) : s ∈ addT acc s := by
  unfold addT
  split
  · rename_i h
    cases hf : findT acc s with
    | none => rw [hf] at h; cases h
    | some i =>
      have := findT_some hf
      exact Classical.byContradiction fun hn => by rw [findT_none.2 hn] at hf; cases hf
  · simp
theorem mem_foldT : ∀ (l acc : List ByteArray) (s : ByteArray), s ∈ l → s ∈ l.foldl addT acc
  | [], _, _, h => by cases h
  | x :: l, acc, s, h => by
    rw [List.foldl_cons]
    rcases List.mem_cons.1 h with rfl | g
    · obtain ⟨e, he⟩ := foldT_pre l (addT acc s)
      rw [he]; exact List.mem_append_left _ (mem_addT acc s)
    · exact mem_foldT l _ s g
/-- The texts of a function's body have their places once and for all. -/
theorem textT_later (acc : List ByteArray) (l m : List ByteArray) (s : ByteArray) (h : s ∈ l) : textT ((l ++ m).foldl addT acc) s = textT (l.foldl addT acc) s := by
  rw [List.foldl_append]
  obtain ⟨e, he⟩ := foldT_pre m (l.foldl addT acc)
  unfold textT
  rw [he, findT_pre _ _ _ (mem_foldT l acc s h)]
theorem foldT_len (l m acc : List ByteArray) : (l.foldl addT acc).length ≤ ((l ++ m).foldl addT acc).length := by
  rw [List.foldl_append]
  obtain ⟨e, he⟩ := foldT_pre m (l.foldl addT acc)
  rw [he, List.length_append]; omega
end Go.Proofs.YtidolpcbbbakmaaGreat
