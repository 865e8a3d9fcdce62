/- The reference's Parse: what is plain, and the state. -/
import Derived.Test.YtidffjlpldalpaaGreatDoorT30
import Derived.Test.YtidffjlpldalpaaGreatDoorT31
import Derived.Test.YtidffjlpldalpaaGreatDoorT16
set_option linter.unusedVariables false
set_option linter.unusedSimpArgs false
namespace Go.Proofs.YtidffjlpldalpaaGreatDoor
open Go Go.RowKit

/-- The reference's look at a line, parted. -/
def kR (first : Bool) (a : List UInt8) (r : List (List UInt8)) (d : List UInt8) : LineK :=
  if ((a == wMain) == first) = false then .bad
  else if a = wString then (if r.isEmpty = true then .bad else match unqU d with | some t => .text t | none => .bad)
  else match numsU r with
    | none => .bad
    | some l => if a = wMain ∧ l.length = 1 then .main (l.getD 0 0) else if a = wFun ∧ l.length = 3 then .fn (l.getD 0 0) (l.getD 1 0) (l.getD 2 0)
      else if opU a = 0 then .bad else insU' (opU a) (some l)
theorem line_kR (first : Bool) (L a : List UInt8) (r : List (List UInt8)) (d : List UInt8) (ha : (spl 32 L).headD [] = a) (hr : (spl 32 L).tail = r) (hd : L.drop (a.length + 1) = d) : lineP first L = kR first a r d := by
  rw [line_same]; unfold lineR kR; simp only [ha, hr, hd]; rfl
theorem kR_wrong {first : Bool} {a d : List UInt8} {r : List (List UInt8)} (h : (a == wMain) ≠ first) : kR first a r d = .bad := by
  unfold kR; rw [if_pos (by cases hq : (a == wMain) <;> cases first <;> simp_all)]
theorem kR_right {first : Bool} {a d : List UInt8} {r : List (List UInt8)} (h : (a == wMain) = first) : kR first a r d = (if a = wString then (if r.isEmpty = true then .bad else match unqU d with | some t => .text t | none => .bad)
  else match numsU r with
    | none => .bad
    | some l => if a = wMain ∧ l.length = 1 then .main (l.getD 0 0) else if a = wFun ∧ l.length = 3 then .fn (l.getD 0 0) (l.getD 1 0) (l.getD 2 0)
      else if opU a = 0 then .bad else insU' (opU a) (some l)) := by
  unfold kR; rw [if_neg (by rw [h]; simp)]
theorem kR_string {a d : List UInt8} {r : List (List UInt8)} {first : Bool} (h : (a == wMain) = first) (hs : a = wString) : kR first a r d = if r.isEmpty = true then .bad else match unqU d with | some t => .text t | none => .bad := by
  rw [kR_right h, if_pos hs]
theorem kR_none {a d : List UInt8} {r : List (List UInt8)} {first : Bool} (h : (a == wMain) = first) (hs : a ≠ wString) (hn : numsU r = none) : kR first a r d = .bad := by
  rw [kR_right h, if_neg hs, hn]
theorem kR_main {a d : List UInt8} {r : List (List UInt8)} {first : Bool} {l : List Int} (h : (a == wMain) = first) (hs : a ≠ wString) (hn : numsU r = some l) (hm : a = wMain) (hl : l.length = 1) : kR first a r d = .main (l.getD 0 0) := by
  rw [kR_right h, if_neg hs, hn]; simp only; rw [if_pos ⟨hm, hl⟩]
theorem kR_fun {a d : List UInt8} {r : List (List UInt8)} {first : Bool} {l : List Int} (h : (a == wMain) = first) (hs : a ≠ wString) (hn : numsU r = some l) (hm : ¬ (a = wMain ∧ l.length = 1)) (hf : a = wFun) (hl : l.length = 3) : kR first a r d = .fn (l.getD 0 0) (l.getD 1 0) (l.getD 2 0) := by
  rw [kR_right h, if_neg hs, hn]; simp only; rw [if_neg hm, if_pos ⟨hf, hl⟩]
theorem kR_ins {a d : List UInt8} {r : List (List UInt8)} {first : Bool} {l : List Int} (h : (a == wMain) = first) (hs : a ≠ wString) (hn : numsU r = some l) (hm : ¬ (a = wMain ∧ l.length = 1)) (hf : ¬ (a = wFun ∧ l.length = 3)) : kR first a r d = if opU a = 0 then .bad else insU' (opU a) (some l) := by
  rw [kR_right h, if_neg hs, hn]; simp only; rw [if_neg hm, if_neg hf]

/-- The program lies in a block of its own; the result is empty. -/
structure RSt (w V : World) (pb : Nat) (fv tv : Value) (main : Int) : Prop where
  below : Below w.heap.size w V
  lp : w.heap.size < pb
  pr : V.heap[pb]? = some (.cells #[fv, tv, .int .i64 main] 25 (0, 0))
  rs : V.heap[w.heap.size]? = some (.cells #[.slice none 0 0, .slice none 0 0, .int .i64 0] 25 (0, 0))
theorem RSt.lt {w V : World} {pb : Nat} {fv tv : Value} {main : Int} (h : RSt w V pb fv tv main) : pb < V.heap.size := heap_lt h.pr
theorem RSt.grown {w V V' : World} {pb : Nat} {fv tv : Value} {main : Int} {r : Option Nat} (h : RSt w V pb fv tv main) (hg : V.grownBy V' r) (hr : ∀ k, r = some k → pb < k) : RSt w V' pb fv tv main := by
  have hlt := h.lt
  have hlp := h.lp
  exact ⟨h.below.trans (grown_under hg (by omega) (fun k hk => by have := hr k hk; omega)), hlp, (hg.block _ hlt (fun e => by have := hr _ e.symm; omega)).trans h.pr, (hg.block _ (by omega) (fun e => by have := hr _ e.symm; omega)).trans h.rs⟩
theorem RSt.set {w V : World} {pb : Nat} {fv tv : Value} {main : Int} (h : RSt w V pb fv tv main) (i : Nat) (u : Value) {fv' tv' : Value} {main' : Int} (he : (#[fv, tv, .int .i64 main] : Array Value).setIfInBounds i u = #[fv', tv', .int .i64 main']) : RSt w (V.setCell ⟨pb, i, none⟩ u) pb fv' tv' main' := by
  have hg := grown_set V pb i u
  have hlt := h.lt
  have hlp := h.lp
  refine ⟨h.below.trans (grown_under hg (by omega) (fun k hk => by cases hk; omega)), hlp, ?_, ?_⟩
  · rw [heap_set_same h.pr]; exact congrArg (fun a => some (Obj.cells a 25 (0, 0))) he
  · exact (hg.block _ (by omega) (fun e => by have := Option.some.inj e; omega)).trans h.rs
theorem RSt.ret {w V : World} {pb : Nat} {fv0 tv0 : Value} {main0 : Int} (h : RSt w V pb fv0 tv0 main0) (fv tv : Value) (main : Int) : (((V.setCell ⟨w.heap.size, 0, none⟩ fv).setCell ⟨w.heap.size, 1, none⟩ tv).setCell ⟨w.heap.size, 2, none⟩ (.int .i64 main)).heap[w.heap.size]? = some (.cells #[fv, tv, .int .i64 main] 25 (0, 0)) ∧ V.grownBy (((V.setCell ⟨w.heap.size, 0, none⟩ fv).setCell ⟨w.heap.size, 1, none⟩ tv).setCell ⟨w.heap.size, 2, none⟩ (.int .i64 main)) (some w.heap.size) :=
  ⟨(heap_set_same (heap_set_same (heap_set_same h.rs _) _) _), grown_both (grown_both (grown_set V w.heap.size 0 fv) (grown_set _ w.heap.size 1 tv)) (grown_set _ w.heap.size 2 (.int .i64 main))⟩
/-- An end with an error. -/
theorem RSt.fail {w V : World} {pb : Nat} {fv0 tv0 : Value} {main0 : Int} (h : RSt w V pb fv0 tv0 main0) : (((V.setCell ⟨w.heap.size, 0, none⟩ (.slice none 0 0)).setCell ⟨w.heap.size, 1, none⟩ (.slice none 0 0)).setCell ⟨w.heap.size, 2, none⟩ (.int .i64 0)).heap[w.heap.size]? = some (.cells #[.slice none 0 0, .slice none 0 0, .int .i64 0] 25 (0, 0)) ∧ Below w.heap.size w (((V.setCell ⟨w.heap.size, 0, none⟩ (.slice none 0 0)).setCell ⟨w.heap.size, 1, none⟩ (.slice none 0 0)).setCell ⟨w.heap.size, 2, none⟩ (.int .i64 0)) := by
  obtain ⟨hh, hr⟩ := h.ret (.slice none 0 0) (.slice none 0 0) 0
  have hlt := h.lt
  have hlp := h.lp
  exact ⟨hh, h.below.trans (grown_under hr (by omega) (fun z hz => by cases hz; exact Nat.le_refl _))⟩
/-- The end with the program. -/
theorem RSt.done {w V : World} {pb : Nat} {fv tv : Value} {main : Int} (h : RSt w V pb fv tv main) {p : ProgD} (hP : IsProg V fv tv p) :
    Below w.heap.size w (((V.setCell ⟨w.heap.size, 0, none⟩ fv).setCell ⟨w.heap.size, 1, none⟩ tv).setCell ⟨w.heap.size, 2, none⟩ (.int .i64 main)) ∧ IsProg (((V.setCell ⟨w.heap.size, 0, none⟩ fv).setCell ⟨w.heap.size, 1, none⟩ tv).setCell ⟨w.heap.size, 2, none⟩ (.int .i64 main)) fv tv p := by
  have hr := (h.ret fv tv main).2
  have hlt := h.lt
  have hlp := h.lp
  exact ⟨h.below.trans (grown_under hr (by omega) (fun z hz => by cases hz; exact Nat.le_refl _)), hP.store h.rs hr⟩
theorem r_start {w V : World} (hb : Below w.heap.size w V) (hrs : V.heap[w.heap.size]? = some (.cells #[.slice none 0 0, .slice none 0 0, .int .i64 0] 25 (0, 0))) : RSt w (V.alloc (.cells #[.slice none 0 0, .slice none 0 0, .int .i64 0] 25)) V.heap.size (.slice none 0 0) (.slice none 0 0) 0 :=
  ⟨hb.alloc (by have := heap_lt hrs; omega) _, heap_lt hrs, new_heap V _, (Below.heap_alloc _ _ _ (heap_lt hrs)).trans hrs⟩
/-- Take number i first; its temporary is d. -/
theorem held_take {P : Program} {ops : Array Oper} {Q : Exit → Act → World → Prop} {md : Region.Mode} {S : World → Prop} {fuel : Nat} {listed : Array Bool} {a : Act} {w : World} (i d : Nat) (v : Value) {oi : Oper} (hi : ops[i]? = some oi) (hd : oi.dst = some d)
    (hs : Region.noSelect ops = true) (hf : Region.free md ops listed i = true) (hr : (Region.ready md ops listed).contains i = true)
    (hQ : ∀ c a w, Q (.panic c) (a.put oi.dst v) w → Q (.panic c) a w) (hy : YieldsIf P ops S oi v a) (hS : S w)
    (h : wpAnyH P md ops Q S fuel (listed.setIfInBounds i true) (a.put (some d) v) w) : wpAnyH P md ops Q S (fuel + 1) listed a w :=
  wpAnyH_take hi hs hf hr hQ hy hS (by rw [hd]; exact h)
/-- What the loads of an append of an instruction meet. -/
structure SI (pb xb : Nat) (v x y z : Value) (V : World) : Prop where
  c0 : V.cell? ⟨pb, 0, none⟩ = some v
  x0 : V.cell? ⟨xb, 0, none⟩ = some x
  x1 : V.cell? ⟨xb, 1, none⟩ = some y
  x2 : V.cell? ⟨xb, 2, none⟩ = some z
  lp : pb < V.heap.size
  lx : xb < V.heap.size
theorem SI.grown {pb xb : Nat} {v x y z : Value} {V V' : World} {r : Option Nat} (h : SI pb xb v x y z V) (hg : V.grownBy V' r) (hp : r ≠ some pb) (hx : r ≠ some xb) : SI pb xb v x y z V' :=
  have e1 := hg.block pb h.lp (fun e => hp e.symm)
  have e2 := hg.block xb h.lx (fun e => hx e.symm)
  ⟨(World.cell?_of_block (a := ⟨pb, 0, none⟩) e1).trans h.c0, (World.cell?_of_block (a := ⟨xb, 0, none⟩) e2).trans h.x0, (World.cell?_of_block (a := ⟨xb, 1, none⟩) e2).trans h.x1, (World.cell?_of_block (a := ⟨xb, 2, none⟩) e2).trans h.x2, Nat.lt_of_lt_of_le h.lp hg.size, Nat.lt_of_lt_of_le h.lx hg.size⟩
/-- What the loads of an append of a function meet. -/
structure SA (b off : Nat) (x y z : Value) (V : World) : Prop where
  x0 : V.cell? ⟨b, off, none⟩ = some x
  x1 : V.cell? ⟨b, off + 1, none⟩ = some y
  x2 : V.cell? ⟨b, off + 2, none⟩ = some z
  lx : b < V.heap.size
theorem SA.grown {b off : Nat} {x y z : Value} {V V' : World} {r : Option Nat} (h : SA b off x y z V) (hg : V.grownBy V' r) (hx : r ≠ some b) : SA b off x y z V' :=
  have e := hg.block b h.lx (fun e => hx e.symm)
  ⟨(World.cell?_of_block (a := ⟨b, off, none⟩) e).trans h.x0, (World.cell?_of_block (a := ⟨b, off + 1, none⟩) e).trans h.x1, (World.cell?_of_block (a := ⟨b, off + 2, none⟩) e).trans h.x2, Nat.lt_of_lt_of_le h.lx hg.size⟩
theorem grown_drawn {V V' : World} {r : Option Nat} (h : V.drew.grownBy V' r) : V.grownBy V' r := ⟨h.os, h.tape, h.output, h.size, h.block⟩
theorem step_ins_none (p : ProgS) (op : Int) (l : Option (List Int)) (hp : p.funs = []) : stepT p (insU' op l) = none := by
  unfold insU'
  cases l with
  | none => rfl
  | some l =>
    simp only
    split
    · simp [stepT, hp]
    · rfl
theorem par_bad {l : List UInt8} (h : readT l = none) : (zeroS, (3 : Int)) = parT l := by unfold parT; rw [h]; rfl
end Go.Proofs.YtidffjlpldalpaaGreatDoor
