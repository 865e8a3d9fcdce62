/- Part of the proof; its texts: Rz1. -/
import Derived.Test.YtbcfdebdikgijaaGreatDoorS27
import Derived.Recover
set_option maxRecDepth 100000
set_option linter.unusedVariables false
set_option linter.unusedSimpArgs false
set_option maxHeartbeats 1000000
namespace Go.Proofs.YtbcfdebdikgijaaGreatDoor
open Go Go.RowKit
theorem pG (v : Value) (xT : TypeId) (w : World) : (Instr.typeAssert (.iface 77 v) xT 77 true).run Tryz.prog w = .ok (.tuple #[v, .bool true]) w := by kernel_rfl
theorem kE (xT : TypeId) (w : World) : (Instr.typeAssert .nilIface xT 77 true).run Tryz.prog w = .ok (.tuple #[.agg #[.int .i64 0, .int .i64 0], .bool false]) w := by kernel_rfl
def Q7 : Array Value := #[.int .i64 0, .int .i64 0, .int .i64 0, .int .i64 0, .int .i64 0, .string ⟨#[]⟩, .slice none 0 0, .slice none 0 0, .slice none 0 0]
theorem yD (p q r : Value) (w : World) :
 CallsD Tryz.prog 29 #[p, q, r] .returning w fun e u' w' => e = .returned (.tuple #[]) /\ u' = .returning /\ w.grownBy w' none := by
 refine callsD_of_wpS Tryz.func29 rfl fun c₀ cs hu => ?_
 simp only [Tryz.ntmps29, List.size_toArray, List.length_cons, List.length_nil, Nat.reduceAdd, Nat.reduceSub, Array.replicate_succ, Array.replicate_zero, List.push_toArray, List.append_toArray, List.nil_append, List.cons_append]
 apply wpS_seq
 apply wpS_region
 simp [wpOpsS, go_sem, recoverD, hu, Exit.thenS, kE]
 apply wpS_seq
 apply wpS_region
 simp [wpOpsS, go_sem, Exit.thenS]
 refine wpS_cond (t := false) (by simp [Act.eval]) ?_
 simp only [Bool.false_eq_true, if_false]
 refine wpS_of_wp (wp_skip ?_)
 cases c₀
 have g := Z8 w (.cells #[.int .i64 0, .int .i64 0] 77)
 simp_all [bodyPostS, results, Tryz.results29]
theorem KO (pb qb rb mb : Nat) (o n : Int) (fv : Value) (oa : Option Addr) (ol oc : Nat) (fe : Int) (st : Xa) (x : Value) (older : List PanicEntry) (w : World) (hp : w.heap[pb]? = some (.cells #[.pointer (some ⟨mb, 0, none⟩)] 73 (0, 0))) (hm : w.heap[mb]? = some (.cells (tK fv fe st (.slice oa ol oc)) 75 (0, 0))) (hq : w.heap[qb]? = some (.cells Q7 45 (0, 0))) (hr : w.heap[rb]? = some (.cells #[x] 30 (0, 0))) :
 CallsD Tryz.prog 29 #[.pointer (some ⟨pb, 0, none⟩), .pointer (some ⟨qb, 0, none⟩), .pointer (some ⟨rb, 0, none⟩)] (.panicking ({ v := .iface 77 (.agg #[.int .i64 o, .int .i64 n]), recovered := false } :: older)) w fun e u' w' =>
  e = .returned (.tuple #[]) /\ u' = .panicking ({ v := .iface 77 (.agg #[.int .i64 o, .int .i64 n]), recovered := true } :: older) /\ w'.heap[qb]? = some (.cells #[.int .i64 o, .int .i64 n, .int .i64 st.steps, .int .i64 0, .int .i64 0, .string ⟨#[]⟩, .slice none 0 0, .slice none 0 0, .slice oa ol oc] 45 (0, 0)) /\ w'.heap[rb]? = some (.cells #[.int .i64 0] 30 (0, 0)) /\ w'.heap.size = w.heap.size + 1 /\ (w'.os = w.os /\ w'.tape = w.tape /\ w'.output = w.output) /\ ∀ b, b < w.heap.size -> b ≠ qb -> b ≠ rb -> w'.heap[b]? = w.heap[b]? := by
 have hc := (one_cell hp).1
 obtain ⟨m0, m1, m2, m3⟩ := YV hm
 refine callsD_of_wpS Tryz.func29 rfl fun c₀ cs hu => ?_
 simp only [Tryz.ntmps29, List.size_toArray, List.length_cons, List.length_nil, Nat.reduceAdd, Nat.reduceSub, Array.replicate_succ, Array.replicate_zero, List.push_toArray, List.append_toArray, List.nil_append, List.cons_append]
 apply wpS_seq
 apply wpS_region
 simp [wpOpsS, go_sem, recoverD, hu, Exit.thenS, pG]
 apply wpS_seq
 apply wpS_region
 simp [wpOpsS, go_sem, Exit.thenS]
 refine wpS_cond (t := true) (by simp [Act.eval]) ?_
 simp only [if_true]
 refine wpS_of_wp ?_
 have g := both (Z8 w (.cells #[.int .i64 o, .int .i64 n] 77)) (Z4 _)
 have hzA : (w.alloc (.cells #[.int .i64 o, .int .i64 n] 77)).drew.heap.size = w.heap.size + 1 := by show (w.alloc (.cells #[.int .i64 o, .int .i64 n] 77)).heap.size = _; simp
 have k : ∀ b, b < w.heap.size -> (w.alloc (.cells #[.int .i64 o, .int .i64 n] 77)).drew.heap[b]? = w.heap[b]? := fun b hb => g.block b hb (by nofun)
 have lq := Z6 hq
 have lp := Z6 hp
 have lm := Z6 hm
 have lr := Z6 hr
 have npq : pb ≠ qb := fun e => by rw [e, hq] at hp; exact absurd (Obj.cells.inj (Option.some.inj hp)).2.1 (by decide)
 have nmq : mb ≠ qb := fun e => by rw [e, hq] at hm; exact absurd (Obj.cells.inj (Option.some.inj hm)).2.1 (by decide)
 have eT : rb ≠ qb := fun e => by rw [e, hq] at hr; exact absurd (Obj.cells.inj (Option.some.inj hr)).2.1 (by decide)
 have nrp : rb ≠ pb := fun e => by rw [e, hp] at hr; exact absurd (Obj.cells.inj (Option.some.inj hr)).2.1 (by decide)
 have nrm : rb ≠ mb := fun e => by rw [e, hm] at hr; exact absurd (Obj.cells.inj (Option.some.inj hr)).2.1 (by decide)
 have hn0 : (w.alloc (.cells #[.int .i64 o, .int .i64 n] 77)).drew.heap[w.heap.size]? = some (.cells #[.int .i64 o, .int .i64 n] 77 (0, 0)) := Zn w _
 have hq1 := (k qb lq).trans hq
 have of1 : ∀ W : World, (∀ b, b < w.heap.size + 1 -> b ≠ qb -> b ≠ rb -> W.heap[b]? = (w.alloc (.cells #[.int .i64 o, .int .i64 n] 77)).drew.heap[b]?) -> W.cell? ⟨w.heap.size, 0, none⟩ = some (.int .i64 o) /\ W.cell? ⟨w.heap.size, 1, none⟩ = some (.int .i64 n) /\ W.cell? ⟨pb, 0, none⟩ = some (.pointer (some ⟨mb, 0, none⟩)) /\ W.cell? ⟨mb, 2, none⟩ = some (.int .i64 st.steps) /\ W.cell? ⟨mb, 3, none⟩ = some (.slice oa ol oc) := fun W hW => by
  have e0 := (hW w.heap.size (by omega) (by omega) (by omega)).trans hn0; have e1 := (hW pb (by omega) npq (Ne.symm nrp)).trans ((k pb lp).trans hp); obtain ⟨_, _, e2, e3⟩ := YV ((hW mb (by omega) nmq (Ne.symm nrm)).trans ((k mb lm).trans hm)); refine ⟨(Zk _ _ 0 _ _ _ e0).trans rfl, (Zk _ _ 1 _ _ _ e0).trans rfl, (one_cell e1).1, e2, e3⟩
 have s0 := of1 (w.alloc (.cells #[.int .i64 o, .int .i64 n] 77)).drew (fun b _ _ _ => rfl)
 have s1 := of1 ((w.alloc (.cells #[.int .i64 o, .int .i64 n] 77)).drew.setRow qb #[.int .i64 o, .int .i64 n, .int .i64 st.steps, .int .i64 0, .int .i64 0, .string ⟨#[]⟩, .slice none 0 0, .slice none 0 0, .slice oa ol oc]) (fun b _ h1 _ => WM _ _ _ _ h1)
 have hW1 : ∀ b, b ≠ qb -> ((w.alloc (.cells #[.int .i64 o, .int .i64 n] 77)).drew.setRow qb #[.int .i64 o, .int .i64 n, .int .i64 st.steps, .int .i64 0, .int .i64 0, .string ⟨#[]⟩, .slice none 0 0, .slice none 0 0, .slice oa ol oc]).heap[b]? = (w.alloc (.cells #[.int .i64 o, .int .i64 n] 77)).drew.heap[b]? := fun b h1 => WM _ _ _ _ h1
 have hr1 := (hW1 rb eT).trans ((k rb lr).trans hr)
 have gs := Zv ((w.alloc (.cells #[.int .i64 o, .int .i64 n] 77)).drew.setRow qb #[.int .i64 o, .int .i64 n, .int .i64 st.steps, .int .i64 0, .int .i64 0, .string ⟨#[]⟩, .slice none 0 0, .slice none 0 0, .slice oa ol oc]) rb 0 (.int .i64 0)
 have hz1 : ((w.alloc (.cells #[.int .i64 o, .int .i64 n] 77)).drew.setRow qb #[.int .i64 o, .int .i64 n, .int .i64 st.steps, .int .i64 0, .int .i64 0, .string ⟨#[]⟩, .slice none 0 0, .slice none 0 0, .slice oa ol oc]).heap.size = w.heap.size + 1 := by rw [setRow_size]; exact hzA
 have s2 := of1 (((w.alloc (.cells #[.int .i64 o, .int .i64 n] 77)).drew.setRow qb #[.int .i64 o, .int .i64 n, .int .i64 st.steps, .int .i64 0, .int .i64 0, .string ⟨#[]⟩, .slice none 0 0, .slice none 0 0, .slice oa ol oc]).setCell ⟨rb, 0, none⟩ (.int .i64 0)) (fun b hb h1 h2 => (gs.block b (by omega) (fun e => h2 (Option.some.inj e))).trans (hW1 b h1))
 have fz := Lib.frozen_of_heap hr1 0
 have hrc := (one_cell hr1).1
 have hz2 : (((w.alloc (.cells #[.int .i64 o, .int .i64 n] 77)).drew.setRow qb #[.int .i64 o, .int .i64 n, .int .i64 st.steps, .int .i64 0, .int .i64 0, .string ⟨#[]⟩, .slice none 0 0, .slice none 0 0, .slice oa ol oc]).setCell ⟨rb, 0, none⟩ (.int .i64 0)).heap.size = w.heap.size + 1 := by rw [World.size_setCell]; exact hz1
 have kI : Hid ((((w.alloc (.cells #[.int .i64 o, .int .i64 n] 77)).drew.setRow qb #[.int .i64 o, .int .i64 n, .int .i64 st.steps, .int .i64 0, .int .i64 0, .string ⟨#[]⟩, .slice none 0 0, .slice none 0 0, .slice oa ol oc]).setCell ⟨rb, 0, none⟩ (.int .i64 0)).heap[qb]? = some (.cells #[.int .i64 o, .int .i64 n, .int .i64 st.steps, .int .i64 0, .int .i64 0, .string ⟨#[]⟩, .slice none 0 0, .slice none 0 0, .slice oa ol oc] 45 (0, 0)) /\ (((w.alloc (.cells #[.int .i64 o, .int .i64 n] 77)).drew.setRow qb #[.int .i64 o, .int .i64 n, .int .i64 st.steps, .int .i64 0, .int .i64 0, .string ⟨#[]⟩, .slice none 0 0, .slice none 0 0, .slice oa ol oc]).setCell ⟨rb, 0, none⟩ (.int .i64 0)).heap[rb]? = some (.cells #[.int .i64 0] 30 (0, 0)) /\ (((w.alloc (.cells #[.int .i64 o, .int .i64 n] 77)).drew.setRow qb #[.int .i64 o, .int .i64 n, .int .i64 st.steps, .int .i64 0, .int .i64 0, .string ⟨#[]⟩, .slice none 0 0, .slice none 0 0, .slice oa ol oc]).setCell ⟨rb, 0, none⟩ (.int .i64 0)).heap.size = w.heap.size + 1 /\ ((((w.alloc (.cells #[.int .i64 o, .int .i64 n] 77)).drew.setRow qb #[.int .i64 o, .int .i64 n, .int .i64 st.steps, .int .i64 0, .int .i64 0, .string ⟨#[]⟩, .slice none 0 0, .slice none 0 0, .slice oa ol oc]).setCell ⟨rb, 0, none⟩ (.int .i64 0)).os = w.os /\ (((w.alloc (.cells #[.int .i64 o, .int .i64 n] 77)).drew.setRow qb #[.int .i64 o, .int .i64 n, .int .i64 st.steps, .int .i64 0, .int .i64 0, .string ⟨#[]⟩, .slice none 0 0, .slice none 0 0, .slice oa ol oc]).setCell ⟨rb, 0, none⟩ (.int .i64 0)).tape = w.tape /\ (((w.alloc (.cells #[.int .i64 o, .int .i64 n] 77)).drew.setRow qb #[.int .i64 o, .int .i64 n, .int .i64 st.steps, .int .i64 0, .int .i64 0, .string ⟨#[]⟩, .slice none 0 0, .slice none 0 0, .slice oa ol oc]).setCell ⟨rb, 0, none⟩ (.int .i64 0)).output = w.output) /\ ∀ b, b < w.heap.size -> b ≠ qb -> b ≠ rb -> (((w.alloc (.cells #[.int .i64 o, .int .i64 n] 77)).drew.setRow qb #[.int .i64 o, .int .i64 n, .int .i64 st.steps, .int .i64 0, .int .i64 0, .string ⟨#[]⟩, .slice none 0 0, .slice none 0 0, .slice oa ol oc]).setCell ⟨rb, 0, none⟩ (.int .i64 0)).heap[b]? = w.heap[b]?) := Z9
  ⟨(gs.block qb (by omega) (fun e => eT (Option.some.inj e).symm)).trans (Zd _ _ _ #[.int .i64 o, .int .i64 n, .int .i64 st.steps, .int .i64 0, .int .i64 0, .string ⟨#[]⟩, .slice none 0 0, .slice none 0 0, .slice oa ol oc] _ _ hq1), ZL (i := 0) hr1 (.int .i64 0), hz2, ⟨gs.os.trans g.os, gs.tape.trans g.tape, gs.output.trans g.output⟩, fun b hb h1 h2 => (gs.block b (by omega) (fun e => h2 (Option.some.inj e))).trans ((hW1 b h1).trans (k b hb))⟩
 clear hp hm hr hq hc m0 m1 m2 m3 g hzA k hn0 of1 hW1 hr1 gs hz1 hz2
 refine XG (S := (fun w9 => w9.cell? ⟨w.heap.size, 0, none⟩ = some (.int .i64 o) /\ w9.cell? ⟨w.heap.size, 1, none⟩ = some (.int .i64 n) /\ w9.cell? ⟨pb, 0, none⟩ = some (.pointer (some ⟨mb, 0, none⟩)) /\ w9.cell? ⟨mb, 2, none⟩ = some (.int .i64 st.steps) /\ w9.cell? ⟨mb, 3, none⟩ = some (.slice oa ol oc))) (by kernel_rfl) s0 (fun hHeld => ?_)
 refine tks (b := ?_) (by kernel_rfl) (fun _ _ _ _ _ h => h) s0 13 [0, 1, 2, 3, 4, 5, 6, 7, 8, 9, 10, 11, 12] (by kernel_rfl) ?_ ?_
 rotate_left
 ·iterate 13 (refine yc (v := ?_) rfl rfl (by rfl) (fun w9 hSw => ?_) ?_; rotate_left; (focus go_simp; try rfl); simp only [Act.put, Zj, Zi, Zh])
  exact rfl
 refine rd1 13 (by kernel_rfl) rfl fun K hK => ?_
 refine wp_store_row 45 _ _ rfl qb #[.int .i64 o, .int .i64 n, .int .i64 st.steps, .int .i64 0, .int .i64 0, .string ⟨#[]⟩, .slice none 0 0, .slice none 0 0, .slice oa ol oc] rfl rfl 45 Q7 hq1 VH rfl (ZO _ rfl) ?_
 refine hK.out _ _ s1 (fun _ => ?_)
 clear hK K
 refine rd1 14 (by kernel_rfl) rfl fun K hK => ?_
 go_simp
 refine hK.out _ _ s2 (fun _ => ?_)
 clear hK K
 refine X3 (by kernel_rfl) ?_ _
 refine ⟨rfl, _, rfl, _, results_none rfl _ _ _, rfl, rfl, kI.out⟩
end Go.Proofs.YtbcfdebdikgijaaGreatDoor
