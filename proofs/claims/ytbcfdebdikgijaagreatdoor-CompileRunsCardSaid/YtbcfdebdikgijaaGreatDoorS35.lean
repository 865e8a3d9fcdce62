/- Part of the proof; its texts: Rz2 Rz3. -/
import Derived.Test.YtbcfdebdikgijaaGreatDoorS28
import Derived.Test.YtbcfdebdikgijaaGreatDoorS34
set_option maxRecDepth 100000
set_option linter.unusedVariables false
set_option linter.unusedSimpArgs false
set_option maxHeartbeats 4000000
namespace Go.Proofs.YtbcfdebdikgijaaGreatDoor
open Go Go.RowKit
def Hu (fl : List ZJ) (main : Nat) (fe : Int) : Ke :=
 match Y1 fl fe (fe.toNat + 1) (fl.getD main default).body (.mk 7 main ⟨#[]⟩ []) [.mk 3 0 ⟨#[]⟩ []] ⟨0, []⟩ with
 | .stop o n st => ⟨o, n, st.steps, .mk 0 0 ⟨#[]⟩ [], st.out⟩
 | .ok v st => if (UH 400 v 20000).2 < 0 then ⟨2, 2, st.steps, .mk 0 0 ⟨#[]⟩ [], st.out⟩ else ⟨1, 0, st.steps, (UH 400 v 20000).1, st.out⟩
def rP (o : Ke) (w : World) (e : Ending) (w' : World) : Prop := ∃ (y : Z0) (ov : Value), e = .returned (.tuple #[.agg (QC o y ov), .int .i64 0]) /\ ZW y = o.v /\ Pm 0 none w' y /\ (∃ B, w'.ownsRow B 9 1 ov o.out.length (strCells o.out)) /\ Below w.heap.size w w'
theorem Uf {fn : Func} {p u : Tmp} {ty ty2 : TypeId} {P : Program} (h : fn.results = #[.cell p ty, .cell u ty2]) (tmps : Array Value) (w : World) (g g2 : Nat) (cs : Array Value) (n : Int)
 (hp : tmps.getD p undef = .pointer (some ⟨g, 0, none⟩)) (hg : (loadVar ty ⟨g, 0, none⟩).run P w = .ok (.agg cs) w)
 (hp2 : tmps.getD u undef = .pointer (some ⟨g2, 0, none⟩)) (hl : ((loadVar ty2 ⟨g2, 0, none⟩).run P w) = .ok (.int .i64 n) w) :
 (results fn tmps).run P w = .ok (.tuple #[.agg cs, .int .i64 n]) w := by
 have hp' : tmps[p]?.getD undef = .pointer (some ⟨g, 0, none⟩) := by simpa using hp
 have hp2' : tmps[u]?.getD undef = .pointer (some ⟨g2, 0, none⟩) := by simpa using hp2
 simp [results, h, hp', hp2', asAddr, hg, hl]
theorem QA {P : Program} {fn : Func} {t1 t2 : Array Value} {R : Ending -> World -> Prop} (h : results fn t1 = results fn t2) : ∀ (ds : List Deferred) (u : FrameMode) (w : World), Leaves P fn t1 R ds u w -> Leaves P fn t2 R ds u w
 | [], .returning, w => fun ⟨v, h1, h2⟩ => ⟨v, by rw [<- h]; exact h1, h2⟩
 | [], .panicking _, _ => fun h1 => h1
 | [], .run, _ => fun h1 => h1
 | d :: ds, u, w => fun ⟨h1, fv, cap, f, args, h2, h3, h4⟩ => ⟨h1, fv, cap, f, args, h2, h3, h4.mono fun e u' w' h5 => by
   cases e with
   | returned v => exact QA h ds _ _ h5
   | panicked c => exact QA h ds _ _ h5
   | outgrown => exact h5⟩
theorem Xo {P : Program} {fn : Func} {t1 t2 : TypeId} (h : fn.results = #[.cell 6 t1, .cell 7 t2]) {R : Ending -> World -> Prop} {c : List PanicEntry} {a : Act} {d : Nat} {v : Value} {w : World} (h6 : d ≠ 6) (h7 : d ≠ 7) (hl : bodyPostD P fn R (.panic c) (a.put (some d) v) w) : bodyPostD P fn R (.panic c) a w := by
 refine QA ?_ _ _ _ hl
 simp [results, h, Act.put, Array.getElem?_setIfInBounds_ne h6, Array.getElem?_setIfInBounds_ne h7]
section
variable {P : Zz} {fl : List ZJ} {fe : Int} {B : Nat}
theorem xV (hP : Ctx P fl) (hf0 : 0 <= fe) (hfe : fe <= 1048576) {fv va vb : Value} {main mb : Nat} {Z W' : World} (hF : Xh B Z fv fl) (hB : B <= mb) (hv : XI fl main = true) (htab : Pv Z) (hgB : 0 < B) (hM : RZ Z mb fv fe ⟨0, []⟩ (.slice none 0 0)) (hg : Z.grownBy W' none)
 (hA : Wx (fun _ => False) W' va (.mk 7 main ⟨#[]⟩ [])) (hVB : Wx (fun _ => False) W' vb (.mk 3 0 ⟨#[]⟩ [])) :
 Calls Tryz.prog 30 #[.pointer (some ⟨mb, 0, none⟩), va, vb] W' (WG mb fv fe W' (.slice none 0 0) (Y1 fl fe (fe.toNat + 1) (fl.getD main default).body (.mk 7 main ⟨#[]⟩ []) [.mk 3 0 ⟨#[]⟩ []] ⟨0, []⟩) fun v y w' => Wx (fun _ => False) w' y v) := by
 obtain ⟨_, _, _, hm1, hcm, _⟩ := U3 hv
 have hml : main < fl.length := by omega
 rw [Int.toNat_natCast] at hcm
 have hga : VG P (.mk 7 main ⟨#[]⟩ []) := .mk (by decide) (fun h => by omega) (fun _ => ⟨by omega, by rw [hP.len]; omega, by rw [Int.toNat_natCast, (hP.fn main hml).1, hcm]; rfl⟩) (fun h => by omega) (fun _ h => by cases h)
 have hFn : Fn P fl main (.mk 7 main ⟨#[]⟩ []) := ⟨hml, rfl, hga, by rw [hcm]; rfl⟩
 have hH : Hyp P fl fe B (fun _ => False) mb fv main (.mk 7 main ⟨#[]⟩ []) [.mk 3 0 ⟨#[]⟩ []] ⟨0, []⟩ (.slice none 0 0) Z :=
  ⟨hF, hB, fun _ h => h.elim, hM, hFn, fun y hy => by rw [List.mem_singleton.1 hy]; exact Ql P, hf0, by decide, by decide, Nat.zero_le _, htab, hgB, Nat.zero_lt_one⟩
 exact Ju hP (El hP hfe (fe.toNat + 1)) (fun _ => False) mb fv main _ _ ⟨0, []⟩ _ W' va vb (.mk 7 main ⟨#[]⟩ []) (.mk 3 0 ⟨#[]⟩ []) (hH.free hg) hA hVB hga (Ql P) rfl (by show fe - 0 < _; omega)
theorem Jr (hP : Ctx P fl) (hf0 : 0 <= fe) {main : Nat} (hv : XI fl main = true) : ED fe (VG P) 0 (Y1 fl fe (fe.toNat + 1) (fl.getD main default).body (.mk 7 main ⟨#[]⟩ []) [.mk 3 0 ⟨#[]⟩ []] ⟨0, []⟩) := by
 obtain ⟨_, _, _, hm1, hcm, hall⟩ := U3 hv
 have hml : main < fl.length := by omega
 rw [Int.toNat_natCast] at hcm
 have hga : VG P (.mk 7 main ⟨#[]⟩ []) := .mk (by decide) (fun h => by omega) (fun _ => ⟨by omega, by rw [hP.len]; omega, by rw [Int.toNat_natCast, (hP.fn main hml).1, hcm]; rfl⟩) (fun h => by omega) (fun _ h => by cases h)
 have hb := hall _ (Zr default fl main hml)
 unfold V6 at hb
 rw [Bool.and_eq_true] at hb
 exact Wm hP _ _ main _ _ ⟨0, []⟩ ⟨hml, rfl, hga, by rw [hcm]; rfl⟩ (fun y hy => by rw [List.mem_singleton.1 hy]; exact Ql P) hb.2 (hP.txt main hml) hf0 (Nat.zero_le _)
theorem Jq {w : World} {b : Nat} {main : Nat} (h : w.heap[b]? = some (.cells (Y9 5 main ⟨#[]⟩ (.slice none 0 0)) 83 (0, 0))) : Wx (fun _ => False) w (.pointer (some ⟨b, 0, none⟩)) (.mk 7 main ⟨#[]⟩ []) :=
 .mk h (fun h => h) (rowP_nil _ _) rfl (Nat.zero_le _) (fun i hi => (Nat.not_lt_zero i hi).elim)
theorem Ej {w : World} {b : Nat} (h : w.heap[b]? = some (.cells (Y9 3 0 ⟨#[]⟩ (.slice none 0 0)) 83 (0, 0))) : Wx (fun _ => False) w (.pointer (some ⟨b, 0, none⟩)) (.mk 3 0 ⟨#[]⟩ []) :=
 .mk h (fun h => h) (rowP_nil _ _) rfl (Nat.zero_le _) (fun i hi => (Nat.not_lt_zero i hi).elim)
theorem BK {W : World} {qb rb : Nat} {x : Value} {z : Array Value} (hq : W.heap[qb]? = some (.cells z 45 (0, 0))) (hr : W.heap[rb]? = some (.cells #[x] 30 (0, 0))) (cs : Array Value) :
 (W.setRow qb cs).cell? ⟨rb, 0, none⟩ = some x /\ (W.setRow qb cs).frozen? ⟨rb, 0, none⟩ = false /\ (∀ b, b ≠ qb -> (W.setRow qb cs).heap[b]? = W.heap[b]?) /\
 ((W.setRow qb cs).setCell ⟨rb, 0, none⟩ (.int .i64 0)).heap[qb]? = some (.cells cs 45 (0, 0)) /\ ((W.setRow qb cs).setCell ⟨rb, 0, none⟩ (.int .i64 0)).heap[rb]? = some (.cells #[.int .i64 0] 30 (0, 0)) /\ W.heap.size <= ((W.setRow qb cs).setCell ⟨rb, 0, none⟩ (.int .i64 0)).heap.size /\
 (((W.setRow qb cs).setCell ⟨rb, 0, none⟩ (.int .i64 0)).os = W.os /\ ((W.setRow qb cs).setCell ⟨rb, 0, none⟩ (.int .i64 0)).tape = W.tape /\ ((W.setRow qb cs).setCell ⟨rb, 0, none⟩ (.int .i64 0)).output = W.output) /\ ∀ b, b < W.heap.size -> b ≠ qb -> b ≠ rb -> ((W.setRow qb cs).setCell ⟨rb, 0, none⟩ (.int .i64 0)).heap[b]? = W.heap[b]? := by
 have eT : rb ≠ qb := fun e => by rw [e, hq] at hr; exact absurd (Obj.cells.inj (Option.some.inj hr)).2.1 (by decide)
 have h1 : ∀ b, b ≠ qb -> (W.setRow qb cs).heap[b]? = W.heap[b]? := fun b hb => WM _ _ _ _ hb
 have hr1 := (h1 rb eT).trans hr
 have gs := Zv (W.setRow qb cs) rb 0 (.int .i64 0)
 have hz : (W.setRow qb cs).heap.size = W.heap.size := setRow_size _ _ _
 refine ⟨(one_cell hr1).1, Lib.frozen_of_heap hr1 0, h1, (gs.block qb (by rw [hz]; exact Z6 hq) (fun e => eT (Option.some.inj e).symm)).trans (Zd _ _ _ cs _ _ hq), ZL (i := 0) hr1 (.int .i64 0), by rw [<- hz]; exact gs.size, ⟨gs.os, gs.tape, gs.output⟩, fun b hb h2 h3 => (gs.block b (by omega) (fun e => h3 (Option.some.inj e))).trans (h1 b h2)⟩
theorem Pp {w a b : World} {mb : Nat} {x v : Value} {z : Array Value} (g : a.grownBy b none) (h : a.heap[mb + 1]? = some (.cells #[v] 73 (0, 0)) /\ a.heap[w.heap.size]? = some (.cells z 45 (0, 0)) /\ a.heap[w.heap.size + 1]? = some (.cells #[x] 30 (0, 0)) /\ Below w.heap.size w a) :
 b.heap[mb + 1]? = some (.cells #[v] 73 (0, 0)) /\ b.heap[w.heap.size]? = some (.cells z 45 (0, 0)) /\ b.heap[w.heap.size + 1]? = some (.cells #[x] 30 (0, 0)) /\ Below w.heap.size w b :=
 ⟨(g.block _ (Z6 h.1) (by nofun)).trans h.1, (g.block _ (Z6 h.2.1) (by nofun)).trans h.2.1, (g.block _ (Z6 h.2.2.1) (by nofun)).trans h.2.2.1, h.2.2.2.trans (ZX g h.2.2.2.size (by nofun))⟩
theorem Ei (w : World) (q : Nat) (v : Value) {b : Nat} (h : b ≠ q) : (w.setCell ⟨q, 0, none⟩ v).heap[b]? = w.heap[b]? := by
 by_cases hb : b < w.heap.size
 ·exact (Zv w q 0 v).block b hb (fun e => h (Option.some.inj e))
 ·have h1 : w.heap[b]? = none := by simp; omega
  have h2 : (w.setCell ⟨q, 0, none⟩ v).heap[b]? = none := by simp [World.size_setCell]; omega
  rw [h1, h2]
theorem KG {w : World} {q : Nat} {n : Int} (h : w.heap[q]? = some (.cells #[.int .i64 n] 30 (0, 0))) : (loadVar 30 ⟨q, 0, none⟩).run Tryz.prog w = .ok (.int .i64 n) w := by
 have h1 := (one_cell h).1
 go_simp
theorem Ni {w W w2 : World} {mb qb rb : Nat} {fv x : Value} {z : Array Value} {o n : Int} {st : Xa} {oa : Option Addr} {oc : Nat} (hb : Below w.heap.size w W) (hm : RZ W mb fv fe st (.slice oa st.out.length oc)) (hQ : W.heap[qb]? = some (.cells z 45 (0, 0))) (hR : W.heap[rb]? = some (.cells #[x] 30 (0, 0))) (hz : W.heap.size <= w2.heap.size) (he : w2.os = W.os /\ w2.tape = W.tape /\ w2.output = W.output) (hk : ∀ b, b < W.heap.size -> b ≠ qb -> b ≠ rb -> w2.heap[b]? = W.heap[b]?)
 (hq : w.heap.size <= qb) (hr : w.heap.size <= rb) {y : Z0} (hy : Pm 0 none W y) :
 rP ⟨o, n, st.steps, ZW y, st.out⟩ w (.returned (.tuple #[.agg (QC ⟨o, n, st.steps, ZW y, st.out⟩ y (.slice oa st.out.length oc)), .int .i64 0])) w2 := by
 have hK : Ez W w2 := ⟨hz, fun b cur t ht hb => hk b (Z6 hb) (fun e => by subst e; rw [hQ] at hb; have h2 := (Obj.cells.inj (Option.some.inj hb)).2.1; rcases ht with rfl | rfl <;> exact absurd h2 (by decide)) (fun e => by subst e; rw [hR] at hb; have h2 := (Obj.cells.inj (Option.some.inj hb)).2.1; rcases ht with rfl | rfl <;> exact absurd h2 (by decide))⟩
 exact ⟨y, _, rfl, rfl, hy.Ey hK, ⟨mb + 1, Pt hm.own hK⟩, hb.trans ⟨he.1, he.2.1, he.2.2, hz, fun k hk' => hk k (by have := hb.size; omega) (by omega) (by omega)⟩⟩
theorem rO (hP : Ctx P fl) (hf0 : 0 <= fe) (hfe : fe <= 1048576) (fv : Value) (main : Nat) (w : World) (hF : Xh B w fv fl) (hBw : B <= w.heap.size) (hs : ∀ f ∈ fl, YO f.body <= 600 /\ Y5 f.body <= 211) (hv : XI fl main = true) (htab : Pv w) (hgB : 0 < B) :
 Calls Tryz.prog 11 #[fv, .int .i64 (main : Int), .int .i64 fe] w (rP (Hu fl main fe) w) := by
 have hmf : ∀ (fn : Go.Fn) (first cap : Array Value) (w : World), (Instr.makeFunc fn first cap).run Tryz.prog w = .ok (.func fn first cap) w := fun _ _ _ _ => rfl
 have hb0 : Below w.heap.size w ((w.alloc (.cells Q7 45)).alloc (.cells #[.int .i64 0] 30)) := ((Below.refl _ _).alloc (Nat.le_refl _) _).alloc (by simp) _
 have Rx : Below B w ((w.alloc (.cells Q7 45)).alloc (.cells #[.int .i64 0] 30)) := ((Below.refl _ _).alloc hBw _).alloc (by simp; omega) _
 have n0 : ((w.alloc (.cells Q7 45)).alloc (.cells #[.int .i64 0] 30)).heap[w.heap.size]? = some (.cells Q7 45 (0, 0)) := (Below.heap_alloc _ _ _ (by simp)).trans (ZV w _)
 have n1 : ((w.alloc (.cells Q7 45)).alloc (.cells #[.int .i64 0] 30)).heap[w.heap.size + 1]? = some (.cells #[.int .i64 0] 30 (0, 0)) := (congrArg _ (by simp)).trans (ZV (w.alloc _) _)
 have hz : ((w.alloc (.cells Q7 45)).alloc (.cells #[.int .i64 0] 30)).heap.size = w.heap.size + 1 + 1 := by simp
 have HV := Z9 (LB B fv fl main _ (hF.under Rx) (by rw [hz]; omega) hs)
 rw [hv] at HV
 have acr : decide (fe < 0) = false := by simp; omega
 have acs : decide (1048576 < fe) = false := by simp; omega
 obtain ⟨⟨fa, fc, rfl, _⟩, _⟩ := id hF
 have HF := Z9 (hF.under Rx)
 have HTAB := Z9 (htab.below Rx hgB)
 clear hF htab hs Rx
 obtain ⟨O, hO⟩ : ∃ O, Hu fl main fe = O := ⟨_, rfl⟩
 rw [hO]
 go_enter_defers Tryz.func11, Tryz.ntmps11
 go_upto_region 1 with fail
 change Code.wp _ _ _ _ ((w.alloc (.cells Q7 45)).alloc (.cells #[.int .i64 0] 30))
 generalize ((w.alloc (.cells Q7 45)).alloc (.cells #[.int .i64 0] 30)) = W at *
 go_upto_region 7 with (go_at_call 21; refine HV.out.mono ?_; rintro e w1 ⟨rfl, hb1⟩)
 have hsz1 := hb1.size
 have gz := both (Z8 w1 (.cells #[.slice fa fl.length fc, .int .i64 fe, .int .i64 0, .slice none 0 0] 75)) (Z8 (w1.alloc (.cells #[.slice fa fl.length fc, .int .i64 fe, .int .i64 0, .slice none 0 0] 75)) (.cells #[.pointer (some ⟨w1.heap.size, 0, none⟩)] 73))
 have hmZ := ((Z8 (w1.alloc (.cells #[.slice fa fl.length fc, .int .i64 fe, .int .i64 0, .slice none 0 0] 75)) (.cells #[.pointer (some ⟨w1.heap.size, 0, none⟩)] 73)).block _ (by simp) (by nofun)).trans (Zn w1 (.cells #[.slice fa fl.length fc, .int .i64 fe, .int .i64 0, .slice none 0 0] 75))
 have dY : ((w1.alloc (.cells #[.slice fa fl.length fc, .int .i64 fe, .int .i64 0, .slice none 0 0] 75)).alloc (.cells #[.pointer (some ⟨w1.heap.size, 0, none⟩)] 73)).heap[w1.heap.size + 1]? = some (.cells #[.pointer (some ⟨w1.heap.size, 0, none⟩)] 73 (0, 0)) := ZF (by simp) (.cells #[.pointer (some ⟨w1.heap.size, 0, none⟩)] 73)
 have hq1 := (hb1.block _ (by omega)).trans n0
 have hr1 := (hb1.block _ (by omega)).trans n1
 have hqZ := (gz.block _ (Z6 hq1) (by nofun)).trans hq1
 have hrZ := (gz.block _ (Z6 hr1) (by nofun)).trans hr1
 have jY : Below w.heap.size w ((w1.alloc (.cells #[.slice fa fl.length fc, .int .i64 fe, .int .i64 0, .slice none 0 0] 75)).alloc (.cells #[.pointer (some ⟨w1.heap.size, 0, none⟩)] 73)) := (hb0.trans (hb1.mono (by omega))).trans (ZX gz (by omega) (by nofun))
 have hFZ := (HF.out.under (hb1.mono (by omega))).under (ZX gz (B := B) (by omega) (by nofun))
 have hTZ := (HTAB.out.below (hb1.mono (by omega)) hgB).below (ZX gz (B := B) (by omega) (by nofun)) hgB
 have hBm : B <= w1.heap.size := by omega
 have hwm : w.heap.size + 1 < w1.heap.size := by omega
 clear hq1 hr1 gz HF HTAB HV n0 n1 hb1 hb0 hz
 generalize ((w1.alloc (.cells #[.slice fa fl.length fc, .int .i64 fe, .int .i64 0, .slice none 0 0] 75)).alloc (.cells #[.pointer (some ⟨w1.heap.size, 0, none⟩)] 73)) = Z at *
 generalize w1.heap.size = mb at *
 have hMZ : RZ Z mb (.slice fa fl.length fc) fe ⟨0, []⟩ (.slice none 0 0) := ⟨hmZ, World.ownsRow_nil _ _ _ _⟩
 have HW := Z9 (fun (W' w2 : World) (r' : Option Nat) (hg : Z.grownBy W' none) (hE : Em mb W' w2 none r') =>
  have hk : ∀ b, b < Z.heap.size -> b ≠ mb -> w2.heap[b]? = Z.heap[b]? := fun b hb hne => (hE.kept b (Nat.lt_of_lt_of_le hb hg.size) hne (by nofun)).trans (hg.block b hb (by nofun))
  show (w2.heap[mb + 1]? = some (.cells #[.pointer (some ⟨mb, 0, none⟩)] 73 (0, 0)) /\ w2.heap[w.heap.size]? = some (.cells Q7 45 (0, 0)) /\ w2.heap[w.heap.size + 1]? = some (.cells #[.int .i64 0] 30 (0, 0)) /\ Below w.heap.size w w2) from
   ⟨(hk _ (Z6 dY) (by omega)).trans dY, (hk _ (Z6 hqZ) (by omega)).trans hqZ, (hk _ (Z6 hrZ) (by omega)).trans hrZ, jY.trans ((ZX hg (by have := jY.size; omega) (by nofun)).trans (hE.below (B := w.heap.size) (by omega) (by have := Z6 hmZ; have := hg.size; omega) (by nofun)))⟩)
 have CC := fun (W' : World) (hg : Z.grownBy W' none) (va vb : Value) (hA : Wx (fun _ => False) W' va (.mk 7 main ⟨#[]⟩ [])) (hVB : Wx (fun _ => False) W' vb (.mk 3 0 ⟨#[]⟩ [])) => xV hP hf0 hfe hFZ hBm hv hTZ hgB hMZ hg hA hVB
 unfold Hu at hO
 have pz := Z9 (Jr hP hf0 hv)
 generalize Y1 fl fe (fe.toNat + 1) (fl.getD main default).body (.mk 7 main ⟨#[]⟩ []) [.mk 3 0 ⟨#[]⟩ []] ⟨0, []⟩ = R at *
 have bA := Z9 CC
 have cp := (one_cell dY).1
 have aX := Z9 dY
 clear CC hqZ hrZ jY hFZ hTZ hMZ hmZ dY hgB hBm hv
 refine XG (S := (fun w9 => w9.cell? ⟨mb + 1, 0, none⟩ = some (.pointer (some ⟨mb, 0, none⟩)))) (by kernel_rfl) cp (fun hHeld => ?_)
 refine Zp 0 29 (.pointer (some ⟨mb, 0, none⟩)) rfl rfl (by kernel_rfl) (by kernel_rfl) (by kernel_rfl) (fun _ _ _ h => Xo rfl (by decide) (by decide) h) (Or.inl ⟨by rfl, fun w9 hSw => ?y0⟩) cp ?_
 case y0 => have i0 : w9.cell? ⟨mb + 1, 0, none⟩ = some (.pointer (some ⟨mb, 0, none⟩)) := hSw; go_simp
 simp only [Act.put, Zj, Zi, Zh]
 refine Zp 1 30 (.int .i64 (main : Int)) rfl rfl (by kernel_rfl) (by kernel_rfl) (by kernel_rfl) (fun _ _ _ h => Xo rfl (by decide) (by decide) h) (Or.inl ⟨by rfl, fun w9 hSw => ?y1⟩) cp ?_
 case y1 => have i0 : w9.cell? ⟨mb + 1, 0, none⟩ = some (.pointer (some ⟨mb, 0, none⟩)) := hSw; go_simp
 simp only [Act.put, Zj, Zi, Zh]
 refine Zp 2 31 (.agg #[.int .i64 5, .int .i64 (main : Int), .string ⟨#[]⟩, .slice none 0 0]) rfl rfl (by kernel_rfl) (by kernel_rfl) (by kernel_rfl) (fun _ _ _ h => Xo rfl (by decide) (by decide) h) (Or.inl ⟨by rfl, fun w9 hSw => ?y2⟩) cp ?_
 case y2 => have i0 : w9.cell? ⟨mb + 1, 0, none⟩ = some (.pointer (some ⟨mb, 0, none⟩)) := hSw; go_simp
 simp only [Act.put, Zj, Zi, Zh]
 refine wpAnyH_ready (rs := [3, 4]) (by kernel_rfl) (by simp) (AllReadyH.cons (by rfl) (fun K hK => ?_) (AllReadyH.cons (by rfl) (fun K hK => ?_) AllReadyH.nil))
 rotate_left
 go_simp
 go_at_call 31
 refine (RG _).mono ?_
 rintro e w' ⟨rfl, rfl⟩
 refine hK.out _ _ (Z5 cp _) (fun _ => ?_)
 clear hK K
 refine rd1 3 (by kernel_rfl) rfl fun K hK => ?_
 go_simp
 have hg7 : Z.grownBy ((Z.drew.alloc (.cells (Y9 3 0 ⟨#[]⟩ (.slice none 0 0)) 83)).alloc (.cells (Y9 5 main ⟨#[]⟩ (.slice none 0 0)) 83)) none := both (both (Z4 Z) (Z8 _ _)) (Z8 _ _)
 have hPa : Wx (fun _ => False) ((Z.drew.alloc (.cells (Y9 3 0 ⟨#[]⟩ (.slice none 0 0)) 83)).alloc (.cells (Y9 5 main ⟨#[]⟩ (.slice none 0 0)) 83)) (.pointer (some ⟨Z.heap.size + 1, 0, none⟩)) (.mk 7 main ⟨#[]⟩ []) := Jq (ZF (by simp [heap_drew]) (.cells (Y9 5 main ⟨#[]⟩ (.slice none 0 0)) 83))
 have hPb : Wx (fun _ => False) ((Z.drew.alloc (.cells (Y9 3 0 ⟨#[]⟩ (.slice none 0 0)) 83)).alloc (.cells (Y9 5 main ⟨#[]⟩ (.slice none 0 0)) 83)) (.pointer (some ⟨Z.heap.size, 0, none⟩)) (.mk 3 0 ⟨#[]⟩ []) := Ej (((Z8 (Z.drew.alloc (.cells (Y9 3 0 ⟨#[]⟩ (.slice none 0 0)) 83)) _).block _ (Z6 (Zn Z.drew (.cells (Y9 3 0 ⟨#[]⟩ (.slice none 0 0)) 83))) (by nofun)).trans (Zn Z.drew (.cells (Y9 3 0 ⟨#[]⟩ (.slice none 0 0)) 83)))
 have s8 := (one_cell ((hg7.block _ (Z6 aX.out) (by nofun)).trans aX.out)).1
 have HX := Z9 (bA.out _ hg7 _ _ hPa hPb)
 refine hK.out _ _ s8 (fun _ => ?_)
 clear hK K
 rotate_left
 go_simp
 refine hK.out _ _ (Z5 cp _) (fun _ => ?_)
 clear hK K
 refine rd1 4 (by kernel_rfl) rfl fun K hK => ?_
 go_simp
 go_at_call 31
 refine (RG _).mono ?_
 rintro e w' ⟨rfl, rfl⟩
 have hg7 : Z.grownBy ((Z.drew.alloc (.cells (Y9 5 main ⟨#[]⟩ (.slice none 0 0)) 83)).alloc (.cells (Y9 3 0 ⟨#[]⟩ (.slice none 0 0)) 83)) none := both (both (Z4 Z) (Z8 _ _)) (Z8 _ _)
 have hPa : Wx (fun _ => False) ((Z.drew.alloc (.cells (Y9 5 main ⟨#[]⟩ (.slice none 0 0)) 83)).alloc (.cells (Y9 3 0 ⟨#[]⟩ (.slice none 0 0)) 83)) (.pointer (some ⟨Z.heap.size, 0, none⟩)) (.mk 7 main ⟨#[]⟩ []) := Jq (((Z8 (Z.drew.alloc (.cells (Y9 5 main ⟨#[]⟩ (.slice none 0 0)) 83)) _).block _ (Z6 (Zn Z.drew (.cells (Y9 5 main ⟨#[]⟩ (.slice none 0 0)) 83))) (by nofun)).trans (Zn Z.drew (.cells (Y9 5 main ⟨#[]⟩ (.slice none 0 0)) 83)))
 have hPb : Wx (fun _ => False) ((Z.drew.alloc (.cells (Y9 5 main ⟨#[]⟩ (.slice none 0 0)) 83)).alloc (.cells (Y9 3 0 ⟨#[]⟩ (.slice none 0 0)) 83)) (.pointer (some ⟨Z.heap.size + 1, 0, none⟩)) (.mk 3 0 ⟨#[]⟩ []) := Ej (ZF (by simp [heap_drew]) (.cells (Y9 3 0 ⟨#[]⟩ (.slice none 0 0)) 83))
 have s8 := (one_cell ((hg7.block _ (Z6 aX.out) (by nofun)).trans aX.out)).1
 have HX := Z9 (bA.out _ hg7 _ _ hPa hPb)
 refine hK.out _ _ s8 (fun _ => ?_)
 clear hK K
 all_goals
  refine rd1 5 (by kernel_rfl) rfl fun K hK => ?_
  go_simp; go_at_call 30; refine HX.out.mono ?_; rintro e w2 hA; rcases R with ⟨v, st⟩ | ⟨o, n, st⟩; rotate_left
  ·have hO2 : (⟨o, n, st.steps, .mk 0 0 ⟨#[]⟩ [], st.out⟩ : Ke) = O := hO
   subst hO2; obtain ⟨ov2, hE2, hM2, rfl⟩ := hA; obtain ⟨oa, oc, rfl⟩ := Yg hM2.own; obtain ⟨FP, FQ, FR, FB⟩ := HW.out _ _ _ hg7 hE2; refine leaves_cons (f := 29) (args := #[.pointer (some ⟨mb + 1, 0, none⟩), .pointer (some ⟨w.heap.size, 0, none⟩), .pointer (some ⟨w.heap.size + 1, 0, none⟩)]) (by simp) (by simp [go_sem]) ?_; refine (KO (mb + 1) w.heap.size (w.heap.size + 1) mb _ _ _ _ _ _ _ _ _ [] _ FP hM2.blk FQ FR).mono ?_; rintro e u' w5 ⟨rfl, rfl, h1, h2, h3, h4, h5⟩; exact ⟨_, Uf rfl _ _ w.heap.size (w.heap.size + 1) _ 0 rfl (run_loadVar_row _ _ _ _ _ (0, 0) _ h1 Tryz.underlying45 rfl VH) rfl (KG h2), Ni FB hM2 FQ FR (by omega) h4 h5 (Nat.le_refl _) (by omega) (SH 0 none _ 0 0 ⟨#[]⟩)⟩
  have hO2 : (if (UH 400 v 20000).2 < 0 then (⟨2, 2, st.steps, .mk 0 0 ⟨#[]⟩ [], st.out⟩ : Ke) else ⟨1, 0, st.steps, (UH 400 v 20000).1, st.out⟩) = O := hO; clear hO; obtain ⟨ov2, hE2, hM2, y, rfl, hY⟩ := hA; obtain ⟨oa, oc, rfl⟩ := Yg hM2.own; have HF4 := Z9 (HW.out _ _ _ hg7 hE2); have HM2 := Z9 hM2; have HY := Z9 hY; have s9 := (one_cell HF4.out.1).1; clear hM2 hY hE2; refine hK.out _ _ s9 (fun _ => ?_); clear hK K; refine Zp 6 9 (y) rfl rfl (by kernel_rfl) (by kernel_rfl) (by kernel_rfl) (fun _ _ _ h => Xo rfl (by decide) (by decide) h) (Or.inl ⟨by rfl, fun w9 hSw => ?y6⟩) s9 ?_
  case y6 => have i0 : w9.cell? ⟨mb + 1, 0, none⟩ = some (.pointer (some ⟨mb, 0, none⟩)) := hSw; go_simp
  simp only [Act.put, Zj, Zi, Zh]; refine X3 (by kernel_rfl) ?_ _; have ho3 := Zn w2 (.cells #[.int .i64 20000] 87); have HC3 := Z9 (Ai (fun _ => False) P 400 (Nat.le_refl _) w2.heap.size y v _ 20000 (HY.out.kept (YS (Z8 w2 (.cells #[.int .i64 20000] 87)))) pz.out.1 ho3 (by decide) (by decide)); clear ho3 s8 s9 hg7 hPa hPb; generalize UH 400 v 20000 = r2 at *; by_cases hn : r2.2 < 0
  ·rw [ZY hn] at hO2
   subst hO2; go_wp2_with (go_at_call 32; refine HC3.out.mono ?_; intro e w4 hR; obtain ⟨rfl, hg2⟩ := (ZY hn).mp hR); have hg24 := U2 (Z8 w2 (.cells #[.int .i64 20000] 87)) hg2 (Nat.le_refl _); have hM4 := HM2.out.free hg24; obtain ⟨FP, FQ, FR, FB⟩ := Pp hg24 HF4.out; refine leaves_cons (f := 29) (args := #[.pointer (some ⟨mb + 1, 0, none⟩), .pointer (some ⟨w.heap.size, 0, none⟩), .pointer (some ⟨w.heap.size + 1, 0, none⟩)]) (by simp) (by simp [go_sem]) ?_; refine (KO (mb + 1) w.heap.size (w.heap.size + 1) mb _ _ _ _ _ _ _ _ _ [] _ FP hM4.blk FQ FR).mono ?_; rintro e u' w5 ⟨rfl, rfl, h1, h2, h3, h4, h5⟩; exact ⟨_, Uf rfl _ _ w.heap.size (w.heap.size + 1) _ 0 rfl (run_loadVar_row _ _ _ _ _ (0, 0) _ h1 Tryz.underlying45 rfl VH) rfl (KG h2), Ni FB hM4 FQ FR (by omega) h4 h5 (Nat.le_refl _) (by omega) (SH 0 none _ 0 0 ⟨#[]⟩)⟩
  ·rw [Z7 hn] at hO2
   subst hO2; go_upto_region 10 with (go_at_call 32; refine HC3.out.mono ?_; intro e w4 hR; obtain ⟨⟨zo, zn, zs, zv, zl⟩, rfl, hs2, hi2, hg2, _⟩ := (Z7 hn).mp hR; obtain ⟨za, zc, rfl, _⟩ := hi2.parts.1; simp only [ZN, Z0.op, Z0.n, Z0.s, Z0.lv]); have hg24 := U2 (Z8 w2 (.cells #[.int .i64 20000] 87)) hg2 (Nat.le_refl _); have hM4 := HM2.out.free hg24; obtain ⟨FP, FQ, FR, FB⟩ := Pp hg24 HF4.out; have g5 := Z8 w4 (.cells #[.int .i64 zo, .int .i64 zn, .string zs, .slice none 0 0, .slice za zl.length zc] 43); have hM5 := hM4.free g5; have FQ4 := FQ; have FR4 := FR; obtain ⟨FP, FQ, FR, FB⟩ := Pp g5 ⟨FP, FQ, FR, FB⟩; have n5 := Zn w4 (.cells #[.int .i64 zo, .int .i64 zn, .string zs, .slice none 0 0, .slice za zl.length zc] 43); have hi5 : Pm 0 none (w4.alloc (.cells #[.int .i64 zo, .int .i64 zn, .string zs, .slice none 0 0, .slice za zl.length zc] 43)) (.mk zo zn zs (.slice za zl.length zc) zl) := hi2.keep g5.size (fun q hq _ _ => g5.block q hq (by nofun)) (Nat.zero_le _) (fun _ _ _ h => h); have hT := BK (W := (w4.alloc (.cells #[.int .i64 zo, .int .i64 zn, .string zs, .slice none 0 0, .slice za zl.length zc] 43)).drew) FQ FR #[.int .i64 1, .int .i64 0, .int .i64 st.steps, .int .i64 zo, .int .i64 zn, .string zs, .slice none 0 0, .slice za zl.length zc, .slice oa st.out.length oc]; have l5 := Z6 FQ; have l6 := Z6 FR; have l7 := Z6 n5; have l8 := Z6 hM5.blk; have l9 := Z6 FP; have of1 : ∀ W : World, (∀ b, b ≠ w.heap.size -> b ≠ w.heap.size + 1 -> W.heap[b]? = (w4.alloc (.cells #[.int .i64 zo, .int .i64 zn, .string zs, .slice none 0 0, .slice za zl.length zc] 43)).heap[b]?) -> W.cell? ⟨mb + 1, 0, none⟩ = some (.pointer (some ⟨mb, 0, none⟩)) /\ W.cell? ⟨mb, 2, none⟩ = some (.int .i64 st.steps) /\ W.cell? ⟨mb, 3, none⟩ = some (.slice oa st.out.length oc) /\ W.cell? ⟨w4.heap.size, 0, none⟩ = some (.int .i64 zo) /\ W.cell? ⟨w4.heap.size, 1, none⟩ = some (.int .i64 zn) /\ W.cell? ⟨w4.heap.size, 2, none⟩ = some (.string zs) /\ W.cell? ⟨w4.heap.size, 3, none⟩ = some (.slice none 0 0) /\ W.cell? ⟨w4.heap.size, 4, none⟩ = some (.slice za zl.length zc) := fun W hW => by
    obtain ⟨_, _, e2, e3⟩ := YV ((hW mb (by omega) (by omega)).trans hM5.blk); exact ⟨(one_cell ((hW (mb + 1) (by omega) (by omega)).trans FP)).1, e2, e3, Yh ((hW w4.heap.size (by have := Z6 (FQ4); omega) (by have := Z6 (FR4); omega)).trans n5)⟩
   have s0 := of1 (w4.alloc (.cells #[.int .i64 zo, .int .i64 zn, .string zs, .slice none 0 0, .slice za zl.length zc] 43)).drew (fun b _ _ => rfl); have s1 := of1 ((w4.alloc (.cells #[.int .i64 zo, .int .i64 zn, .string zs, .slice none 0 0, .slice za zl.length zc] 43)).drew.setRow w.heap.size #[.int .i64 1, .int .i64 0, .int .i64 st.steps, .int .i64 zo, .int .i64 zn, .string zs, .slice none 0 0, .slice za zl.length zc, .slice oa st.out.length oc]) (fun b h1 _ => hT.2.2.1 b h1); have s2 := of1 (((w4.alloc (.cells #[.int .i64 zo, .int .i64 zn, .string zs, .slice none 0 0, .slice za zl.length zc] 43)).drew.setRow w.heap.size #[.int .i64 1, .int .i64 0, .int .i64 st.steps, .int .i64 zo, .int .i64 zn, .string zs, .slice none 0 0, .slice za zl.length zc, .slice oa st.out.length oc]).setCell ⟨w.heap.size + 1, 0, none⟩ (.int .i64 0)) (fun b h1 h2 => (Ei _ _ _ h2).trans (hT.2.2.1 b h1)); have hrc := hT.1; have fz := hT.2.1; have HT := Z9 hT; have HQ5 := Z9 FQ; have lZ := Z9 FR; have HM5 := Z9 hM5; have HB5 := Z9 FB; have HI5 := Z9 hi5; have HS2 := Z9 hs2; clear hT FQ FR FB FP hM5 hM4 hi5 hi2 n5 of1 g5 hg24 hg2 hs2 HC3 HF4 HM2 HY FQ4 FR4; refine XG (S := (fun w9 => w9.cell? ⟨mb + 1, 0, none⟩ = some (.pointer (some ⟨mb, 0, none⟩)) /\ w9.cell? ⟨mb, 2, none⟩ = some (.int .i64 st.steps) /\ w9.cell? ⟨mb, 3, none⟩ = some (.slice oa st.out.length oc) /\ w9.cell? ⟨w4.heap.size, 0, none⟩ = some (.int .i64 zo) /\ w9.cell? ⟨w4.heap.size, 1, none⟩ = some (.int .i64 zn) /\ w9.cell? ⟨w4.heap.size, 2, none⟩ = some (.string zs) /\ w9.cell? ⟨w4.heap.size, 3, none⟩ = some (.slice none 0 0) /\ w9.cell? ⟨w4.heap.size, 4, none⟩ = some (.slice za zl.length zc))) (by kernel_rfl) s0 (fun hHeld => ?_); refine Zp 0 40 (.pointer (some ⟨mb, 0, none⟩)) rfl rfl (by kernel_rfl) (by kernel_rfl) (by kernel_rfl) (fun _ _ _ h => Xo rfl (by decide) (by decide) h) (Or.inl ⟨by rfl, fun w9 hSw => ?y0⟩) s0 ?_
   case y0 => obtain ⟨i0, i1, i2, i3, i4, i5, i6, i7⟩ := hSw; go_simp
   simp only [Act.put, Zj, Zi, Zh]; refine Zp 1 41 (.pointer (some ⟨mb, 0, none⟩)) rfl rfl (by kernel_rfl) (by kernel_rfl) (by kernel_rfl) (fun _ _ _ h => Xo rfl (by decide) (by decide) h) (Or.inl ⟨by rfl, fun w9 hSw => ?y1⟩) s0 ?_
   case y1 => obtain ⟨i0, i1, i2, i3, i4, i5, i6, i7⟩ := hSw; go_simp
   simp only [Act.put, Zj, Zi, Zh]; refine Zp 2 42 (.pointer (some ⟨mb, 2, none⟩)) rfl rfl (by kernel_rfl) (by kernel_rfl) (by kernel_rfl) (fun _ _ _ h => Xo rfl (by decide) (by decide) h) (Or.inl ⟨by rfl, fun w9 hSw => ?y2⟩) s0 ?_
   case y2 => obtain ⟨i0, i1, i2, i3, i4, i5, i6, i7⟩ := hSw; go_simp
   simp only [Act.put, Zj, Zi, Zh]; refine Zp 3 43 (.int .i64 st.steps) rfl rfl (by kernel_rfl) (by kernel_rfl) (by kernel_rfl) (fun _ _ _ h => Xo rfl (by decide) (by decide) h) (Or.inl ⟨by rfl, fun w9 hSw => ?y3⟩) s0 ?_
   case y3 => obtain ⟨i0, i1, i2, i3, i4, i5, i6, i7⟩ := hSw; go_simp
   simp only [Act.put, Zj, Zi, Zh]; refine Zp 4 44 (.agg #[.int .i64 zo, .int .i64 zn, .string zs, .slice none 0 0, .slice za zl.length zc]) rfl rfl (by kernel_rfl) (by kernel_rfl) (by kernel_rfl) (fun _ _ _ h => Xo rfl (by decide) (by decide) h) (Or.inl ⟨by rfl, fun w9 hSw => ?y4⟩) s0 ?_
   case y4 => obtain ⟨i0, i1, i2, i3, i4, i5, i6, i7⟩ := hSw; go_simp
   simp only [Act.put, Zj, Zi, Zh]; refine Zp 5 45 (.pointer (some ⟨mb, 0, none⟩)) rfl rfl (by kernel_rfl) (by kernel_rfl) (by kernel_rfl) (fun _ _ _ h => Xo rfl (by decide) (by decide) h) (Or.inl ⟨by rfl, fun w9 hSw => ?y5⟩) s0 ?_
   case y5 => obtain ⟨i0, i1, i2, i3, i4, i5, i6, i7⟩ := hSw; go_simp
   simp only [Act.put, Zj, Zi, Zh]; refine Zp 6 46 (.pointer (some ⟨mb, 0, none⟩)) rfl rfl (by kernel_rfl) (by kernel_rfl) (by kernel_rfl) (fun _ _ _ h => Xo rfl (by decide) (by decide) h) (Or.inl ⟨by rfl, fun w9 hSw => ?y6⟩) s0 ?_
   case y6 => obtain ⟨i0, i1, i2, i3, i4, i5, i6, i7⟩ := hSw; go_simp
   simp only [Act.put, Zj, Zi, Zh]; refine Zp 7 47 (.pointer (some ⟨mb, 3, none⟩)) rfl rfl (by kernel_rfl) (by kernel_rfl) (by kernel_rfl) (fun _ _ _ h => Xo rfl (by decide) (by decide) h) (Or.inl ⟨by rfl, fun w9 hSw => ?y7⟩) s0 ?_
   case y7 => obtain ⟨i0, i1, i2, i3, i4, i5, i6, i7⟩ := hSw; go_simp
   simp only [Act.put, Zj, Zi, Zh]; refine Zp 8 48 (.slice oa st.out.length oc) rfl rfl (by kernel_rfl) (by kernel_rfl) (by kernel_rfl) (fun _ _ _ h => Xo rfl (by decide) (by decide) h) (Or.inl ⟨by rfl, fun w9 hSw => ?y8⟩) s0 ?_
   case y8 => obtain ⟨i0, i1, i2, i3, i4, i5, i6, i7⟩ := hSw; go_simp
   simp only [Act.put, Zj, Zi, Zh]; refine Zp 9 49 (.agg #[.int .i64 1, .int .i64 0, .int .i64 st.steps, .int .i64 zo, .int .i64 zn, .string zs, .slice none 0 0, .slice za zl.length zc, .slice oa st.out.length oc]) rfl rfl (by kernel_rfl) (by kernel_rfl) (by kernel_rfl) (fun _ _ _ h => Xo rfl (by decide) (by decide) h) (Or.inl ⟨by rfl, fun w9 hSw => ?y9⟩) s0 ?_
   case y9 => obtain ⟨i0, i1, i2, i3, i4, i5, i6, i7⟩ := hSw; go_simp
   simp only [Act.put, Zj, Zi, Zh]; refine rd1 10 (by kernel_rfl) rfl fun K hK => ?_
   refine wp_store_row 45 _ _ rfl w.heap.size #[.int .i64 1, .int .i64 0, .int .i64 st.steps, .int .i64 zo, .int .i64 zn, .string zs, .slice none 0 0, .slice za zl.length zc, .slice oa st.out.length oc] rfl rfl 45 Q7 HQ5.out VH rfl (ZO _ rfl) ?_; refine hK.out _ _ s1 (fun _ => ?_); clear hK K; refine rd1 11 (by kernel_rfl) rfl fun K hK => ?_
   go_simp; refine hK.out _ _ s2 (fun _ => ?_); clear hK K; refine X3 (by kernel_rfl) ?_ _; go_wp2_with fail; refine leaves_cons (f := 29) (args := #[.pointer (some ⟨mb + 1, 0, none⟩), .pointer (some ⟨w.heap.size, 0, none⟩), .pointer (some ⟨w.heap.size + 1, 0, none⟩)]) (by simp) (by simp [go_sem]) ?_; refine (yD _ _ _ _).mono ?_; rintro e u' w7 ⟨rfl, rfl, hg8⟩; obtain ⟨_, _, _, t1, t2, t3, ⟨t4, t5, t6⟩, t7⟩ := HT.out; have h1 := (hg8.block _ (Z6 t1) (by nofun)).trans t1; have h2 := (hg8.block _ (Z6 t2) (by nofun)).trans t2; rw [<- HS2.out]; exact ⟨_, Uf rfl _ _ w.heap.size (w.heap.size + 1) _ 0 rfl (run_loadVar_row _ _ _ _ _ (0, 0) _ h1 Tryz.underlying45 rfl VH) rfl (KG h2), Ni HB5.out HM5.out HQ5.out lZ.out (Nat.le_trans t3 hg8.size) ⟨hg8.os.trans t4, hg8.tape.trans t5, hg8.output.trans t6⟩ (fun b hb h1 h2 => (hg8.block b (Nat.lt_of_lt_of_le hb t3) (by nofun)).trans (t7 b hb h1 h2)) (Nat.le_refl _) (by omega) HI5.out⟩
end
section
variable {P : Zz} {fl : List ZJ} {fe : Int}
theorem oz (hP : Ctx P fl) {main : Nat} (hv : XI fl main = true) : VG P (.mk 7 main ⟨#[]⟩ []) := by
 obtain ⟨_, _, _, hm1, hcm, _⟩ := U3 hv
 have hml : main < fl.length := by omega
 rw [Int.toNat_natCast] at hcm
 exact .mk (by decide) (fun h => by omega) (fun _ => ⟨by omega, by rw [hP.len]; omega, by rw [Int.toNat_natCast, (hP.fn main hml).1, hcm]; rfl⟩) (fun h => by omega) (fun _ h => by cases h)
theorem rM (hP : Ctx P fl) (hf0 : 0 <= fe) {main : Nat} (hv : XI fl main = true) : (Hu fl main fe).out.length <= 1000 := by
 have h := Jr hP hf0 hv
 unfold Hu
 cases hE : Y1 fl fe (fe.toNat + 1) (fl.getD main default).body (.mk 7 main ⟨#[]⟩ []) [.mk 3 0 ⟨#[]⟩ []] ⟨0, []⟩ with
 | stop o n st => rw [hE] at h; exact h.2.2
 | ok v st =>
   rw [hE] at h
   dsimp only
   split <;> exact h.2.2.2
theorem xU (hP : Ctx P fl) {main : Nat} (hm : P.main = (main : Int)) (hv : XI fl main = true) :
 (Hu fl main 5000).op = 3 \/ (MP P 20000).op = 3 \/ MP P 20000 = { Hu fl main 5000 with steps := (MP P 20000).steps } := by
 have h := EG (fx := 20000) (fe := 5000) (g := 5001) hP (Aq hP 5001) (oz hP hv) (Ql P) rfl (g' := 20001) (sm := ⟨0, [], 0, 0⟩) (st := ⟨0, []⟩) ⟨rfl, rfl, rfl, by decide, by decide⟩
 have hR : Yl P 20000 20001 (.mk 7 main ⟨#[]⟩ []) (X8 P (.mk 7 main ⟨#[]⟩ []) (.mk 3 0 ⟨#[]⟩ [])) [] 0 ⟨0, [], 0, 0⟩ = BZ P 20000 := by
  unfold BZ SG Nk; rw [hm]; rfl
 dsimp only at h
 rw [hR] at h
 rw [show (ZT.mk 7 (main : Int) ⟨#[]⟩ []).n.toNat = main from rfl] at h
 unfold Hu MP
 rw [show (5000 : Int).toNat + 1 = 5001 from rfl]
 generalize BZ P 20000 = X at *
 rcases h with h | h
 ·right; left
  unfold yF; rw [ZY (by omega)]; exact h
 ·cases hE : Y1 fl 5000 5001 (fl.getD main default).body (.mk 7 main ⟨#[]⟩ []) [.mk 3 0 ⟨#[]⟩ []] ⟨0, []⟩ with
  | stop o n st =>
    rw [hE] at h; obtain ⟨h0, h1⟩ := h; by_cases h3 : o = 3
    ·exact .inl h3
    ·obtain ⟨e1, e2, e3⟩ := h1 h3
     right; right
     unfold yF; rw [ZY (by rw [e1]; exact h0), e1, e2, e3]; rfl
  | ok v st =>
    rw [hE] at h; obtain ⟨sm, rfl, _, e0, en, eo, _, _⟩ := h
    right; right
    unfold yF; rw [Z7 (by rw [e0]; decide)]
    dsimp only
    by_cases hn : (UH 400 v 20000).2 < 0
    ·rw [ZY hn, ZY hn, eo]; rfl
    ·rw [Z7 hn, Z7 hn, eo, en]
end
end Go.Proofs.YtbcfdebdikgijaaGreatDoor
