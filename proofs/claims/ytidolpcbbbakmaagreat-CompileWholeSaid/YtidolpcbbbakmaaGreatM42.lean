/- Exec of the reference of layer 47. -/
import Derived.Test.YtidolpcbbbakmaaGreatM41
namespace Go.Proofs.YtidolpcbbbakmaaGreat
open Go Go.RowKit
structure OutP where
  op : Int
  n : Int
  steps : Int
  v : ValD
  out : List ByteArray
def startF (p : ProgD) : ValD := .mk 7 p.main ⟨#[]⟩ []
def startA : ValD := .mk 3 0 ⟨#[]⟩ []
def runE (p : ProgD) (fuel : Int) : ValD × StD := runP p fuel (fuel.toNat + 1) (startF p) (locals0 p (startF p) startA) [] 0 ⟨0, [], 0, 0⟩
def endO (r : ValD × StD) (o : ValD × Int) : OutP := if r.2.e ≠ 0 then ⟨r.2.e, r.2.n, r.2.steps, default, r.2.out⟩ else if o.2 < 0 then ⟨2, 2, r.2.steps, default, r.2.out⟩ else ⟨1, r.2.n, r.2.steps, o.1, r.2.out⟩
/-- The outcome of an execution. -/
def execP (p : ProgD) (fuel : Int) : OutP := endO (runE p fuel) (obsP 400 (runE p fuel).1 20000)
def outRow (o : OutP) (y : ExpD) (ov : Value) : Array Value := #[.int .i64 o.op, .int .i64 o.n, .int .i64 o.steps, .int .i64 y.op, .int .i64 y.n, .string y.s, .slice none 0 0, y.lv, ov]
def ExOk (o : OutP) (w : World) (e : Ending) (w' : World) : Prop := ∃ (y : ExpD) (ov : Value), e = .returned (.agg (outRow o y ov)) ∧ stripX y = o.v ∧ IsO 0 none w' y ∧ (∃ B, w'.ownsRow B 9 1 ov o.out.length (strCells o.out)) ∧ Below w.heap.size w w'
theorem infoOut : (Tryz.prog.info? 50).map (·.size) = some 9 := by kernel_rfl
theorem start_ok {p : ProgD} (hp : GoodP p) : ValOk p (startF p) := .mk (fun _ => ⟨hp.main.1, hp.main.2.1, by rw [hp.main.2.2]; rfl⟩) (fun h => by cases h) (fun _ h => by cases h)
theorem eight_st {w : World} {q : Nat} {fv tv : Value} {main fuel : Int} {st : StD} {ov : Value} (h : w.heap[q]? = some (.cells (stCells fv tv main fuel st ov) 74 (0, 0))) :
    w.cell? ⟨q, 0, none⟩ = some fv ∧ w.cell? ⟨q, 1, none⟩ = some tv ∧ w.cell? ⟨q, 2, none⟩ = some (.int .i64 main) ∧ w.cell? ⟨q, 3, none⟩ = some (.int .i64 fuel) ∧ w.cell? ⟨q, 4, none⟩ = some (.int .i64 st.steps) ∧ w.cell? ⟨q, 5, none⟩ = some ov ∧ w.cell? ⟨q, 6, none⟩ = some (.int .i64 st.e) ∧ w.cell? ⟨q, 7, none⟩ = some (.int .i64 st.n) := eight_cells h
set_option maxHeartbeats 4000000 in
set_option maxRecDepth 100000 in
theorem exec_any {p : ProgD} (hp : GoodP p) (fuel : Int) (hf0 : 0 ≤ fuel) (hfu : fuel ≤ 1000000) (hC : ∀ G, CallOk p fuel G) (fv tv : Value) (w : World) (hP : IsProg w fv tv p) :
    Calls Tryz.prog 12 #[.agg #[fv, tv, .int .i64 p.main], .int .i64 fuel] w (ExOk (execP p fuel) w) := by
  obtain ⟨fa, fc, rfl, hfc, _⟩ := hP.1.1
  obtain ⟨ta, tc, rfl, htc, _⟩ := hP.2
  have hbF : Below w.heap.size w ((w.alloc (.cells #[.slice fa p.funs.length fc, .slice ta p.texts.length tc, .int .i64 p.main] 36)).alloc (.cells #[.int .i64 0, .int .i64 0, .int .i64 0, .int .i64 0, .int .i64 0, .string ⟨#[]⟩, .slice none 0 0, .slice none 0 0, .slice none 0 0] 50)) := ((Below.refl _ _).alloc (Nat.le_refl _) _).alloc (by simp) _
  have n0 : ((w.alloc (.cells #[.slice fa p.funs.length fc, .slice ta p.texts.length tc, .int .i64 p.main] 36)).alloc (.cells #[.int .i64 0, .int .i64 0, .int .i64 0, .int .i64 0, .int .i64 0, .string ⟨#[]⟩, .slice none 0 0, .slice none 0 0, .slice none 0 0] 50)).heap[w.heap.size]? = some (.cells #[.slice fa p.funs.length fc, .slice ta p.texts.length tc, .int .i64 p.main] 36 (0, 0)) := (Below.heap_alloc _ _ _ (by simp)).trans (new_heap w _)
  have n1 : ((w.alloc (.cells #[.slice fa p.funs.length fc, .slice ta p.texts.length tc, .int .i64 p.main] 36)).alloc (.cells #[.int .i64 0, .int .i64 0, .int .i64 0, .int .i64 0, .int .i64 0, .string ⟨#[]⟩, .slice none 0 0, .slice none 0 0, .slice none 0 0] 50)).heap[w.heap.size + 1]? = some (.cells (outRow ⟨0, 0, 0, default, []⟩ (.mk 0 0 ⟨#[]⟩ (.slice none 0 0) []) (.slice none 0 0)) 50 (0, 0)) := (congrArg _ (by simp)).trans (new_heap (w.alloc _) _)
  have hz : ((w.alloc (.cells #[.slice fa p.funs.length fc, .slice ta p.texts.length tc, .int .i64 p.main] 36)).alloc (.cells #[.int .i64 0, .int .i64 0, .int .i64 0, .int .i64 0, .int .i64 0, .string ⟨#[]⟩, .slice none 0 0, .slice none 0 0, .slice none 0 0] 50)).heap.size = w.heap.size + 1 + 1 := by simp
  have HP := Lib.hid hP
  have HC := Lib.hid hC
  have HST := Lib.hid (start_ok hp)
  have HPP := Lib.hid hp
  have hmain := hp.main
  obtain ⟨O, hO⟩ : ∃ O, execP p fuel = O := ⟨_, rfl⟩
  rw [hO]
  have HO := Lib.hid hO
  have HMN := Lib.hid hmain
  clear hP hC hO hp hmain
  go_enter Tryz.func12, Tryz.ntmps12
  go_upto_region 1 with fail
  generalize ((w.alloc (.cells #[.slice fa p.funs.length fc, .slice ta p.texts.length tc, .int .i64 p.main] 36)).alloc (.cells #[.int .i64 0, .int .i64 0, .int .i64 0, .int .i64 0, .int .i64 0, .string ⟨#[]⟩, .slice none 0 0, .slice none 0 0, .slice none 0 0] 50)) = W at *
  have e0 : W.cell? ⟨w.heap.size, 0, none⟩ = some (.slice fa p.funs.length fc) := by simp [World.cell?, n0]
  have e1 : W.cell? ⟨w.heap.size, 1, none⟩ = some (.slice ta p.texts.length tc) := by simp [World.cell?, n0]
  have e2 : W.cell? ⟨w.heap.size, 2, none⟩ = some (.int .i64 p.main) := by simp [World.cell?, n0]
  have HZ := Lib.hid hz
  have HBF := Lib.hid hbF
  have HN := Lib.hid (And.intro n0 n1)
  clear hz hbF n0 n1
  go_upto_region 2 with fail
  have gS := grown_alloc W (.cells #[.slice fa p.funs.length fc, .slice ta p.texts.length tc, .int .i64 p.main, .int .i64 fuel, .int .i64 0, .slice none 0 0, .int .i64 0, .int .i64 0] 74)
  have nS := heap_alloc_new W (.cells #[.slice fa p.funs.length fc, .slice ta p.texts.length tc, .int .i64 p.main, .int .i64 fuel, .int .i64 0, .slice none 0 0, .int .i64 0, .int .i64 0] 74)
  have e2' := cell_alloc_some e2 (.cells #[.slice fa p.funs.length fc, .slice ta p.texts.length tc, .int .i64 p.main, .int .i64 fuel, .int .i64 0, .slice none 0 0, .int .i64 0, .int .i64 0] 74)
  have HN2 := Lib.hid (And.intro ((gS.block _ (heap_lt HN.out.1) (by nofun)).trans HN.out.1) ((gS.block _ (heap_lt HN.out.2) (by nofun)).trans HN.out.2))
  generalize W.alloc (.cells #[.slice fa p.funs.length fc, .slice ta p.texts.length tc, .int .i64 p.main, .int .i64 fuel, .int .i64 0, .slice none 0 0, .int .i64 0, .int .i64 0] 74) = V at *
  have hb2 := HBF.out.trans (grown_under (B := w.heap.size) gS HBF.out.size (by nofun))
  have hSS : SSt V W.heap.size (.slice fa p.funs.length fc) (.slice ta p.texts.length tc) p.main fuel ⟨0, [], 0, 0⟩ (.slice none 0 0) := ⟨nS, World.ownsRow_nil _ _ _ _⟩
  have hst : stripX (.mk 7 p.main ⟨#[]⟩ (.slice none 0 0) []) = startF p := by rw [stripX_mk, stripL]; rfl
  have hsa : stripX (.mk 3 0 ⟨#[]⟩ (.slice none 0 0) []) = startA := by rw [stripX_mk, stripL]; rfl
  have hcall := HC.out (fuel.toNat + 1) (fun _ => False) w W.heap.size (.slice fa p.funs.length fc) (.slice ta p.texts.length tc) ⟨0, [], 0, 0⟩ (.slice none 0 0) (.mk 7 p.main ⟨#[]⟩ (.slice none 0 0) []) (.mk 3 0 ⟨#[]⟩ (.slice none 0 0) []) V HP.out hb2 HBF.out.size (fun _ h => h.elim) hSS (isV_flat _ _ _ _ _) (isV_flat _ _ _ _ _) (by rw [hst]; exact HST.out) rfl (by rw [hsa]; exact valOk_flat p _ _ _ (by decide) (by decide)) (by decide) (by show fuel - 0 < ((fuel.toNat + 1 : Nat) : Int); omega) (Int.le_refl _) hf0
  rw [hst, hsa] at hcall
  have HCALL := Lib.hid hcall
  rw [expV_mk, expV_mk] at HCALL
  have HRD : runP p fuel (fuel.toNat + 1) (startF p) (locals0 p (startF p) startA) [] 0 ⟨0, [], 0, 0⟩ = runE p fuel := rfl
  have HB2 := Lib.hid hb2
  have hVS := heap_lt nS
  have HGS := Lib.hid gS
  clear hcall hst hsa hSS hb2 gS nS e0 e1 e2 HC
  rw [HRD] at HCALL
  clear HRD
  unfold execP at HO
  obtain ⟨r, hr⟩ : ∃ r, runE p fuel = r := ⟨_, rfl⟩
  have HEND := Lib.hid (runP_ok HPP.out fuel (fuel.toNat + 1) (startF p) (locals0 p (startF p) startA) [] 0 ⟨0, [], 0, 0⟩ HST.out rfl (locals0_ok _ (valOk_flat p _ _ _ (by decide) (by decide))) (fun _ h => by cases h) (by decide) hf0)
  rw [show runP p fuel (fuel.toNat + 1) (startF p) (locals0 p (startF p) startA) [] 0 ⟨0, [], 0, 0⟩ = r from hr] at HEND
  rw [hr] at HO HCALL
  clear hr
  go_upto_region 3 with (go_at_call 29; refine HCALL.out.mono ?_; rintro e w4 ⟨⟨xo, xn, xs, xv, xl⟩, o3, rfl, hx, hxv, hS4, hE4⟩; obtain ⟨xa, xc, rfl, _⟩ := hxv.parts.1; rw [expV_mk])
  have g5 := grown_alloc w4 (.cells #[.int .i64 xo, .int .i64 xn, .string xs, .slice xa xl.length xc] 77)
  have n5 := heap_alloc_new w4 (.cells #[.int .i64 xo, .int .i64 xn, .string xs, .slice xa xl.length xc] 77)
  have hz4 := hE4.size
  have hzW := HZ.out
  have n15 := (g5.block _ (heap_lt ((hE4.kept _ (heap_lt HN2.out.2) (by omega) (by nofun)).trans HN2.out.2)) (by nofun)).trans ((hE4.kept _ (heap_lt HN2.out.2) (by omega) (by nofun)).trans HN2.out.2)
  have hbX := (HB2.out.trans (hE4.below (B := w.heap.size) (by omega) hVS (fun k hk => by cases hk))).trans (grown_under (B := w.heap.size) g5 (by omega) (by nofun))
  obtain ⟨oa, oc, rfl⟩ := own_shape hS4.own
  have HSX := Lib.hid (hS4.free g5)
  have HXV := Lib.hid (hxv.kept (keepV_grown g5))
  have HX := Lib.hid hx
  have HN5 := Lib.hid (And.intro n5 n15)
  have HBX := Lib.hid hbX
  clear hbX n15 hx hxv hS4 hE4 n5 e2' hzW
  have hzX := g5.size
  clear g5
  generalize w4.alloc (.cells #[.int .i64 xo, .int .i64 xn, .string xs, .slice xa xl.length xc] 77) = X at *
  obtain ⟨_, _, _, _, q4, q5, q6, q7⟩ := eight_st HSX.out.blk
  obtain ⟨x0, x1, x2, x3⟩ := cells4 HN5.out.1
  have q64 : X.drew.cell? ⟨W.heap.size, 4, none⟩ = some (.int .i64 r.2.steps) ∧ X.drew.cell? ⟨W.heap.size, 5, none⟩ = some (.slice oa r.2.out.length oc) ∧ X.drew.cell? ⟨W.heap.size, 6, none⟩ = some (.int .i64 r.2.e) ∧ X.drew.cell? ⟨W.heap.size, 7, none⟩ = some (.int .i64 r.2.n) := ⟨q4, q5, q6, q7⟩
  go_region_held3 (fun w9 => w9.cell? ⟨W.heap.size, 4, none⟩ = some (.int .i64 r.2.steps) ∧ w9.cell? ⟨W.heap.size, 5, none⟩ = some (.slice oa r.2.out.length oc) ∧ w9.cell? ⟨W.heap.size, 6, none⟩ = some (.int .i64 r.2.e) ∧ w9.cell? ⟨W.heap.size, 7, none⟩ = some (.int .i64 r.2.n)) (first | exact q64 | go_keep) (fail)
  have g6 := both (grown_alloc X (.cells #[.int .i64 r.2.e, .int .i64 r.2.n, .int .i64 r.2.steps, .int .i64 0, .int .i64 0, .string ⟨#[]⟩, .slice none 0 0, .slice none 0 0, .slice oa r.2.out.length oc] 50)) (grown_drew _)
  have n6 := ((grown_drew (X.alloc (.cells #[.int .i64 r.2.e, .int .i64 r.2.n, .int .i64 r.2.steps, .int .i64 0, .int .i64 0, .string ⟨#[]⟩, .slice none 0 0, .slice none 0 0, .slice oa r.2.out.length oc] 50))).block X.heap.size (heap_lt (heap_alloc_new X _)) (by nofun)).trans (heap_alloc_new X (.cells #[.int .i64 r.2.e, .int .i64 r.2.n, .int .i64 r.2.steps, .int .i64 0, .int .i64 0, .string ⟨#[]⟩, .slice none 0 0, .slice none 0 0, .slice oa r.2.out.length oc] 50))
  have HSY := Lib.hid (HSX.out.free g6)
  have HXY := Lib.hid (HXV.out.kept (keepV_grown g6))
  have n51 := (g6.block _ (heap_lt HN5.out.1) (by nofun)).trans HN5.out.1
  have n61 := (g6.block _ (heap_lt HN5.out.2) (by nofun)).trans HN5.out.2
  have HBY := Lib.hid (HBX.out.trans (grown_under (B := w.heap.size) g6 HBX.out.size (by nofun)))
  have hzY := g6.size
  have hzo := heap_lt n6
  have hXr := heap_lt HN5.out.2
  clear g6 q4 q5 q6 q7 q64 x0 x1 x2 x3
  generalize (X.alloc (.cells #[.int .i64 r.2.e, .int .i64 r.2.n, .int .i64 r.2.steps, .int .i64 0, .int .i64 0, .string ⟨#[]⟩, .slice none 0 0, .slice none 0 0, .slice oa r.2.out.length oc] 50)).drew = Y at *
  obtain ⟨_, _, _, _, q4, q5, q6, q7⟩ := eight_st HSY.out.blk
  obtain ⟨x0, x1, x2, x3⟩ := cells4 n51
  have HNR := Lib.hid n61
  by_cases he : r.2.e = 0
  · have heb : (r.2.e != 0) = false := by rw [he]; rfl
    have hob := observe_any 400 (Nat.le_refl _) (fun _ => False) _ Y 20000 HXY.out (by decide) (Int.le_refl _)
    rw [HX.out, expV_mk] at hob
    have hob : Calls Tryz.prog 30 #[.agg #[.int .i64 xo, .int .i64 xn, .string xs, .slice xa xl.length xc], .int .i64 20000, .int .i64 400] Y (ObOk (obsP 400 r.1 20000) Y) := hob
    have hOO := HO.out
    unfold endO at hOO
    rw [if_neg (by simpa using he)] at hOO
    generalize obsP 400 r.1 20000 = r2 at *
    have HOB := Lib.hid hob
    have HOO := Lib.hid hOO
    clear hob hOO HO
    have hold := HSY.out.own
    go_upto_region 7 with (go_at_call 30; refine HOB.out.mono ?_; rintro e w7 ⟨⟨yo, yn, ys, yv, yl⟩, rfl, hy1, hy2, hy3⟩; obtain ⟨ya, yc, rfl, _⟩ := hy2.parts.1; simp only [rowV, ExpD.op, ExpD.n, ExpD.s, ExpD.lv])
    have g8 := both hy3 (grown_alloc w7 (.cells #[.int .i64 yo, .int .i64 yn, .string ys, .slice none 0 0, .slice ya yl.length yc] 48))
    have n8 := heap_alloc_new w7 (.cells #[.int .i64 yo, .int .i64 yn, .string ys, .slice none 0 0, .slice ya yl.length yc] 48)
    have n6' := (g8.block _ (heap_lt n6) (by nofun)).trans n6
    have n61' := (g8.block _ (heap_lt n61) (by nofun)).trans n61
    have HOW := Lib.hid (owns_grown HSY.out.own g8 (by nofun))
    have HY2 := Lib.hid (hy2.keep (r' := none) (w' := w7.alloc (.cells #[.int .i64 yo, .int .i64 yn, .string ys, .slice none 0 0, .slice ya yl.length yc] 48)) (by simp) (fun b hb _ _ => (grown_alloc w7 _).block b hb (by nofun)) (Nat.le_refl _) (fun _ _ _ h => h))
    have HB8 := Lib.hid (HBY.out.trans (grown_under (B := w.heap.size) g8 HBY.out.size (by nofun)))
    have hz8 := g8.size
    have hz87 := hy3.size
    have HY1 := Lib.hid hy1
    clear g8 n6 n61 hold hy1 hy2 hy3 q4 q5 q6 q7 x0 x1 x2 x3
    obtain ⟨c0, c1, c2, c3, c4⟩ := val_cells n8
    generalize w7.alloc (.cells #[.int .i64 yo, .int .i64 yn, .string ys, .slice none 0 0, .slice ya yl.length yc] 48) = Z at *
    have z0 := Lib.frozen_of_heap n6' 0
    have z1 := Lib.frozen_of_heap n6' 1
    have z3 := Lib.frozen_of_heap n6' 3
    have z4 := Lib.frozen_of_heap n6' 4
    have z5 := Lib.frozen_of_heap n6' 5
    have z6 := Lib.frozen_of_heap n6' 6
    have z7 := Lib.frozen_of_heap n6' 7
    have k0 := (cell_of_row _ _ 0 _ _ _ n6').trans (show _ = some (Value.int .i64 r.2.e) from rfl)
    have k1 := (cell_of_row _ _ 1 _ _ _ n6').trans (show _ = some (Value.int .i64 r.2.n) from rfl)
    have k3 := (cell_of_row _ _ 3 _ _ _ n6').trans (show _ = some (Value.int .i64 0) from rfl)
    have k4 := (cell_of_row _ _ 4 _ _ _ n6').trans (show _ = some (Value.int .i64 0) from rfl)
    have k5 := (cell_of_row _ _ 5 _ _ _ n6').trans (show _ = some (Value.string ⟨#[]⟩) from rfl)
    have k6 := (cell_of_row _ _ 6 _ _ _ n6').trans (show _ = some (Value.slice none 0 0) from rfl)
    have k7 := (cell_of_row _ _ 7 _ _ _ n6').trans (show _ = some (Value.slice none 0 0) from rfl)
    by_cases h2 : r2.2 < 0
    · have hOO := HOO.out
      rw [if_pos h2] at hOO
      subst hOO
      have s1 := heap_set_same (i := 0) n6' (.int .i64 2)
      have s2 := heap_set_same (i := 1) s1 (.int .i64 2)
      have gs := both (grown_set Z X.heap.size 0 (.int .i64 2)) (grown_set _ X.heap.size 1 (.int .i64 2))
      have n9 := (gs.block _ (heap_lt n61') (fun e => by have := Option.some.inj e; omega)).trans n61'
      go_wp2_with (first
        | (refine wpList_load_row rfl 50 _ rfl X.heap.size rfl 50 #[.int .i64 2, .int .i64 2, .int .i64 r.2.steps, .int .i64 0, .int .i64 0, .string ⟨#[]⟩, .slice none 0 0, .slice none 0 0, .slice oa r.2.out.length oc] (0, 0) _ s2 Tryz.underlying50 rfl infoOut ?_)
        | (refine wpList_store_row rfl 50 _ _ rfl (w.heap.size + 1) #[.int .i64 2, .int .i64 2, .int .i64 r.2.steps, .int .i64 0, .int .i64 0, .string ⟨#[]⟩, .slice none 0 0, .slice none 0 0, .slice oa r.2.out.length oc] rfl rfl 50 _ n9 infoOut rfl (all_one _ rfl) ?_))
      have q2 := setRow_heap _ _ _ #[.int .i64 2, .int .i64 2, .int .i64 r.2.steps, .int .i64 0, .int .i64 0, .string ⟨#[]⟩, .slice none 0 0, .slice none 0 0, .slice oa r.2.out.length oc] _ _ n9
      have hgs := setRow_grown ((Z.setCell ⟨X.heap.size, 0, none⟩ (.int .i64 2)).setCell ⟨X.heap.size, 1, none⟩ (.int .i64 2)) (w.heap.size + 1) #[.int .i64 2, .int .i64 2, .int .i64 r.2.steps, .int .i64 0, .int .i64 0, .string ⟨#[]⟩, .slice none 0 0, .slice none 0 0, .slice oa r.2.out.length oc]
      exact bodyPost_ret (results_cell_row rfl _ _ (w.heap.size + 1) 50 #[.int .i64 2, .int .i64 2, .int .i64 r.2.steps, .int .i64 0, .int .i64 0, .string ⟨#[]⟩, .slice none 0 0, .slice none 0 0, .slice oa r.2.out.length oc] (0, 0) _ rfl q2 Tryz.underlying50 rfl infoOut) rfl
        ⟨(.mk 0 0 ⟨#[]⟩ (.slice none 0 0) []), .slice oa r.2.out.length oc, rfl, default_strip, isO_flat _ _ _ _ _ _, ⟨_, owns_grown (owns_grown HOW.out gs (fun k hk e => by have := (owns_lt HSX.out.own _ e).2; cases hk; omega)) hgs (fun k hk e => by have := (owns_lt HSY.out.own _ e).1; have := HZ.out; cases hk; omega)⟩, (HB8.out.trans (grown_under (B := w.heap.size) gs HB8.out.size (fun k hk => by cases hk; omega))).trans (grown_under (B := w.heap.size) hgs (by have := gs.size; have := HB8.out.size; omega) (fun k hk => by cases hk; omega))⟩
    · have hOO := HOO.out
      rw [if_neg h2] at hOO
      subst hOO
      go_wp2_with fail
      have n8d : Z.drew.heap[w7.heap.size]? = some (.cells #[.int .i64 yo, .int .i64 yn, .string ys, .slice none 0 0, .slice ya yl.length yc] 48 (0, 0)) := n8
      have hne : w7.heap.size ≠ X.heap.size := by omega
      refine wp_region_held_drew (S := fun w9 => w9.heap[w7.heap.size]? = some (.cells #[.int .i64 yo, .int .i64 yn, .string ys, .slice none 0 0, .slice ya yl.length yc] 48 (0, 0))) (by kernel_rfl) n8d (fun hHeld => ?_)
      refine held_take 0 53 (.agg #[.int .i64 yo, .int .i64 yn, .string ys, .slice none 0 0, .slice ya yl.length yc]) rfl rfl (by kernel_rfl) (by kernel_rfl) (by kernel_rfl) (fun _ _ _ h => h) (Or.inl ⟨by rfl, fun w9 hSw => ?y0⟩) n8d ?_
      case y0 =>
        have hSw : w9.heap[w7.heap.size]? = some (.cells #[.int .i64 yo, .int .i64 yn, .string ys, .slice none 0 0, .slice ya yl.length yc] 48 (0, 0)) := hSw
        obtain ⟨t0, t1, t2, t3, t4⟩ := val_cells hSw
        go_simp
      simp only [Act.put, List.setIfInBounds_toArray, List.set_cons_zero, List.set_cons_succ]
      refine held_take 1 54 (.pointer (some ⟨X.heap.size, 0, none⟩)) rfl rfl (by kernel_rfl) (by kernel_rfl) (by kernel_rfl) (fun _ _ _ h => h) (Or.inl ⟨by rfl, fun w9 hSw => ?y1⟩) n8d ?_
      case y1 => go_simp
      simp only [Act.put, List.setIfInBounds_toArray, List.set_cons_zero, List.set_cons_succ]
      refine wpAnyH_ready (rs := [2]) (by kernel_rfl) (by simp) (AllReadyH.cons (by rfl) (fun K hK => ?_) AllReadyH.nil)
      have gA : Z.grownBy (Z.setCell ⟨X.heap.size, 0, none⟩ (.int .i64 1)).drew (some X.heap.size) := both (grown_set Z X.heap.size 0 (.int .i64 1)) (free_of (grown_drew _) _)
      have m8 : (Z.setCell ⟨X.heap.size, 0, none⟩ (.int .i64 1)).drew.heap[w7.heap.size]? = some (.cells #[.int .i64 yo, .int .i64 yn, .string ys, .slice none 0 0, .slice ya yl.length yc] 48 (0, 0)) := (gA.block _ (heap_lt n8) (fun e => hne (Option.some.inj e))).trans n8
      have m6 : (Z.setCell ⟨X.heap.size, 0, none⟩ (.int .i64 1)).drew.heap[X.heap.size]? = some (.cells #[.int .i64 1, .int .i64 r.2.n, .int .i64 r.2.steps, .int .i64 0, .int .i64 0, .string ⟨#[]⟩, .slice none 0 0, .slice none 0 0, .slice oa r.2.out.length oc] 50 (0, 0)) := heap_set_same (w := Z) (i := 0) n6' (.int .i64 1)
      have z0d : Z.drew.frozen? ⟨X.heap.size, 0, none⟩ = false := z0
      have k0d : Z.drew.cell? ⟨X.heap.size, 0, none⟩ = some (Value.int .i64 r.2.e) := k0
      go_simp
      refine hK.out _ _ m8 (fun _ => ?_)
      clear hK K
      generalize (Z.setCell ⟨X.heap.size, 0, none⟩ (.int .i64 1)).drew = Q at *
      refine held_take 3 55 (.pointer (some ⟨X.heap.size, 3, none⟩)) rfl rfl (by kernel_rfl) (by kernel_rfl) (by kernel_rfl) (fun _ _ _ h => h) (Or.inl ⟨by rfl, fun w9 hSw => ?y3⟩) m8 ?_
      case y3 => go_simp
      simp only [Act.put, List.setIfInBounds_toArray, List.set_cons_zero, List.set_cons_succ]
      refine wpAnyH_ready (rs := [4]) (by kernel_rfl) (by simp) (AllReadyH.cons (by rfl) (fun K hK => ?_) AllReadyH.nil)
      have gB : Q.grownBy (((((Q.setCell ⟨X.heap.size, 3, none⟩ (.int .i64 yo)).setCell ⟨X.heap.size, 4, none⟩ (.int .i64 yn)).setCell ⟨X.heap.size, 5, none⟩ (.string ys)).setCell ⟨X.heap.size, 6, none⟩ (.slice none 0 0)).setCell ⟨X.heap.size, 7, none⟩ (.slice ya yl.length yc)) (some X.heap.size) := both (both (both (both (grown_set Q X.heap.size 3 (.int .i64 yo)) (grown_set _ X.heap.size 4 (.int .i64 yn))) (grown_set _ X.heap.size 5 (.string ys))) (grown_set _ X.heap.size 6 (.slice none 0 0))) (grown_set _ X.heap.size 7 (.slice ya yl.length yc))
      have l8 : (((((Q.setCell ⟨X.heap.size, 3, none⟩ (.int .i64 yo)).setCell ⟨X.heap.size, 4, none⟩ (.int .i64 yn)).setCell ⟨X.heap.size, 5, none⟩ (.string ys)).setCell ⟨X.heap.size, 6, none⟩ (.slice none 0 0)).setCell ⟨X.heap.size, 7, none⟩ (.slice ya yl.length yc)).heap[w7.heap.size]? = some (.cells #[.int .i64 yo, .int .i64 yn, .string ys, .slice none 0 0, .slice ya yl.length yc] 48 (0, 0)) := (gB.block _ (heap_lt m8) (fun e => hne (Option.some.inj e))).trans m8
      have bE : (((((Q.setCell ⟨X.heap.size, 3, none⟩ (.int .i64 yo)).setCell ⟨X.heap.size, 4, none⟩ (.int .i64 yn)).setCell ⟨X.heap.size, 5, none⟩ (.string ys)).setCell ⟨X.heap.size, 6, none⟩ (.slice none 0 0)).setCell ⟨X.heap.size, 7, none⟩ (.slice ya yl.length yc)).heap[X.heap.size]? = some (.cells #[.int .i64 1, .int .i64 r.2.n, .int .i64 r.2.steps, .int .i64 yo, .int .i64 yn, .string ys, .slice none 0 0, .slice ya yl.length yc, .slice oa r.2.out.length oc] 50 (0, 0)) := heap_set_same (i := 7) (heap_set_same (i := 6) (heap_set_same (i := 5) (heap_set_same (i := 4) (heap_set_same (i := 3) m6 (.int .i64 yo)) (.int .i64 yn)) (.string ys)) (.slice none 0 0)) (.slice ya yl.length yc)
      have f3 := Lib.frozen_of_heap m6 3
      have f4 := Lib.frozen_of_heap m6 4
      have f5 := Lib.frozen_of_heap m6 5
      have f6 := Lib.frozen_of_heap m6 6
      have f7 := Lib.frozen_of_heap m6 7
      have d3 := (cell_of_row _ _ 3 _ _ _ m6).trans (show _ = some (Value.int .i64 0) from rfl)
      have d4 := (cell_of_row _ _ 4 _ _ _ m6).trans (show _ = some (Value.int .i64 0) from rfl)
      have d5 := (cell_of_row _ _ 5 _ _ _ m6).trans (show _ = some (Value.string ⟨#[]⟩) from rfl)
      have d6 := (cell_of_row _ _ 6 _ _ _ m6).trans (show _ = some (Value.slice none 0 0) from rfl)
      have d7 := (cell_of_row _ _ 7 _ _ _ m6).trans (show _ = some (Value.slice none 0 0) from rfl)
      have gE : Z.grownBy (((((Q.setCell ⟨X.heap.size, 3, none⟩ (.int .i64 yo)).setCell ⟨X.heap.size, 4, none⟩ (.int .i64 yn)).setCell ⟨X.heap.size, 5, none⟩ (.string ys)).setCell ⟨X.heap.size, 6, none⟩ (.slice none 0 0)).setCell ⟨X.heap.size, 7, none⟩ (.slice ya yl.length yc)) (some X.heap.size) := both gA gB
      go_simp
      refine hK.out _ _ l8 (fun _ => ?_)
      clear hK K gA gB l8 f3 f4 f5 f6 f7 d3 d4 d5 d6 d7 m6 m8 z0d k0d hHeld n8d
      refine wpAnyH_done (by kernel_rfl) ?_ _
      generalize (((((Q.setCell ⟨X.heap.size, 3, none⟩ (.int .i64 yo)).setCell ⟨X.heap.size, 4, none⟩ (.int .i64 yn)).setCell ⟨X.heap.size, 5, none⟩ (.string ys)).setCell ⟨X.heap.size, 6, none⟩ (.slice none 0 0)).setCell ⟨X.heap.size, 7, none⟩ (.slice ya yl.length yc)) = Q2 at *
      have hlt7 := heap_lt n8
      have n9 := (gE.block _ (heap_lt n61') (fun e => by have := Option.some.inj e; omega)).trans n61'
      go_wp2_with (first
        | (refine wpList_load_row rfl 50 _ rfl X.heap.size rfl 50 #[.int .i64 1, .int .i64 r.2.n, .int .i64 r.2.steps, .int .i64 yo, .int .i64 yn, .string ys, .slice none 0 0, .slice ya yl.length yc, .slice oa r.2.out.length oc] (0, 0) _ bE Tryz.underlying50 rfl infoOut ?_)
        | (refine wpList_store_row rfl 50 _ _ rfl (w.heap.size + 1) #[.int .i64 1, .int .i64 r.2.n, .int .i64 r.2.steps, .int .i64 yo, .int .i64 yn, .string ys, .slice none 0 0, .slice ya yl.length yc, .slice oa r.2.out.length oc] rfl rfl 50 _ n9 infoOut rfl (all_one _ rfl) ?_))
      have q2 := setRow_heap _ _ _ #[.int .i64 1, .int .i64 r.2.n, .int .i64 r.2.steps, .int .i64 yo, .int .i64 yn, .string ys, .slice none 0 0, .slice ya yl.length yc, .slice oa r.2.out.length oc] _ _ n9
      have hgs := setRow_grown Q2 (w.heap.size + 1) #[.int .i64 1, .int .i64 r.2.n, .int .i64 r.2.steps, .int .i64 yo, .int .i64 yn, .string ys, .slice none 0 0, .slice ya yl.length yc, .slice oa r.2.out.length oc]
      exact bodyPost_ret (results_cell_row rfl _ _ (w.heap.size + 1) 50 #[.int .i64 1, .int .i64 r.2.n, .int .i64 r.2.steps, .int .i64 yo, .int .i64 yn, .string ys, .slice none 0 0, .slice ya yl.length yc, .slice oa r.2.out.length oc] (0, 0) _ rfl q2 Tryz.underlying50 rfl infoOut) rfl
        ⟨.mk yo yn ys (.slice ya yl.length yc) yl, .slice oa r.2.out.length oc, rfl, HY1.out, HY2.out.keep (by rw [setRow_size]; exact gE.size) (fun b hb hl _ => (setRow_other _ _ _ _ (by omega)).trans (gE.block b hb (fun e => by have := Option.some.inj e; omega))) (Nat.zero_le _) (fun _ _ _ h => h), ⟨_, owns_grown (owns_grown HOW.out gE (fun k hk e => by have := (owns_lt HSX.out.own _ e).2; cases hk; omega)) hgs (fun k hk e => by have := (owns_lt HSY.out.own _ e).1; have := HZ.out; cases hk; omega)⟩, (HB8.out.trans (grown_under (B := w.heap.size) gE HB8.out.size (fun k hk => by cases hk; omega))).trans (grown_under (B := w.heap.size) hgs (by have := gE.size; have := HB8.out.size; omega) (fun k hk => by cases hk; omega))⟩
  · have heb : (r.2.e != 0) = true := by rw [bne, beq_eq_false_iff_ne.2 he]; rfl
    have hOO := HO.out
    unfold endO at hOO
    rw [if_pos he] at hOO
    go_wp2_with (first
      | (refine wpList_load_row rfl 50 _ rfl X.heap.size rfl 50 _ (0, 0) _ n6 Tryz.underlying50 rfl infoOut ?_)
      | (refine wpList_store_row rfl 50 _ _ rfl (w.heap.size + 1) #[.int .i64 r.2.e, .int .i64 r.2.n, .int .i64 r.2.steps, .int .i64 0, .int .i64 0, .string ⟨#[]⟩, .slice none 0 0, .slice none 0 0, .slice oa r.2.out.length oc] rfl rfl 50 _ n61 infoOut rfl (all_one _ rfl) ?_))
    have q2 := setRow_heap _ _ _ #[.int .i64 r.2.e, .int .i64 r.2.n, .int .i64 r.2.steps, .int .i64 0, .int .i64 0, .string ⟨#[]⟩, .slice none 0 0, .slice none 0 0, .slice oa r.2.out.length oc] _ _ n61
    have hgs := setRow_grown Y (w.heap.size + 1) #[.int .i64 r.2.e, .int .i64 r.2.n, .int .i64 r.2.steps, .int .i64 0, .int .i64 0, .string ⟨#[]⟩, .slice none 0 0, .slice none 0 0, .slice oa r.2.out.length oc]
    subst hOO
    exact bodyPost_ret (results_cell_row rfl _ _ (w.heap.size + 1) 50 #[.int .i64 r.2.e, .int .i64 r.2.n, .int .i64 r.2.steps, .int .i64 0, .int .i64 0, .string ⟨#[]⟩, .slice none 0 0, .slice none 0 0, .slice oa r.2.out.length oc] (0, 0) _ rfl q2 Tryz.underlying50 rfl infoOut) rfl
      ⟨(.mk 0 0 ⟨#[]⟩ (.slice none 0 0) []), .slice oa r.2.out.length oc, rfl, default_strip, isO_flat _ _ _ _ _ _, ⟨_, owns_grown HSY.out.own hgs (fun k hk e => by have := (owns_lt HSY.out.own _ e).1; have := HZ.out; cases hk; omega)⟩, HBY.out.trans (grown_under (B := w.heap.size) hgs HBY.out.size (fun k hk => by cases hk; omega))⟩
end Go.Proofs.YtidolpcbbbakmaaGreat
