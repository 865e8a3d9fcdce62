/- Part of the proof; its texts: Eo4. -/
import Derived.Test.YtbcfdebdikgijaaGreatDoorS25
set_option maxRecDepth 100000
set_option linter.unusedVariables false
set_option linter.unusedSimpArgs false
set_option maxHeartbeats 4000000
namespace Go.Proofs.YtbcfdebdikgijaaGreatDoor
open Go Go.RowKit
theorem cell_below {w w' : World} {a : Addr} {v : Value} (h : w.cell? a = some v) (hb : Below w.heap.size w w') : w'.cell? a = some v := by
 have h2 := World.block_lt_of_cell? w _ h
 unfold World.cell? at h ⊢
 rw [hb.block _ h2]
 exact h
def Yes (w : World) (e : Ending) (w' : World) : Prop := e = .returned (.bool true) /\ Below w.heap.size w w'
theorem J9 (av bv : Value) (l : List ByteArray) (w : World) (ha : Xv w av l) (hb : Xv w bv l) (hl : l.length <= 1000) :
 Calls Tryz.prog 36 #[av, bv] w (Yes w) := by
 have HA := Z9 ha
 have HB := Z9 hb
 obtain ⟨a1, c1, rfl, _⟩ := ha
 obtain ⟨a2, c2, rfl, _⟩ := hb
 have HW := Z9 (Below.refl w.heap.size w)
 go_in
 go_wp2_with fail
 go_loopw [5] (fun i wr => ∃ k : Nat, k <= l.length /\ i = .int .i64 k /\ Hid (Below w.heap.size w wr)) (fun i _ => l.length - (intOf i).toNat)
 case atStart => exact ⟨0, Nat.zero_le _, rfl, HW⟩
 case round =>
  obtain ⟨k, hk, rfl, G8⟩ := hrel; by_cases hkl : k < l.length
  ·obtain ⟨b, off, c, zA, _, _, t0⟩ := Vj (Xe.below HA.out G8.out) k hkl
   obtain ⟨b', off', c', dX, _, _, u0⟩ := Vj (Xe.below HB.out G8.out) k hkl; obtain ⟨rfl, _, rfl⟩ := Value.slice.inj zA; obtain ⟨rfl, _, rfl⟩ := Value.slice.inj dX; generalize l.getD k default = s at t0 u0; clear zA dX; have hkn : (k : Int) < ((l.length : Nat) : Int) := by omega
   have HD := Z9 (G8.out.trans (ZX (B := w.heap.size) (Z4 wr) G8.out.size (by nofun))); go_wp2_with fail; go_region; go_wp2_with fail; go_roundw
   case rel => exact ⟨k + 1, by omega, by go_num, HD⟩
   case measure => simp [intOf]; omega
  ·obtain rfl : k = l.length := by omega
   go_wp2; go_ret; exact ⟨rfl, G8.out⟩
def obV (x : Z0) : Value := .agg (ZN x.op x.n x.s x.lv)
theorem Qi {lo : Nat} {r : Option Nat} {w : World} {x : Z0} (h : Pm lo r w x) : ∃ a c, x.lv = .slice a x.l.length c := by
 cases h with
 | mk h1 _ _ => obtain ⟨a, c, e, _⟩ := h1; exact ⟨a, c, e⟩
theorem Nh (op n : Int) (s : ByteArray) (v : Value) (l : List Z0) : obV (.mk op n s v l) = .agg #[.int .i64 op, .int .i64 n, .string s, .slice none 0 0, v] := rfl
theorem J8 {lo : Nat} {r : Option Nat} {w0 : World} {x : Z0} (hx : Pm lo r w0 x) : ∀ (lo' : Nat) (r' : Option Nat) (y : Z0) (w : World), Pm lo' r' w0 y -> ZW x = ZW y -> Below w0.heap.size w0 w ->
 Calls Tryz.prog 35 #[obV x, obV y] w (Yes w) := by
 induction hx with
 | @mk op n s lv la h1 h2 h3 ih =>
   intro lo' r' y w hy he hb; obtain ⟨op', n', s', bR, lb⟩ := y; rw [Y2, Y2, XZ, XZ] at he; obtain ⟨rfl, rfl, rfl, hll⟩ := ZT.mk.inj he; have hlen : la.length = lb.length := by have := congrArg List.length hll; rwa [List.length_map, List.length_map] at this
   obtain ⟨g1, _, g3⟩ := hy.parts; obtain ⟨xa, ca, rfl, hca, _⟩ := id h1; obtain ⟨xb, cb, rfl, hcb, _⟩ := id g1; rw [Nh, Nh, <- hlen]; have HH1 := Z9 h1; have HG1 := Z9 g1; have SC := Z9 ih; have HG3 := Z9 g3; have H3 := Z9 h3; have HLL := Z9 hll; have HLEN := Z9 hlen; have HB := Z9 hb; have hbW : Below w.heap.size w ((w.alloc (.cells #[.int .i64 op, .int .i64 n, .string s, .slice none 0 0, .slice xa la.length ca] 43)).alloc (.cells #[.int .i64 op, .int .i64 n, .string s, .slice none 0 0, .slice xb la.length cb] 43)) := ((Below.refl _ _).alloc (Nat.le_refl _) _).alloc (by simp) _; have n0 : ((w.alloc (.cells #[.int .i64 op, .int .i64 n, .string s, .slice none 0 0, .slice xa la.length ca] 43)).alloc (.cells #[.int .i64 op, .int .i64 n, .string s, .slice none 0 0, .slice xb la.length cb] 43)).heap[w.heap.size]? = some (.cells #[.int .i64 op, .int .i64 n, .string s, .slice none 0 0, .slice xa la.length ca] 43 (0, 0)) := (Below.heap_alloc _ _ _ (by simp)).trans (ZV w _); have n1 : ((w.alloc (.cells #[.int .i64 op, .int .i64 n, .string s, .slice none 0 0, .slice xa la.length ca] 43)).alloc (.cells #[.int .i64 op, .int .i64 n, .string s, .slice none 0 0, .slice xb la.length cb] 43)).heap[w.heap.size + 1]? = some (.cells #[.int .i64 op, .int .i64 n, .string s, .slice none 0 0, .slice xb la.length cb] 43 (0, 0)) := (congrArg _ (by simp)).trans (ZV (w.alloc _) _); clear h1 h3 ih g1 g3 he hll hy hb hlen; go_in; go_upto_region 1 with fail; generalize ((w.alloc (.cells #[.int .i64 op, .int .i64 n, .string s, .slice none 0 0, .slice xa la.length ca] 43)).alloc (.cells #[.int .i64 op, .int .i64 n, .string s, .slice none 0 0, .slice xb la.length cb] 43)) = W at *; obtain ⟨a0, a1, a2, a3, a4⟩ := Yh n0; obtain ⟨c0, c1, c2, c3, c4⟩ := Yh n1; have HN := Z9 (And.intro n0 n1); have IY := Z9 hbW; have HR := Z9 (Below.refl W.heap.size W); clear n0 n1 hbW; go_wp2_with fail; go_loopw [5] (fun i wr => i = .int .i64 0 /\ wr = W) (fun _ _ => 0)
   case atStart => exact ⟨rfl, rfl⟩
   case round =>
    obtain ⟨rfl, hwr⟩ := hrel; have hwr := hwr.symm; subst hwr; go_wp2_with fail; go_loopw [6] (fun i wr => ∃ k : Nat, k <= la.length /\ i = .int .i64 k /\ Hid (Below W.heap.size W wr)) (fun i _ => la.length - (intOf i).toNat)
    case atStart => exact ⟨0, Nat.zero_le _, rfl, HR⟩
    case round =>
     obtain ⟨k, hk, rfl, G8⟩ := hrel; have m0 := (G8.out.block _ (Z6 HN.out.1)).trans HN.out.1; have m1 := (G8.out.block _ (Z6 HN.out.2)).trans HN.out.2; obtain ⟨_, _, _, _, t4⟩ := Yh m0; obtain ⟨_, _, _, _, u4⟩ := Yh m1; have hWz := IY.out.size; have hb0 : Below w0.heap.size w0 wr := (HB.out.trans (IY.out.mono HB.out.size)).trans (G8.out.mono (Nat.le_trans HB.out.size IY.out.size)); by_cases hkl : k < la.length
     ·obtain ⟨b1, o1, c1', hv1, _, _, p0, p1, p2, p3, p4⟩ := Ao (HH1.out.keep hb0.size (fun b hb _ _ => hb0.block b hb) (Nat.le_refl _) (fun _ _ _ h => h)) k hkl
      obtain ⟨b2, o2, c2', hv2, _, _, q0, q1, q2, q3, q4⟩ := Ao (HG1.out.keep hb0.size (fun b hb _ _ => hb0.block b hb) (Nat.le_refl _) (fun _ _ _ h => h)) k (by rw [<- HLEN.out]; exact hkl); obtain ⟨rfl, _, rfl⟩ := Value.slice.inj hv1; obtain ⟨rfl, _, rfl⟩ := Value.slice.inj hv2; have hpm := Zr default la k hkl; have hqm := Zr default lb k (by rw [<- HLEN.out]; exact hkl); have hpq : ZW (la.getD k default) = ZW (lb.getD k default) := by
       have e := congrArg (fun l => l[k]?) HLL.out; simp only [List.getElem?_map] at e; rw [List.getElem?_eq_getElem hkl, List.getElem?_eq_getElem (by rw [<- HLEN.out]; exact hkl)] at e; have e2 := Option.some.inj e; simp only [List.getD, List.getElem?_eq_getElem hkl, List.getElem?_eq_getElem (show k < lb.length by rw [<- HLEN.out]; exact hkl), Option.getD_some]; exact e2
      have hC := fun V (hV : Below w0.heap.size w0 V) => SC.out _ hpm _ _ _ V (HG3.out _ hqm) hpq hV
      have hps := Qi (H3.out _ hpm); have hqs := Qi (HG3.out _ hqm); generalize la.getD k default = p at *; generalize lb.getD k default = q at *; obtain ⟨po, pn, ps, pv, pl⟩ := p; obtain ⟨qo, qn, qs, qv, ql⟩ := q; obtain ⟨pa, pc, hpv⟩ := hps; obtain ⟨qa, qc, hqv⟩ := hqs; simp only [Z0.op, Z0.n, Z0.s, Z0.lv, Z0.l] at p0 p1 p2 p3 p4 q0 q1 q2 q3 q4 hpv hqv; subst hpv hqv; rw [Nh, Nh] at hC; have HC := Z9 hC; have hkn : (k : Int) < ((la.length : Nat) : Int) := by omega
      have HD := Z9 (hb0.trans (ZX (B := w0.heap.size) (Z4 wr) hb0.size (by nofun))); have HE := Z9 (G8.out.trans (ZX (B := W.heap.size) (Z4 wr) G8.out.size (by nofun))); have s0 : wr.drew.cell? ⟨w.heap.size, 4, none⟩ = some (.slice (some ⟨b1, o1, none⟩) la.length ca) /\ wr.drew.cell? ⟨w.heap.size + 1, 4, none⟩ = some (.slice (some ⟨b2, o2, none⟩) la.length cb) /\ wr.drew.cell? ⟨b1, o1 + k * 5, none⟩ = some (.int .i64 po) /\ wr.drew.cell? ⟨b1, o1 + k * 5 + 1, none⟩ = some (.int .i64 pn) /\ wr.drew.cell? ⟨b1, o1 + k * 5 + 2, none⟩ = some (.string ps) /\ wr.drew.cell? ⟨b1, o1 + k * 5 + 3, none⟩ = some (.slice none 0 0) /\ wr.drew.cell? ⟨b1, o1 + k * 5 + 4, none⟩ = some (.slice pa pl.length pc) /\ wr.drew.cell? ⟨b2, o2 + k * 5, none⟩ = some (.int .i64 qo) /\ wr.drew.cell? ⟨b2, o2 + k * 5 + 1, none⟩ = some (.int .i64 qn) /\ wr.drew.cell? ⟨b2, o2 + k * 5 + 2, none⟩ = some (.string qs) /\ wr.drew.cell? ⟨b2, o2 + k * 5 + 3, none⟩ = some (.slice none 0 0) /\ wr.drew.cell? ⟨b2, o2 + k * 5 + 4, none⟩ = some (.slice qa ql.length qc) := ⟨t4, u4, p0, p1, p2, p3, p4, q0, q1, q2, q3, q4⟩; clear hC hv1 hv2 hpm hqm hpq m0 m1 hb0; go_wp2_with fail; go_region_held3 (fun w9 => w9.cell? ⟨w.heap.size, 4, none⟩ = some (.slice (some ⟨b1, o1, none⟩) la.length ca) /\ w9.cell? ⟨w.heap.size + 1, 4, none⟩ = some (.slice (some ⟨b2, o2, none⟩) la.length cb) /\ w9.cell? ⟨b1, o1 + k * 5, none⟩ = some (.int .i64 po) /\ w9.cell? ⟨b1, o1 + k * 5 + 1, none⟩ = some (.int .i64 pn) /\ w9.cell? ⟨b1, o1 + k * 5 + 2, none⟩ = some (.string ps) /\ w9.cell? ⟨b1, o1 + k * 5 + 3, none⟩ = some (.slice none 0 0) /\ w9.cell? ⟨b1, o1 + k * 5 + 4, none⟩ = some (.slice pa pl.length pc) /\ w9.cell? ⟨b2, o2 + k * 5, none⟩ = some (.int .i64 qo) /\ w9.cell? ⟨b2, o2 + k * 5 + 1, none⟩ = some (.int .i64 qn) /\ w9.cell? ⟨b2, o2 + k * 5 + 2, none⟩ = some (.string qs) /\ w9.cell? ⟨b2, o2 + k * 5 + 3, none⟩ = some (.slice none 0 0) /\ w9.cell? ⟨b2, o2 + k * 5 + 4, none⟩ = some (.slice qa ql.length qc)) (first | exact s0 | exact s1) ((go_at_call 35; refine (HC.out _ HD.out).mono ?_; rintro e w3 ⟨rfl, hb3⟩; have s1 : w3.cell? ⟨w.heap.size, 4, none⟩ = some (.slice (some ⟨b1, o1, none⟩) la.length ca) /\ w3.cell? ⟨w.heap.size + 1, 4, none⟩ = some (.slice (some ⟨b2, o2, none⟩) la.length cb) /\ w3.cell? ⟨b1, o1 + k * 5, none⟩ = some (.int .i64 po) /\ w3.cell? ⟨b1, o1 + k * 5 + 1, none⟩ = some (.int .i64 pn) /\ w3.cell? ⟨b1, o1 + k * 5 + 2, none⟩ = some (.string ps) /\ w3.cell? ⟨b1, o1 + k * 5 + 3, none⟩ = some (.slice none 0 0) /\ w3.cell? ⟨b1, o1 + k * 5 + 4, none⟩ = some (.slice pa pl.length pc) /\ w3.cell? ⟨b2, o2 + k * 5, none⟩ = some (.int .i64 qo) /\ w3.cell? ⟨b2, o2 + k * 5 + 1, none⟩ = some (.int .i64 qn) /\ w3.cell? ⟨b2, o2 + k * 5 + 2, none⟩ = some (.string qs) /\ w3.cell? ⟨b2, o2 + k * 5 + 3, none⟩ = some (.slice none 0 0) /\ w3.cell? ⟨b2, o2 + k * 5 + 4, none⟩ = some (.slice qa ql.length qc) := ⟨cell_below s0.1 hb3, cell_below s0.2.1 hb3, cell_below s0.2.2.1 hb3, cell_below s0.2.2.2.1 hb3, cell_below s0.2.2.2.2.1 hb3, cell_below s0.2.2.2.2.2.1 hb3, cell_below s0.2.2.2.2.2.2.1 hb3, cell_below s0.2.2.2.2.2.2.2.1 hb3, cell_below s0.2.2.2.2.2.2.2.2.1 hb3, cell_below s0.2.2.2.2.2.2.2.2.2.1 hb3, cell_below s0.2.2.2.2.2.2.2.2.2.2.1 hb3, cell_below s0.2.2.2.2.2.2.2.2.2.2.2 hb3⟩)); have HF := Z9 (HE.out.trans (hb3.mono HE.out.size)); clear s1 hb3; go_wp2_with fail; go_roundw
      case rel => exact ⟨k + 1, by omega, by go_num, HF⟩
      case measure => simp [intOf]; omega
     ·obtain rfl : k = la.length := by omega
      go_wp2; go_ret; exact ⟨rfl, IY.out.trans (G8.out.mono IY.out.size)⟩
theorem Eh (u : Int) (o : Ke) (x y : Z0) (av bv : Value) (w : World) (hx : Pm 0 none w x) (hy : Pm 0 none w y) (hxs : ZW x = o.v) (hys : ZW y = o.v) (ha : Xv w av o.out) (hb : Xv w bv o.out) (hl : o.out.length <= 1000) :
 Calls Tryz.prog 13 #[.agg (QC o x av), .agg (QC { o with steps := u } y bv)] w (Yes w) := by
 obtain ⟨oo, on, ot, v, out⟩ := o
 simp only at hxs hys ha hb hl
 obtain ⟨xa, xc, hxv⟩ := Qi hx
 obtain ⟨ya, yq, hyv⟩ := Qi hy
 have hV := fun V hV => J8 hx 0 none y V hy (hxs.trans hys.symm) hV
 obtain ⟨xo, xn, xs, xv, xl⟩ := x
 obtain ⟨yo, yn, ys, yv, yl⟩ := y
 simp only [Z0.lv, Z0.l] at hxv hyv
 subst hxv hyv
 rw [Nh, Nh] at hV
 have hT := fun V (hV : Below w.heap.size w V) => J9 av bv out V (Xe.below ha hV) (Xe.below hb hV) hl
 obtain ⟨a1, c1, rfl, _⟩ := ha
 obtain ⟨a2, c2, rfl, _⟩ := hb
 show Calls Tryz.prog 13 #[.agg #[.int .i64 oo, .int .i64 on, .int .i64 ot, .int .i64 xo, .int .i64 xn, .string xs, .slice none 0 0, .slice xa xl.length xc, .slice a1 out.length c1], .agg #[.int .i64 oo, .int .i64 on, .int .i64 u, .int .i64 yo, .int .i64 yn, .string ys, .slice none 0 0, .slice ya yl.length yq, .slice a2 out.length c2]] w (Yes w)
 have hbW : Below w.heap.size w ((w.alloc (.cells #[.int .i64 oo, .int .i64 on, .int .i64 ot, .int .i64 xo, .int .i64 xn, .string xs, .slice none 0 0, .slice xa xl.length xc, .slice a1 out.length c1] 45)).alloc (.cells #[.int .i64 oo, .int .i64 on, .int .i64 u, .int .i64 yo, .int .i64 yn, .string ys, .slice none 0 0, .slice ya yl.length yq, .slice a2 out.length c2] 45)) := ((Below.refl _ _).alloc (Nat.le_refl _) _).alloc (by simp) _
 have n0 : ((w.alloc (.cells #[.int .i64 oo, .int .i64 on, .int .i64 ot, .int .i64 xo, .int .i64 xn, .string xs, .slice none 0 0, .slice xa xl.length xc, .slice a1 out.length c1] 45)).alloc (.cells #[.int .i64 oo, .int .i64 on, .int .i64 u, .int .i64 yo, .int .i64 yn, .string ys, .slice none 0 0, .slice ya yl.length yq, .slice a2 out.length c2] 45)).heap[w.heap.size]? = some (.cells #[.int .i64 oo, .int .i64 on, .int .i64 ot, .int .i64 xo, .int .i64 xn, .string xs, .slice none 0 0, .slice xa xl.length xc, .slice a1 out.length c1] 45 (0, 0)) := (Below.heap_alloc _ _ _ (by simp)).trans (ZV w _)
 have n1 : ((w.alloc (.cells #[.int .i64 oo, .int .i64 on, .int .i64 ot, .int .i64 xo, .int .i64 xn, .string xs, .slice none 0 0, .slice xa xl.length xc, .slice a1 out.length c1] 45)).alloc (.cells #[.int .i64 oo, .int .i64 on, .int .i64 u, .int .i64 yo, .int .i64 yn, .string ys, .slice none 0 0, .slice ya yl.length yq, .slice a2 out.length c2] 45)).heap[w.heap.size + 1]? = some (.cells #[.int .i64 oo, .int .i64 on, .int .i64 u, .int .i64 yo, .int .i64 yn, .string ys, .slice none 0 0, .slice ya yl.length yq, .slice a2 out.length c2] 45 (0, 0)) := (congrArg _ (by simp)).trans (ZV (w.alloc _) _)
 have HV := Z9 hV
 have HT := Z9 hT
 have hs : xo = yo /\ xn = yn := by
  have e := hxs.trans hys.symm; rw [Y2, Y2] at e; obtain ⟨h1, h2, _, _⟩ := ZT.mk.inj e; exact ⟨h1, h2⟩
 clear hV hT hx hy hxs hys hs
 go_in
 go_upto_region 1 with fail
 generalize ((w.alloc (.cells #[.int .i64 oo, .int .i64 on, .int .i64 ot, .int .i64 xo, .int .i64 xn, .string xs, .slice none 0 0, .slice xa xl.length xc, .slice a1 out.length c1] 45)).alloc (.cells #[.int .i64 oo, .int .i64 on, .int .i64 u, .int .i64 yo, .int .i64 yn, .string ys, .slice none 0 0, .slice ya yl.length yq, .slice a2 out.length c2] 45)) = W at *
 have K0 : ∀ (V : World), Below W.heap.size W V -> V.heap[w.heap.size]? = some (.cells #[.int .i64 oo, .int .i64 on, .int .i64 ot, .int .i64 xo, .int .i64 xn, .string xs, .slice none 0 0, .slice xa xl.length xc, .slice a1 out.length c1] 45 (0, 0)) := fun V hV => (hV.block _ (Z6 n0)).trans n0
 have K1 : ∀ (V : World), Below W.heap.size W V -> V.heap[w.heap.size + 1]? = some (.cells #[.int .i64 oo, .int .i64 on, .int .i64 u, .int .i64 yo, .int .i64 yn, .string ys, .slice none 0 0, .slice ya yl.length yq, .slice a2 out.length c2] 45 (0, 0)) := fun V hV => (hV.block _ (Z6 n1)).trans n1
 have HK := Z9 (And.intro K0 K1)
 have IY := Z9 hbW
 have i0 := (Zk _ _ 0 _ _ _ n0).trans (show _ = some (Value.int .i64 oo) from rfl)
 have i1 := (Zk _ _ 1 _ _ _ n0).trans (show _ = some (Value.int .i64 on) from rfl)
 have i3 := (Zk _ _ 3 _ _ _ n0).trans (show _ = some (Value.int .i64 xo) from rfl)
 have i4 := (Zk _ _ 4 _ _ _ n0).trans (show _ = some (Value.int .i64 xn) from rfl)
 have i5 := (Zk _ _ 5 _ _ _ n0).trans (show _ = some (Value.string xs) from rfl)
 have i6 := (Zk _ _ 6 _ _ _ n0).trans (show _ = some (Value.slice none 0 0) from rfl)
 have i7 := (Zk _ _ 7 _ _ _ n0).trans (show _ = some (Value.slice xa xl.length xc) from rfl)
 have j0 := (Zk _ _ 0 _ _ _ n1).trans (show _ = some (Value.int .i64 oo) from rfl)
 have j1 := (Zk _ _ 1 _ _ _ n1).trans (show _ = some (Value.int .i64 on) from rfl)
 have j3 := (Zk _ _ 3 _ _ _ n1).trans (show _ = some (Value.int .i64 yo) from rfl)
 have j4 := (Zk _ _ 4 _ _ _ n1).trans (show _ = some (Value.int .i64 yn) from rfl)
 have j5 := (Zk _ _ 5 _ _ _ n1).trans (show _ = some (Value.string ys) from rfl)
 have j6 := (Zk _ _ 6 _ _ _ n1).trans (show _ = some (Value.slice none 0 0) from rfl)
 have j7 := (Zk _ _ 7 _ _ _ n1).trans (show _ = some (Value.slice ya yl.length yq) from rfl)
 clear n0 n1 K0 K1 hbW
 go_wp2_with (first
  | (go_at_call 35; refine (HV.out _ IY.out).mono ?_; rintro e w3 ⟨rfl, hb3⟩; have k8 := (Zk _ _ 8 _ _ _ (HK.out.1 _ hb3)).trans (show _ = some (Value.slice a1 out.length c1) from rfl); have l8 := (Zk _ _ 8 _ _ _ (HK.out.2 _ hb3)).trans (show _ = some (Value.slice a2 out.length c2) from rfl); have HB3 := Z9 (IY.out.trans (hb3.mono IY.out.size)); clear hb3)
  | (go_at_call 36; refine (HT.out _ HB3.out).mono ?_; rintro e w4 ⟨rfl, hb4⟩))
 go_ret
 exact ⟨rfl, HB3.out.trans (hb4.mono HB3.out.size)⟩
end Go.Proofs.YtbcfdebdikgijaaGreatDoor
