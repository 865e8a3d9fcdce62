/- SameTexts, SameValue, SameEnd at equal outcomes. CompileWhole: the plain law: functions compiled one after the other have the program's code. size, Great, and a look for a great function: they end. -/
import Derived.Test.YtidolpcbbbakmaaGreatM42
import Derived.Test.YtidolpcbbbakmaaGreatM36
import Derived.Test.YtidolpcbbbakmaaGreatM39
import Derived.Test.YtidolpcbbbakmaaGreatM30
import Derived.Test.YtidolpcbbbakmaaGreatM31
import Derived.Test.YtidolpcbbbakmaaGreatM7
namespace Go.Proofs.YtidolpcbbbakmaaGreat
open Go Go.RowKit
theorem cell_below {w w' : World} {a : Addr} {v : Value} (h : w.cell? a = some v) (hb : Below w.heap.size w w') : w'.cell? a = some v := by
  have h2 := World.block_lt_of_cell? w _ h
  unfold World.cell? at h ⊢
  rw [hb.block _ h2]
  exact h
def Yes (w : World) (e : Ending) (w' : World) : Prop := e = .returned (.bool true) ∧ Below w.heap.size w w'
set_option maxHeartbeats 2000000 in
set_option maxRecDepth 100000 in
theorem sameTexts_any (av bv : Value) (l : List ByteArray) (w : World) (ha : IsTexts w av l) (hb : IsTexts w bv l) (hl : l.length ≤ 1000) :
    Calls Tryz.prog 32 #[av, bv] w (Yes w) := by
  have HA := Lib.hid ha
  have HB := Lib.hid hb
  obtain ⟨a1, c1, rfl, _⟩ := ha
  obtain ⟨a2, c2, rfl, _⟩ := hb
  have HW := Lib.hid (Below.refl w.heap.size w)
  go_enter Tryz.func32, Tryz.ntmps32
  go_wp2_with fail
  go_loopw [5] (fun i wr => ∃ k : Nat, k ≤ l.length ∧ i = .int .i64 k ∧ Hid (Below w.heap.size w wr)) (fun i _ => l.length - (intOf i).toNat)
  case atStart => exact ⟨0, Nat.zero_le _, rfl, HW⟩
  case round =>
    obtain ⟨k, hk, rfl, HBl⟩ := hrel
    by_cases hkl : k < l.length
    · obtain ⟨b, off, c, hta, _, _, t0⟩ := texts_at (IsRow.below HA.out HBl.out) k hkl
      obtain ⟨b', off', c', hta', _, _, u0⟩ := texts_at (IsRow.below HB.out HBl.out) k hkl
      obtain ⟨rfl, _, rfl⟩ := Value.slice.inj hta
      obtain ⟨rfl, _, rfl⟩ := Value.slice.inj hta'
      generalize l.getD k default = s at t0 u0
      clear hta hta'
      have hkn : (k : Int) < ((l.length : Nat) : Int) := by omega
      have HD := Lib.hid (HBl.out.trans (grown_under (B := w.heap.size) (grown_drew wr) HBl.out.size (by nofun)))
      go_wp2_with fail
      go_region
      go_wp2_with fail
      go_roundw
      case rel => exact ⟨k + 1, by omega, by go_num, HD⟩
      case measure => simp [intOf]; omega
    · obtain rfl : k = l.length := by omega
      go_wp2_with fail
      go_ret
      exact ⟨rfl, HBl.out⟩
def obV (x : ExpD) : Value := .agg (rowV x.op x.n x.s x.lv)
theorem isO_slice {lo : Nat} {r : Option Nat} {w : World} {x : ExpD} (h : IsO lo r w x) : ∃ a c, x.lv = .slice a x.l.length c := by
  cases h with
  | mk h1 _ _ => obtain ⟨a, c, e, _⟩ := h1; exact ⟨a, c, e⟩
theorem obV_mk (op n : Int) (s : ByteArray) (v : Value) (l : List ExpD) : obV (.mk op n s v l) = .agg #[.int .i64 op, .int .i64 n, .string s, .slice none 0 0, v] := rfl
set_option maxHeartbeats 4000000 in
set_option maxRecDepth 100000 in
theorem sameValue_any {lo : Nat} {r : Option Nat} {w0 : World} {x : ExpD} (hx : IsO lo r w0 x) : ∀ (lo' : Nat) (r' : Option Nat) (y : ExpD) (w : World), IsO lo' r' w0 y → stripX x = stripX y → Below w0.heap.size w0 w →
    Calls Tryz.prog 31 #[obV x, obV y] w (Yes w) := by
  induction hx with
  | @mk op n s lv la h1 h2 h3 ih =>
    intro lo' r' y w hy he hb
    obtain ⟨op', n', s', lv', lb⟩ := y
    rw [stripX_mk, stripX_mk, stripL_map, stripL_map] at he
    obtain ⟨rfl, rfl, rfl, hll⟩ := ValD.mk.inj he
    have hlen : la.length = lb.length := by have := congrArg List.length hll; rwa [List.length_map, List.length_map] at this
    obtain ⟨g1, _, g3⟩ := hy.parts
    obtain ⟨xa, ca, rfl, hca, _⟩ := id h1
    obtain ⟨xb, cb, rfl, hcb, _⟩ := id g1
    rw [obV_mk, obV_mk, ← hlen]
    have HH1 := Lib.hid h1
    have HG1 := Lib.hid g1
    have HIH := Lib.hid ih
    have HG3 := Lib.hid g3
    have H3 := Lib.hid h3
    have HLL := Lib.hid hll
    have HLEN := Lib.hid hlen
    have HB := Lib.hid hb
    have hbW : Below w.heap.size w ((w.alloc (.cells #[.int .i64 op, .int .i64 n, .string s, .slice none 0 0, .slice xa la.length ca] 48)).alloc (.cells #[.int .i64 op, .int .i64 n, .string s, .slice none 0 0, .slice xb la.length cb] 48)) := ((Below.refl _ _).alloc (Nat.le_refl _) _).alloc (by simp) _
    have n0 : ((w.alloc (.cells #[.int .i64 op, .int .i64 n, .string s, .slice none 0 0, .slice xa la.length ca] 48)).alloc (.cells #[.int .i64 op, .int .i64 n, .string s, .slice none 0 0, .slice xb la.length cb] 48)).heap[w.heap.size]? = some (.cells #[.int .i64 op, .int .i64 n, .string s, .slice none 0 0, .slice xa la.length ca] 48 (0, 0)) := (Below.heap_alloc _ _ _ (by simp)).trans (new_heap w _)
    have n1 : ((w.alloc (.cells #[.int .i64 op, .int .i64 n, .string s, .slice none 0 0, .slice xa la.length ca] 48)).alloc (.cells #[.int .i64 op, .int .i64 n, .string s, .slice none 0 0, .slice xb la.length cb] 48)).heap[w.heap.size + 1]? = some (.cells #[.int .i64 op, .int .i64 n, .string s, .slice none 0 0, .slice xb la.length cb] 48 (0, 0)) := (congrArg _ (by simp)).trans (new_heap (w.alloc _) _)
    clear h1 h3 ih g1 g3 he hll hy hb hlen
    go_enter Tryz.func31, Tryz.ntmps31
    go_upto_region 1 with fail
    generalize ((w.alloc (.cells #[.int .i64 op, .int .i64 n, .string s, .slice none 0 0, .slice xa la.length ca] 48)).alloc (.cells #[.int .i64 op, .int .i64 n, .string s, .slice none 0 0, .slice xb la.length cb] 48)) = W at *
    obtain ⟨a0, a1, a2, a3, a4⟩ := val_cells n0
    obtain ⟨c0, c1, c2, c3, c4⟩ := val_cells n1
    have HN := Lib.hid (And.intro n0 n1)
    have HBW := Lib.hid hbW
    have HR := Lib.hid (Below.refl W.heap.size W)
    clear n0 n1 hbW
    go_wp2_with fail
    go_loopw [5] (fun i wr => i = .int .i64 0 ∧ wr = W) (fun _ _ => 0)
    case atStart => exact ⟨rfl, rfl⟩
    case round =>
      obtain ⟨rfl, hwr⟩ := hrel
      have hwr := hwr.symm
      subst hwr
      go_wp2_with fail
      go_loopw [6] (fun i wr => ∃ k : Nat, k ≤ la.length ∧ i = .int .i64 k ∧ Hid (Below W.heap.size W wr)) (fun i _ => la.length - (intOf i).toNat)
      case atStart => exact ⟨0, Nat.zero_le _, rfl, HR⟩
      case round =>
        obtain ⟨k, hk, rfl, HBl⟩ := hrel
        have m0 := (HBl.out.block _ (heap_lt HN.out.1)).trans HN.out.1
        have m1 := (HBl.out.block _ (heap_lt HN.out.2)).trans HN.out.2
        obtain ⟨_, _, _, _, t4⟩ := val_cells m0
        obtain ⟨_, _, _, _, u4⟩ := val_cells m1
        have hWz := HBW.out.size
        have hb0 : Below w0.heap.size w0 wr := (HB.out.trans (HBW.out.mono HB.out.size)).trans (HBl.out.mono (Nat.le_trans HB.out.size HBW.out.size))
        by_cases hkl : k < la.length
        · obtain ⟨b1, o1, c1', hv1, _, _, p0, p1, p2, p3, p4⟩ := rowO_at (HH1.out.keep hb0.size (fun b hb _ _ => hb0.block b hb) (Nat.le_refl _) (fun _ _ _ h => h)) k hkl
          obtain ⟨b2, o2, c2', hv2, _, _, q0, q1, q2, q3, q4⟩ := rowO_at (HG1.out.keep hb0.size (fun b hb _ _ => hb0.block b hb) (Nat.le_refl _) (fun _ _ _ h => h)) k (by rw [← HLEN.out]; exact hkl)
          obtain ⟨rfl, _, rfl⟩ := Value.slice.inj hv1
          obtain ⟨rfl, _, rfl⟩ := Value.slice.inj hv2
          have hpm := getD_mem default la k hkl
          have hqm := getD_mem default lb k (by rw [← HLEN.out]; exact hkl)
          have hpq : stripX (la.getD k default) = stripX (lb.getD k default) := by
            have e := congrArg (fun l => l[k]?) HLL.out
            simp only [List.getElem?_map] at e
            rw [List.getElem?_eq_getElem hkl, List.getElem?_eq_getElem (by rw [← HLEN.out]; exact hkl)] at e
            have e2 := Option.some.inj e
            simp only [List.getD, List.getElem?_eq_getElem hkl, List.getElem?_eq_getElem (show k < lb.length by rw [← HLEN.out]; exact hkl), Option.getD_some]
            exact e2
          have hC := fun V (hV : Below w0.heap.size w0 V) => HIH.out _ hpm _ _ _ V (HG3.out _ hqm) hpq hV
          have hps := isO_slice (H3.out _ hpm)
          have hqs := isO_slice (HG3.out _ hqm)
          generalize la.getD k default = p at *
          generalize lb.getD k default = q at *
          obtain ⟨po, pn, ps, pv, pl⟩ := p
          obtain ⟨qo, qn, qs, qv, ql⟩ := q
          obtain ⟨pa, pc, hpv⟩ := hps
          obtain ⟨qa, qc, hqv⟩ := hqs
          simp only [ExpD.op, ExpD.n, ExpD.s, ExpD.lv, ExpD.l] at p0 p1 p2 p3 p4 q0 q1 q2 q3 q4 hpv hqv
          subst hpv hqv
          rw [obV_mk, obV_mk] at hC
          have HC := Lib.hid hC
          have hkn : (k : Int) < ((la.length : Nat) : Int) := by omega
          have HD := Lib.hid (hb0.trans (grown_under (B := w0.heap.size) (grown_drew wr) hb0.size (by nofun)))
          have HE := Lib.hid (HBl.out.trans (grown_under (B := W.heap.size) (grown_drew wr) HBl.out.size (by nofun)))
          have s0 : wr.drew.cell? ⟨w.heap.size, 4, none⟩ = some (.slice (some ⟨b1, o1, none⟩) la.length ca) ∧ wr.drew.cell? ⟨w.heap.size + 1, 4, none⟩ = some (.slice (some ⟨b2, o2, none⟩) la.length cb) ∧ wr.drew.cell? ⟨b1, o1 + k * 5, none⟩ = some (.int .i64 po) ∧ wr.drew.cell? ⟨b1, o1 + k * 5 + 1, none⟩ = some (.int .i64 pn) ∧ wr.drew.cell? ⟨b1, o1 + k * 5 + 2, none⟩ = some (.string ps) ∧ wr.drew.cell? ⟨b1, o1 + k * 5 + 3, none⟩ = some (.slice none 0 0) ∧ wr.drew.cell? ⟨b1, o1 + k * 5 + 4, none⟩ = some (.slice pa pl.length pc) ∧ wr.drew.cell? ⟨b2, o2 + k * 5, none⟩ = some (.int .i64 qo) ∧ wr.drew.cell? ⟨b2, o2 + k * 5 + 1, none⟩ = some (.int .i64 qn) ∧ wr.drew.cell? ⟨b2, o2 + k * 5 + 2, none⟩ = some (.string qs) ∧ wr.drew.cell? ⟨b2, o2 + k * 5 + 3, none⟩ = some (.slice none 0 0) ∧ wr.drew.cell? ⟨b2, o2 + k * 5 + 4, none⟩ = some (.slice qa ql.length qc) := ⟨t4, u4, p0, p1, p2, p3, p4, q0, q1, q2, q3, q4⟩
          clear hC hv1 hv2 hpm hqm hpq m0 m1 hb0
          go_wp2_with fail
          go_region_held3 (fun w9 => w9.cell? ⟨w.heap.size, 4, none⟩ = some (.slice (some ⟨b1, o1, none⟩) la.length ca) ∧ w9.cell? ⟨w.heap.size + 1, 4, none⟩ = some (.slice (some ⟨b2, o2, none⟩) la.length cb) ∧ w9.cell? ⟨b1, o1 + k * 5, none⟩ = some (.int .i64 po) ∧ w9.cell? ⟨b1, o1 + k * 5 + 1, none⟩ = some (.int .i64 pn) ∧ w9.cell? ⟨b1, o1 + k * 5 + 2, none⟩ = some (.string ps) ∧ w9.cell? ⟨b1, o1 + k * 5 + 3, none⟩ = some (.slice none 0 0) ∧ w9.cell? ⟨b1, o1 + k * 5 + 4, none⟩ = some (.slice pa pl.length pc) ∧ w9.cell? ⟨b2, o2 + k * 5, none⟩ = some (.int .i64 qo) ∧ w9.cell? ⟨b2, o2 + k * 5 + 1, none⟩ = some (.int .i64 qn) ∧ w9.cell? ⟨b2, o2 + k * 5 + 2, none⟩ = some (.string qs) ∧ w9.cell? ⟨b2, o2 + k * 5 + 3, none⟩ = some (.slice none 0 0) ∧ w9.cell? ⟨b2, o2 + k * 5 + 4, none⟩ = some (.slice qa ql.length qc)) (first | exact s0 | exact s1) ((go_at_call 31; refine (HC.out _ HD.out).mono ?_; rintro e w3 ⟨rfl, hb3⟩; have s1 : w3.cell? ⟨w.heap.size, 4, none⟩ = some (.slice (some ⟨b1, o1, none⟩) la.length ca) ∧ w3.cell? ⟨w.heap.size + 1, 4, none⟩ = some (.slice (some ⟨b2, o2, none⟩) la.length cb) ∧ w3.cell? ⟨b1, o1 + k * 5, none⟩ = some (.int .i64 po) ∧ w3.cell? ⟨b1, o1 + k * 5 + 1, none⟩ = some (.int .i64 pn) ∧ w3.cell? ⟨b1, o1 + k * 5 + 2, none⟩ = some (.string ps) ∧ w3.cell? ⟨b1, o1 + k * 5 + 3, none⟩ = some (.slice none 0 0) ∧ w3.cell? ⟨b1, o1 + k * 5 + 4, none⟩ = some (.slice pa pl.length pc) ∧ w3.cell? ⟨b2, o2 + k * 5, none⟩ = some (.int .i64 qo) ∧ w3.cell? ⟨b2, o2 + k * 5 + 1, none⟩ = some (.int .i64 qn) ∧ w3.cell? ⟨b2, o2 + k * 5 + 2, none⟩ = some (.string qs) ∧ w3.cell? ⟨b2, o2 + k * 5 + 3, none⟩ = some (.slice none 0 0) ∧ w3.cell? ⟨b2, o2 + k * 5 + 4, none⟩ = some (.slice qa ql.length qc) := ⟨cell_below s0.1 hb3, cell_below s0.2.1 hb3, cell_below s0.2.2.1 hb3, cell_below s0.2.2.2.1 hb3, cell_below s0.2.2.2.2.1 hb3, cell_below s0.2.2.2.2.2.1 hb3, cell_below s0.2.2.2.2.2.2.1 hb3, cell_below s0.2.2.2.2.2.2.2.1 hb3, cell_below s0.2.2.2.2.2.2.2.2.1 hb3, cell_below s0.2.2.2.2.2.2.2.2.2.1 hb3, cell_below s0.2.2.2.2.2.2.2.2.2.2.1 hb3, cell_below s0.2.2.2.2.2.2.2.2.2.2.2 hb3⟩))
          have HF := Lib.hid (HE.out.trans (hb3.mono HE.out.size))
          clear s1 hb3
          go_wp2_with fail
          go_roundw
          case rel => exact ⟨k + 1, by omega, by go_num, HF⟩
          case measure => simp [intOf]; omega
        · obtain rfl : k = la.length := by omega
          go_wp2_with fail
          go_ret
          exact ⟨rfl, HBW.out.trans (HBl.out.mono HBW.out.size)⟩
set_option maxHeartbeats 4000000 in
set_option maxRecDepth 100000 in
theorem sameEnd_any (o : OutP) (x y : ExpD) (av bv : Value) (w : World) (hx : IsO 0 none w x) (hy : IsO 0 none w y) (hxs : stripX x = o.v) (hys : stripX y = o.v) (ha : IsTexts w av o.out) (hb : IsTexts w bv o.out) (hl : o.out.length ≤ 1000) :
    Calls Tryz.prog 13 #[.agg (outRow o x av), .agg (outRow o y bv)] w (Yes w) := by
  obtain ⟨oo, on, ot, v, out⟩ := o
  simp only at hxs hys ha hb hl
  obtain ⟨xa, xc, hxv⟩ := isO_slice hx
  obtain ⟨ya, yc, hyv⟩ := isO_slice hy
  have hV := fun V hV => sameValue_any hx 0 none y V hy (hxs.trans hys.symm) hV
  obtain ⟨xo, xn, xs, xv, xl⟩ := x
  obtain ⟨yo, yn, ys, yv, yl⟩ := y
  simp only [ExpD.lv, ExpD.l] at hxv hyv
  subst hxv hyv
  rw [obV_mk, obV_mk] at hV
  have hT := fun V (hV : Below w.heap.size w V) => sameTexts_any av bv out V (IsRow.below ha hV) (IsRow.below hb hV) hl
  obtain ⟨a1, c1, rfl, _⟩ := ha
  obtain ⟨a2, c2, rfl, _⟩ := hb
  show Calls Tryz.prog 13 #[.agg #[.int .i64 oo, .int .i64 on, .int .i64 ot, .int .i64 xo, .int .i64 xn, .string xs, .slice none 0 0, .slice xa xl.length xc, .slice a1 out.length c1], .agg #[.int .i64 oo, .int .i64 on, .int .i64 ot, .int .i64 yo, .int .i64 yn, .string ys, .slice none 0 0, .slice ya yl.length yc, .slice a2 out.length c2]] w (Yes w)
  have hbW : Below w.heap.size w ((w.alloc (.cells #[.int .i64 oo, .int .i64 on, .int .i64 ot, .int .i64 xo, .int .i64 xn, .string xs, .slice none 0 0, .slice xa xl.length xc, .slice a1 out.length c1] 50)).alloc (.cells #[.int .i64 oo, .int .i64 on, .int .i64 ot, .int .i64 yo, .int .i64 yn, .string ys, .slice none 0 0, .slice ya yl.length yc, .slice a2 out.length c2] 50)) := ((Below.refl _ _).alloc (Nat.le_refl _) _).alloc (by simp) _
  have n0 : ((w.alloc (.cells #[.int .i64 oo, .int .i64 on, .int .i64 ot, .int .i64 xo, .int .i64 xn, .string xs, .slice none 0 0, .slice xa xl.length xc, .slice a1 out.length c1] 50)).alloc (.cells #[.int .i64 oo, .int .i64 on, .int .i64 ot, .int .i64 yo, .int .i64 yn, .string ys, .slice none 0 0, .slice ya yl.length yc, .slice a2 out.length c2] 50)).heap[w.heap.size]? = some (.cells #[.int .i64 oo, .int .i64 on, .int .i64 ot, .int .i64 xo, .int .i64 xn, .string xs, .slice none 0 0, .slice xa xl.length xc, .slice a1 out.length c1] 50 (0, 0)) := (Below.heap_alloc _ _ _ (by simp)).trans (new_heap w _)
  have n1 : ((w.alloc (.cells #[.int .i64 oo, .int .i64 on, .int .i64 ot, .int .i64 xo, .int .i64 xn, .string xs, .slice none 0 0, .slice xa xl.length xc, .slice a1 out.length c1] 50)).alloc (.cells #[.int .i64 oo, .int .i64 on, .int .i64 ot, .int .i64 yo, .int .i64 yn, .string ys, .slice none 0 0, .slice ya yl.length yc, .slice a2 out.length c2] 50)).heap[w.heap.size + 1]? = some (.cells #[.int .i64 oo, .int .i64 on, .int .i64 ot, .int .i64 yo, .int .i64 yn, .string ys, .slice none 0 0, .slice ya yl.length yc, .slice a2 out.length c2] 50 (0, 0)) := (congrArg _ (by simp)).trans (new_heap (w.alloc _) _)
  have HV := Lib.hid hV
  have HT := Lib.hid hT
  have hs : xo = yo ∧ xn = yn := by
    have e := hxs.trans hys.symm
    rw [stripX_mk, stripX_mk] at e
    obtain ⟨h1, h2, _, _⟩ := ValD.mk.inj e
    exact ⟨h1, h2⟩
  clear hV hT hx hy hxs hys hs
  go_enter Tryz.func13, Tryz.ntmps13
  go_upto_region 1 with fail
  generalize ((w.alloc (.cells #[.int .i64 oo, .int .i64 on, .int .i64 ot, .int .i64 xo, .int .i64 xn, .string xs, .slice none 0 0, .slice xa xl.length xc, .slice a1 out.length c1] 50)).alloc (.cells #[.int .i64 oo, .int .i64 on, .int .i64 ot, .int .i64 yo, .int .i64 yn, .string ys, .slice none 0 0, .slice ya yl.length yc, .slice a2 out.length c2] 50)) = W at *
  have K0 : ∀ (V : World), Below W.heap.size W V → V.heap[w.heap.size]? = some (.cells #[.int .i64 oo, .int .i64 on, .int .i64 ot, .int .i64 xo, .int .i64 xn, .string xs, .slice none 0 0, .slice xa xl.length xc, .slice a1 out.length c1] 50 (0, 0)) := fun V hV => (hV.block _ (heap_lt n0)).trans n0
  have K1 : ∀ (V : World), Below W.heap.size W V → V.heap[w.heap.size + 1]? = some (.cells #[.int .i64 oo, .int .i64 on, .int .i64 ot, .int .i64 yo, .int .i64 yn, .string ys, .slice none 0 0, .slice ya yl.length yc, .slice a2 out.length c2] 50 (0, 0)) := fun V hV => (hV.block _ (heap_lt n1)).trans n1
  have HK := Lib.hid (And.intro K0 K1)
  have HBW := Lib.hid hbW
  have i0 := (cell_of_row _ _ 0 _ _ _ n0).trans (show _ = some (Value.int .i64 oo) from rfl)
  have i1 := (cell_of_row _ _ 1 _ _ _ n0).trans (show _ = some (Value.int .i64 on) from rfl)
  have i3 := (cell_of_row _ _ 3 _ _ _ n0).trans (show _ = some (Value.int .i64 xo) from rfl)
  have i4 := (cell_of_row _ _ 4 _ _ _ n0).trans (show _ = some (Value.int .i64 xn) from rfl)
  have i5 := (cell_of_row _ _ 5 _ _ _ n0).trans (show _ = some (Value.string xs) from rfl)
  have i6 := (cell_of_row _ _ 6 _ _ _ n0).trans (show _ = some (Value.slice none 0 0) from rfl)
  have i7 := (cell_of_row _ _ 7 _ _ _ n0).trans (show _ = some (Value.slice xa xl.length xc) from rfl)
  have j0 := (cell_of_row _ _ 0 _ _ _ n1).trans (show _ = some (Value.int .i64 oo) from rfl)
  have j1 := (cell_of_row _ _ 1 _ _ _ n1).trans (show _ = some (Value.int .i64 on) from rfl)
  have j3 := (cell_of_row _ _ 3 _ _ _ n1).trans (show _ = some (Value.int .i64 yo) from rfl)
  have j4 := (cell_of_row _ _ 4 _ _ _ n1).trans (show _ = some (Value.int .i64 yn) from rfl)
  have j5 := (cell_of_row _ _ 5 _ _ _ n1).trans (show _ = some (Value.string ys) from rfl)
  have j6 := (cell_of_row _ _ 6 _ _ _ n1).trans (show _ = some (Value.slice none 0 0) from rfl)
  have j7 := (cell_of_row _ _ 7 _ _ _ n1).trans (show _ = some (Value.slice ya yl.length yc) from rfl)
  clear n0 n1 K0 K1 hbW
  go_wp2_with (first
    | (go_at_call 31; refine (HV.out _ HBW.out).mono ?_; rintro e w3 ⟨rfl, hb3⟩; have k8 := (cell_of_row _ _ 8 _ _ _ (HK.out.1 _ hb3)).trans (show _ = some (Value.slice a1 out.length c1) from rfl); have l8 := (cell_of_row _ _ 8 _ _ _ (HK.out.2 _ hb3)).trans (show _ = some (Value.slice a2 out.length c2) from rfl); have HB3 := Lib.hid (HBW.out.trans (hb3.mono HBW.out.size)); clear hb3)
    | (go_at_call 32; refine (HT.out _ HB3.out).mono ?_; rintro e w4 ⟨rfl, hb4⟩))
  go_ret
  exact ⟨rfl, HB3.out.trans (hb4.mono HB3.out.size)⟩
theorem fault_zero {fl : List FlatD} {main : Int} (h : faultA fl main = 0) : validF fl main = true ∧ (allT fl).any notQ = false ∧ (dedup (allT fl)).length ≤ 1000 := by
  unfold faultA faultT at h
  by_cases hv : validF fl main = true
  · rw [if_pos hv] at h
    by_cases hq : (dedup (allT fl)).any notQ = true
    · rw [if_pos hq] at h; cases h
    · rw [if_neg hq] at h
      by_cases hl : 1000 < (dedup (allT fl)).length
      · rw [if_pos hl] at h; cases h
      · rw [dedup_any] at hq
        exact ⟨hv, by simpa using hq, by omega⟩
  · rw [if_neg hv] at h; cases h
theorem textsL_append (a b : List ExpD) : textsL (a ++ b) = textsL a ++ textsL b := by
  induction a with
  | nil => rw [List.nil_append, textsL_nil, List.nil_append]
  | cons x r ih => rw [List.cons_append, textsL_cons, textsL_cons, ih, List.append_assoc]
/-- The texts of the first functions, each once. -/
def textsTo (fl : List FlatD) (k : Nat) : List ByteArray := dedup (textsL ((fl.map FlatD.body).take k))
theorem textsTo_zero (fl : List FlatD) : textsTo fl 0 = [] := by unfold textsTo; rw [List.take_zero, textsL_nil]; rfl
theorem body_getD (fl : List FlatD) (k : Nat) (h : k < fl.length) : (fl.map FlatD.body).getD k default = (fl.getD k default).body := by
  simp [List.getD, List.getElem?_map, List.getElem?_eq_getElem h]
theorem textsTo_step (fl : List FlatD) (k : Nat) (h : k < fl.length) : textsTo fl (k + 1) = (textsX (fl.getD k default).body).foldl addT (textsTo fl k) := by
  unfold textsTo dedup
  rw [take_one default (fl.map FlatD.body) k (by rw [List.length_map]; exact h), textsL_snoc, List.foldl_append, body_getD fl k h]
theorem allT_split (fl : List FlatD) (k : Nat) : allT fl = textsL ((fl.map FlatD.body).take k) ++ textsL ((fl.map FlatD.body).drop k) := by
  unfold allT
  rw [← textsL_append, List.take_append_drop]
theorem textsTo_all (fl : List FlatD) : textsTo fl fl.length = dedup (allT fl) := by
  unfold textsTo allT
  rw [List.take_of_length_le (by rw [List.length_map]; exact Nat.le_refl _)]
theorem textsTo_small (fl : List FlatD) (k : Nat) : (textsTo fl k).length ≤ (dedup (allT fl)).length := by
  rw [allT_split fl k]
  exact foldT_len _ _ _
theorem mem_textsTo {fl : List FlatD} {k : Nat} {s : ByteArray} (h : s ∈ textsTo fl k) : s ∈ allT fl := by
  rw [allT_split fl k]
  exact List.mem_append_left _ (dedup_mem h)
theorem mem_bodyT {fl : List FlatD} {k : Nat} (hk : k < fl.length) {s : ByteArray} (h : s ∈ textsX (fl.getD k default).body) : s ∈ textsL ((fl.map FlatD.body).take (k + 1)) := by
  rw [take_one default (fl.map FlatD.body) k (by rw [List.length_map]; exact hk), textsL_snoc, body_getD fl k hk]
  exact List.mem_append_right _ h
theorem textsTo_q {fl : List FlatD} {k : Nat} (hk : k < fl.length) (hq : (allT fl).any notQ = false) : (textsTo fl k ++ textsX (fl.getD k default).body).any notQ = false := by
  rw [List.any_eq_false] at hq ⊢
  intro s hs
  rcases List.mem_append.1 hs with h | h
  · exact hq s (mem_textsTo h)
  · refine hq s ?_
    rw [allT_split fl (k + 1)]
    exact List.mem_append_left _ (mem_bodyT hk h)
theorem funOf_later {fl : List FlatD} (hfun : ∀ f ∈ fl, funB (cloV fl) f = true) {k : Nat} (hk : k < fl.length) {g h : FunD} (hg : FunOf (textsTo fl (k + 1)) (fl.getD k default) g) (hh : FunOf (dedup (allT fl)) (fl.getD k default) h) : g.code = h.code ∧ g.l = h.l ∧ FunOf (dedup (allT fl)) (fl.getD k default) g := by
  obtain ⟨a1, a2, a3, a4⟩ := hg
  obtain ⟨b1, b2, b3, b4⟩ := hh
  have hf := hfun _ (getD_mem default fl k hk)
  unfold funB at hf
  rw [Bool.and_eq_true] at hf
  have e : g.code = h.code := whole_one hf.2 a3 b3 fun s hs => by
    rw [allT_split fl (k + 1)]
    exact (textT_later [] _ _ s (mem_bodyT hk hs)).symm
  exact ⟨e, a2.trans b2.symm, a1, a2, by rw [e]; exact b3, a4⟩
theorem same_of {fl : List FlatD} (hfun : ∀ f ∈ fl, funB (cloV fl) f = true) (main : Int) {P Q : List FunD} (hP : P.length = fl.length) (hQ : Q.length = fl.length) (h1 : ∀ i, i < fl.length → FunOf (dedup (allT fl)) (fl.getD i default) (P.getD i default)) (h2 : ∀ i, i < fl.length → FunOf (textsTo fl (i + 1)) (fl.getD i default) (Q.getD i default)) :
    SameP ⟨P, dedup (allT fl), main⟩ ⟨Q, dedup (allT fl), main⟩ ∧ ∀ i, i < fl.length → FunOf (dedup (allT fl)) (fl.getD i default) (Q.getD i default) := by
  have key : ∀ i, i < fl.length → _ := fun i hi => funOf_later hfun hi (h2 i hi) (h1 i hi)
  have out : ∀ (L : List FunD) i, L.length = fl.length → ¬ i < fl.length → L.getD i default = default := fun L i hl hi => by simp [List.getD, List.getElem?_eq_none (by omega : L.length ≤ i)]
  refine ⟨⟨rfl, rfl, fun k => ?_, fun k => ?_⟩, fun i hi => (key i hi).2.2⟩
  · by_cases hk : k < fl.length
    · exact (key k hk).2.1.symm
    · show (P.getD k default).l = (Q.getD k default).l
      rw [out P k hP hk, out Q k hQ hk]
  · by_cases hk : k < fl.length
    · exact (key k hk).1.symm
    · show (P.getD k default).code = (Q.getD k default).code
      rw [out P k hP hk, out Q k hQ hk]
/-- The same code has the same outcome. -/
theorem exec_same {p q : ProgD} (h : SameP p q) (fuel : Int) : execP p fuel = execP q fuel := by
  have hs : startF p = startF q := by unfold startF; rw [h.main]
  have hl : ∀ f a, locals0 p f a = locals0 q f a := fun f a => by unfold locals0 funOf; rw [h.l]
  have hr : runE p fuel = runE q fuel := by
    unfold runE
    rw [hs, hl, runP_same h]
  unfold execP
  rw [hr]
theorem out_small {p : ProgD} (hp : GoodP p) (fuel : Int) (hf : 0 ≤ fuel) : (execP p fuel).out.length ≤ 1000 := by
  have h := runP_ok hp fuel (fuel.toNat + 1) (startF p) (locals0 p (startF p) startA) [] 0 ⟨0, [], 0, 0⟩ (start_ok hp) rfl (locals0_ok _ (valOk_flat p _ _ _ (by decide) (by decide))) (fun _ h => by cases h) (by decide) hf
  have h2 := h.2.1
  unfold execP endO
  split
  · exact h2
  · split
    · exact h2
    · exact h2
def SomeInt (w : World) (e : Ending) (w' : World) : Prop := ∃ z : Int, e = .returned (.int .i64 z) ∧ Below w.heap.size w w'
def SomeBool (w : World) (e : Ending) (w' : World) : Prop := ∃ b : Bool, e = .returned (.bool b) ∧ Below w.heap.size w w'
set_option maxHeartbeats 1000000 in
set_option maxRecDepth 100000 in
theorem size47_any {B : Nat} {w0 : World} {x : ExpD} (hx : IsExp B w0 x) : ∀ w, Below B w0 w → B ≤ w.heap.size → Calls Tryz.prog 21 #[expV x] w (SomeInt w) := by
  induction hx with
  | @mk op n s lv l h1 h2 h3 ih =>
    intro w hb hB
    obtain ⟨a, c, rfl, hlc, _⟩ := id h1
    show Calls Tryz.prog 21 #[.agg #[.int .i64 op, .int .i64 n, .string s, .slice a l.length c]] w (SomeInt w)
    have H1 := Lib.hid h1
    have HIH := Lib.hid ih
    have H3 := Lib.hid h3
    have hbW : Below w.heap.size w (w.alloc (.cells #[.int .i64 op, .int .i64 n, .string s, .slice a l.length c] 29)) := (Below.refl _ _).alloc (Nat.le_refl _) _
    have n0 := new_heap w (.cells #[.int .i64 op, .int .i64 n, .string s, .slice a l.length c] 29)
    have HB0 := Lib.hid hb
    unfold maxLen at h2
    clear h1 h3 ih hb
    go_enter Tryz.func21, Tryz.ntmps21
    go_upto_region 1 with fail
    generalize w.alloc (.cells #[.int .i64 op, .int .i64 n, .string s, .slice a l.length c] 29) = W at *
    have HN := Lib.hid n0
    have HBW := Lib.hid hbW
    have HR := Lib.hid (Below.refl W.heap.size W)
    clear n0 hbW
    go_wp2_with fail
    go_loopw [3, 4] (fun z i wr => ∃ (k : Nat) (m : Int), k ≤ l.length ∧ i = .int .i64 k ∧ z = .int .i64 m ∧ Hid (Below W.heap.size W wr)) (fun _ i _ => l.length - (intOf i).toNat)
    case atStart => exact ⟨0, 1, Nat.zero_le _, rfl, rfl, HR⟩
    case round =>
      obtain ⟨k, m, hk, rfl, rfl, HBl⟩ := hrel
      have m0 := (HBl.out.block _ (heap_lt HN.out)).trans HN.out
      have t3 : wr.cell? ⟨w.heap.size, 3, none⟩ = some (.slice a l.length c) := by simp [World.cell?, m0]
      have hWz := HBW.out.size
      have hb0 : Below B w0 wr := (HB0.out.trans (HBW.out.mono hB)).trans (HBl.out.mono (Nat.le_trans hB HBW.out.size))
      by_cases hkl : k < l.length
      · obtain ⟨b, off, c', hv, _, _, p0, p1, p2, p3⟩ := exps_at (H1.out.kept hb0.block) k hkl
        obtain ⟨rfl, _, rfl⟩ := Value.slice.inj hv
        have hm := getD_mem default l k hkl
        have hC := HIH.out _ hm wr hb0 (by have := HBl.out.size; omega)
        have hy := H3.out _ hm
        generalize l.getD k default = y at *
        obtain ⟨y0, y1, y2, y3, y4⟩ := y
        obtain ⟨ya, yc, rfl, _⟩ := hy.parts.1
        simp only [ExpD.op, ExpD.n, ExpD.s, ExpD.lv] at p0 p1 p2 p3
        have hC : Calls Tryz.prog 21 #[.agg #[.int .i64 y0, .int .i64 y1, .string y2, .slice ya y4.length yc]] wr (SomeInt wr) := hC
        have HC := Lib.hid hC
        have hkn : (k : Int) < ((l.length : Nat) : Int) := by omega
        clear hv hm hC hy m0 hb0
        go_wp2_with (go_at_call 21; refine HC.out.mono ?_; rintro e w3 ⟨z, rfl, hb3⟩; have HB3 := Lib.hid (HBl.out.trans (hb3.mono HBl.out.size)); clear hb3)
        go_roundw
        case rel => exact ⟨k + 1, _, by omega, by go_num, rfl, HB3⟩
        case measure => simp [intOf]; omega
      · obtain rfl : k = l.length := by omega
        go_wp2_with fail
        go_ret
        exact ⟨m, rfl, HBW.out.trans (HBl.out.mono HBW.out.size)⟩
set_option maxHeartbeats 1000000 in
theorem great47_any (B : Nat) (f : FlatD) (w : World) (hf : IsExp B w f.body) (hB : B ≤ w.heap.size) : Calls Tryz.prog 8 #[flatDV f] w (SomeBool w) := by
  obtain ⟨caps, ⟨xo, xn, xs, xv, xl⟩⟩ := f
  obtain ⟨xa, xc, rfl, _⟩ := hf.parts.1
  have hbW : Below w.heap.size w (w.alloc (.cells #[.int .i64 caps, .int .i64 xo, .int .i64 xn, .string xs, .slice xa xl.length xc] 31)) := (Below.refl _ _).alloc (Nat.le_refl _) _
  have n0 := new_heap w (.cells #[.int .i64 caps, .int .i64 xo, .int .i64 xn, .string xs, .slice xa xl.length xc] 31)
  have hC := size47_any hf (w.alloc (.cells #[.int .i64 caps, .int .i64 xo, .int .i64 xn, .string xs, .slice xa xl.length xc] 31)) (hbW.mono hB) (by have := hbW.size; omega)
  have hC : Calls Tryz.prog 21 #[.agg #[.int .i64 xo, .int .i64 xn, .string xs, .slice xa xl.length xc]] (w.alloc (.cells #[.int .i64 caps, .int .i64 xo, .int .i64 xn, .string xs, .slice xa xl.length xc] 31)) (SomeInt _) := hC
  show Calls Tryz.prog 8 #[.agg #[.int .i64 caps, .int .i64 xo, .int .i64 xn, .string xs, .slice xa xl.length xc]] w (SomeBool w)
  have HC := Lib.hid hC
  have HBW := Lib.hid hbW
  clear hC hbW hf
  go_enter Tryz.func8, Tryz.ntmps8
  go_upto_region 1 with fail
  generalize w.alloc (.cells #[.int .i64 caps, .int .i64 xo, .int .i64 xn, .string xs, .slice xa xl.length xc] 31) = W at *
  obtain ⟨_, e1, e2, e3, e4⟩ := five_cells n0
  go_wp2_with (go_at_call 21; refine HC.out.mono ?_; rintro e w3 ⟨z, rfl, hb3⟩; have HB3 := Lib.hid (HBW.out.trans (hb3.mono HBW.out.size)); clear hb3)
  go_ret
  exact ⟨_, rfl, HB3.out⟩
set_option maxHeartbeats 1000000 in
set_option maxRecDepth 100000 in
theorem indexGreat_any (B : Nat) (fv : Value) (l : List FlatD) (w : World) (hl : IsFlats B w fv l) (hBw : B ≤ w.heap.size) :
    Calls Tryz.prog 20 #[fv, .func (.func 8) #[] #[]] w (SomeInt w) := by
  have H := Lib.hid hl
  have hm : l.length ≤ 9223372036854775807 := by have := hl.2.1; unfold maxLen at this; omega
  obtain ⟨⟨a, c, rfl, hlc, _⟩, _⟩ := hl
  have HR := Lib.hid (Below.refl w.heap.size w)
  go_enter Tryz.func20, Tryz.ntmps20
  go_wp2_with fail
  go_loopw [8] (fun i wr => ∃ k : Nat, k ≤ l.length ∧ i = .int .i64 k ∧ Hid (Below w.heap.size w wr)) (fun i _ => l.length - (intOf i).toNat)
  case atStart => exact ⟨0, Nat.zero_le _, rfl, HR⟩
  case round =>
    obtain ⟨k, hk, rfl, HBl⟩ := hrel
    by_cases hkl : k < l.length
    · have hxr := H.out.under (HBl.out.mono hBw)
      obtain ⟨b, off, c', ha, _, hb, c0, c1, c2, c3, c4⟩ := flats_at hxr.1 k hkl
      obtain rfl := (Value.slice.inj ha).1
      have hmem := getD_mem default l k hkl
      have hF := great47_any B _ wr (hxr.2.2 _ hmem) (by have := HBl.out.size; omega)
      clear hxr ha hmem
      generalize l.getD k default = x at *
      obtain ⟨caps, ⟨op, m, s, xv, xl⟩⟩ := x
      have c0 : wr.cell? ⟨b, off + k * 5, none⟩ = some (.int .i64 caps) := c0
      have c1 : wr.cell? ⟨b, off + k * 5 + 1, none⟩ = some (.int .i64 op) := c1
      have c2 : wr.cell? ⟨b, off + k * 5 + 2, none⟩ = some (.int .i64 m) := c2
      have c3 : wr.cell? ⟨b, off + k * 5 + 3, none⟩ = some (.string s) := c3
      have c4 : wr.cell? ⟨b, off + k * 5 + 4, none⟩ = some xv := c4
      have HF := Lib.hid hF
      clear hF
      go_wp2_with fail
      refine HF.out.mono ?_
      rintro e w2 ⟨bb, rfl, hb2⟩
      have HB2 := Lib.hid (HBl.out.trans (hb2.mono HBl.out.size))
      clear hb2 c0 c1 c2 c3 c4
      cases bb
      · go_wp2_with fail
        go_round
        case rel => exact ⟨k + 1, by omega, by go_num, HB2⟩
        case measure => simp [intOf]; omega
      · go_wp2_with fail
        go_ret
        exact ⟨k, rfl, HB2.out⟩
    · go_wp2_with fail
      go_ret
      exact ⟨-1, rfl, HBl.out⟩
theorem containsGreat_any (B : Nat) (fv : Value) (l : List FlatD) (w : World) (hl : IsFlats B w fv l) (hBw : B ≤ w.heap.size) :
    Calls Tryz.prog 7 #[fv, .func (.func 8) #[] #[]] w (SomeBool w) := by
  have H' := Lib.hid (indexGreat_any B fv l w hl hBw)
  obtain ⟨⟨a, c, rfl, hlc, hcell⟩, _⟩ := hl
  clear hcell
  go_enter Tryz.func7, Tryz.ntmps7
  go_wp2_with fail
  refine H'.out.mono ?_
  rintro e w2 ⟨r, rfl, hb2⟩
  have HB2 := Lib.hid hb2
  clear hb2
  go_wp2_with fail
  go_ret
  exact ⟨_, rfl, HB2.out⟩
end Go.Proofs.YtidolpcbbbakmaaGreat
