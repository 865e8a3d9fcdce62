/- The law's short, few, fits. Printed by gen_few.py, expanded by mac.py. -/
import Derived.Test.YtkiffgdinmpljaaGreatDoorF2
import Derived.Test.YtkiffgdinmpljaaGreatDoorF8
import Derived.Test.YtkiffgdinmpljaaGreatDoorF11
set_option linter.unusedVariables false
set_option linter.unusedSimpArgs false
namespace Go.Proofs.YtkiffgdinmpljaaGreatDoor
open Go Go.RowKit
set_option maxHeartbeats 8000000
set_option maxRecDepth 100000
theorem int_cell {w : World} {q : Nat} {x : Value} {t : TypeId} (h : w.heap[q]? = some (.cells #[x] t (0, 0))) : w.cell? ⟨q, 0, none⟩ = some x/\w.frozen? ⟨q, 0, none⟩ = false := ⟨cOQ h, Lib.frozen_of_heap h 0⟩
def IntAt (w : World) (lb : Nat) (n : Int) : Prop := w.heap[lb]? = some (.cells #[.int .i64 n] 3 (0, 0))
theorem IntAt.grown {w w' : World} {lb : Nat} {n : Int} {r : Option Nat} (h : IntAt w lb n) (hg : w.grownBy w' r) (hr : r ≠ some lb) : IntAt w' lb n := (hg.block _ (hLQ h) (fun e => hr e.symm)).trans h
theorem IntAt.set {w : World} {lb : Nat} {n : Int} (h : IntAt w lb n) (m : Int) : IntAt (w.setCell ⟨lb, 0, none⟩ (.int .i64 m)) lb m := heap_set_same h _
def PtrAt (w : World) (b lb : Nat) : Prop := w.heap[b]? = some (.cells #[.pointer (some ⟨lb, 0, none⟩)] 47 (0, 0))
def ShortOk (lb : Nat) (n : Int) (w : World) (e : Ending) (w' : World) : Prop := ∃ (b : Bool) (n' : Int), e = .returned (.bool b)/\IntAt w' lb n'/\w.grownBy w' (some lb)/\-1<=n'/\n'<=n/\(b = true->0<=n')
def ShortAll (k : KindD) : Prop := ∀ (P : Nat->Prop) (w : World) (lb : Nat) (n : Int), IsKind P w k->¬ P lb->IntAt w lb n->0<=n->n<=1000->Calls Tryz.prog 49 #[kindV k, .pointer (some ⟨lb, 0, none⟩)] w (ShortOk lb n w)
theorem short1_any (k : KindD) (H : ShortAll k) (P : Nat->Prop) (w : World) (lb b4 : Nat) (n : Int) (hk : IsKind P w k) (hP : ¬ P lb) (hL : IntAt w lb n) (h0 : 0<=n) (h1 : n<=1000) (h4 : PtrAt w b4 lb) :
 Calls Tryz.prog 85 (#[kindV k] ++ #[.pointer (some ⟨b4, 0, none⟩)]) w fun e w' => ∃ (b : Bool) (n' : Int), e = .returned (.bool b)/\IntAt w' lb n'/\w.grownBy w' (some lb)/\-1<=n'/\n'<=n/\(b = false->0<=n') := by
 obtain ⟨v, l⟩ := k
 obtain ⟨a, c, m, hks⟩ := iKQ hk
 have hks : v = .slice a m c := hks
 subst hks
 have hg := gAQ w (.cells #[.slice a m c] 24)
 have p0 := cOQ (nHQ w (.cells #[.slice a m c] 24))
 have q4 := cOQ ((hg.block _ (hLQ h4) (by nofun)).trans h4)
 have HF := hJQ (H P _ lb n (hk.grown hg (by nofun)) hP (hL.grown hg (by nofun)) h0 h1)
 have HG := hJQ hg
 rw [show kindV (.mk (.slice a m c) l) = .agg #[.slice a m c] from rfl] at HF ⊢
 clear hg h4 hk H hL
 go_enter Tryz.func85, Tryz.ntmps85
 go_wp2_with fail
 refine HF.out.mono ?_
 rintro e w2 ⟨b, n', rfl, hL2, hg2, hn1, hn2, hn3⟩
 have HR : Hid (∃ (b' : Bool) (n' : Int), b' = (!b)/\IntAt w2 lb n'/\w.grownBy w2 (some lb)/\-1<=n'/\n'<=n/\(b' = false->0<=n')) :=
  ⟨_, n', rfl, hL2, gBQ (fNQ HG.out _) hg2, hn1, hn2, fun hb => hn3 (by simpa using hb)⟩
 clear hL2 hg2 hn3
 go_wp2_with fail
 go_ret
 obtain ⟨b', n', hb', h⟩ := HR.out
 exact ⟨b', n', by rw [hb']; rfl, h⟩
theorem short_any : ∀ k : KindD, ShortAll k := by
 refine KindD.ind (fun v l ih P w lb n hk hP hL h0 h1 => ?_)
 obtain ⟨a, c, rfl, hlc⟩ := rSQ hk.parts.1
 have hm : l.length<=9223372036854775807 := by have h1 := hk.parts.2.1; have : maxLen = 9223372036854775807 := (by decide); omega
 have hg0 := gAQ w (.cells #[.slice a l.length c] 24)
 have hg1 := gAQ (w.alloc (.cells #[.slice a l.length c] 24)) (.cells #[.pointer (some ⟨lb, 0, none⟩)] 47)
 have s0 : (w.alloc (.cells #[.slice a l.length c] 24)).heap.size = w.heap.size + 1 := by simp
 have hgW := gBQ hg0 hg1
 have k0 := (hg1.block _ (by omega) (by nofun)).trans (nHQ w (.cells #[.slice a l.length c] 24))
 have k1 : PtrAt ((w.alloc (.cells #[.slice a l.length c] 24)).alloc (.cells #[.pointer (some ⟨lb, 0, none⟩)] 47)) (w.heap.size + 1) lb := by
  have := nHQ (w.alloc (.cells #[.slice a l.length c] 24)) (.cells #[.pointer (some ⟨lb, 0, none⟩)] 47)
  rw [s0] at this
  exact this
 have kL := hL.grown hgW (by nofun)
 have hlt := hLQ hL
 have HK := hJQ hk
 have HI := hJQ ih
 clear hg0 hg1 s0 hL ih hk
 rw [show kindV (.mk (.slice a l.length c) l) = .agg #[.slice a l.length c] from rfl]
 go_enter Tryz.func49, Tryz.ntmps49
 go_upto_region 1 with fail
 generalize (w.alloc (.cells #[.slice a l.length c] 24)).alloc (.cells #[.pointer (some ⟨lb, 0, none⟩)] 47) = W at *
 obtain ⟨x0, fx⟩ := int_cell kL
 have c0 := cOQ k0
 have c1 := cOQ k1
 have hwr : IntKind.i64.wrap (n - 1) = n - 1 := wrap_ok _ (by omega) (by omega)
 have hS := gSQ W lb 0 (.int .i64 (n - 1))
 have kL2 := kL.set (n - 1)
 have hg2 := gBQ (fNQ hgW (some lb)) hS
 have e0 := (hS.block w.heap.size (hLQ k0) (fun e => by have e2 : w.heap.size = lb := oJQ e; omega)).trans k0
 have e1 : PtrAt (W.setCell ⟨lb, 0, none⟩ (.int .i64 (n - 1))) (w.heap.size + 1) lb := (hS.block (w.heap.size + 1) (hLQ k1) (fun e => by have e2 : w.heap.size + 1 = lb := oJQ e; omega)).trans k1
 clear hS hgW
 go_upto_region 2 with fail
 clear x0 fx c0 c1 kL k0 k1
 generalize W.setCell ⟨lb, 0, none⟩ (.int .i64 (n - 1)) = V at *
 obtain ⟨x0, fx⟩ := int_cell kL2
 have c0 := cOQ e0
 have c1 := cOQ e1
 by_cases hneg : n - 1 < 0
 ·have hn : ¬ (0 : Int)<=n - 1 := by omega
  go_wp2_with fail
  go_ret
  exact ⟨false, n - 1, rfl, kL2, hg2, by omega, by omega, by nofun⟩
 ·have hn : (0 : Int)<=n - 1 := by omega
  have hkV := HK.out.grown hg2 (fun q hq => by cases hq; exact hP)
  have HC := hJQ (containsK_any 85 #[.pointer (some ⟨w.heap.size + 1, 0, none⟩)] (enters_of Tryz.func85 (by kernel_rfl) rfl) P (.slice a l.length c) l (fun _ U => ∃ n', IntAt U lb n'/\V.grownBy U (some lb)/\0<=n'/\n'<=n - 1) (fun _ U => ∃ n', IntAt U lb n'/\V.grownBy U (some lb)/\-1<=n'/\n'<=n - 1) V ⟨n - 1, kL2, ⟨rfl, rfl, rfl, Nat.le_refl _, fun _ _ _ => rfl⟩, hn, Int.le_refl _⟩ (fun j U hI => by obtain ⟨n', h1, h2, _⟩ := hI; exact ⟨h2.size, fun b hb hlt => h2.block b hlt (fun e => by cases e; exact hP hb)⟩) (fun j U hj hI => by
   obtain ⟨n', i1, i2, i3, i4⟩ := hI
   have hmem := mem_getD l j hj
   refine (short1_any _ (HI.out _ hmem) P U lb (w.heap.size + 1) n' ((hkV.parts.2.2 _ hmem).grown i2 (fun q hq => by cases hq; exact hP)) hP i1 i3 (by omega) ((i2.block _ (hLQ e1) (fun e => by have e2 : w.heap.size + 1 = lb := oJQ e; omega)).trans e1)).mono ?_
   rintro e U' ⟨b, n2, rfl, j1, j2, j3, j4, j5⟩
   exact ⟨b, rfl, fun _ => ⟨n2, j1, gBQ i2 j2, j3, by omega⟩, fun hb => ⟨n2, j1, gBQ i2 j2, j5 hb, by omega⟩⟩) hkV.parts.1 hm hkV.parts.2.2)
  go_wp2_with fail
  refine HC.out.mono ?_
  rintro e U ⟨b, rfl, hy, hno⟩
  have HR : Hid (∃ (b' : Bool) (n' : Int), b' = (!b)/\IntAt U lb n'/\w.grownBy U (some lb)/\-1<=n'/\n'<=n/\(b' = true->0<=n')) := by
   cases b with
   | true =>
     obtain ⟨_, _, n', h1, h2, h3, h4⟩ := hy rfl
     exact ⟨false, n', rfl, h1, gBQ hg2 h2, h3, by omega, by nofun⟩
   | false =>
     obtain ⟨n', h1, h2, h3, h4⟩ := hno rfl
     exact ⟨true, n', rfl, h1, gBQ hg2 h2, by omega, by omega, fun _ => h3⟩
  clear HC hy hno
  go_wp2_with fail
  go_ret
  obtain ⟨b', n', hb', h⟩ := HR.out
  exact ⟨b', n', by rw [hb']; rfl, h⟩
theorem fewS_any (s : ByteArray) (w : World) : Calls Tryz.prog 48 #[.string s] w fun e w' => e = .returned (.bool (decide (60 < s.size)))/\w' = w := by
 have HF : Hid (∀ b, decide (60 < s.size) = b->Ending.returned (.bool b) = Ending.returned (.bool (decide (60 < s.size)))) := fun b hb => by rw [hb]
 by_cases h : 60 < s.size
 ·have HE := hJQ (HF.out true (decide_eq_true h))
  have h2 : (60 : Int) < s.size := by omega
  clear HF
  go_enter Tryz.func48, Tryz.ntmps48
  go_wp2_with fail
  go_ret
  first | exact ⟨HE.out, rfl⟩ | exact ⟨rfl, rfl⟩
 ·have HE := hJQ (HF.out false (decide_eq_false h))
  have h2 : ¬ (60 : Int) < s.size := by omega
  clear HF
  go_enter Tryz.func48, Tryz.ntmps48
  go_wp2_with fail
  go_ret
  first | exact ⟨HE.out, rfl⟩ | exact ⟨rfl, rfl⟩
theorem fewN_any (P : Nat->Prop) (v : Value) (l : List ByteArray) (w : World) (h : RowP P w v l.length (strCells l)) (hm : l.length<=9223372036854775807) :
 Calls Tryz.prog 47 #[v, .func (.func 48) #[] #[]] w fun e w' => ∃ b : Bool, e = .returned (.bool b)/\w' = w/\(b = false->∀ x ∈ l, x.size<=60) := by
 refine (containsS_any 48 #[] (enters_of Tryz.func48 (by kernel_rfl) rfl) P v l (fun j V => (∀ x ∈ l.take j, x.size<=60)/\V = w) (fun _ V => V = w) w ⟨by rw [List.take_zero]; nofun, rfl⟩ (fun j V hI => by rw [hI.2]; exact Kept.refl _ _) (fun j V hj hI => ?_) h hm).mono ?_
 ·obtain ⟨hI1, rfl⟩ := hI
  refine (fewS_any (l.getD j default) V).mono ?_
  rintro e V' ⟨rfl, rfl⟩
  refine ⟨_, rfl, fun _ => rfl, fun hb => ⟨?_, rfl⟩⟩
  intro x hx
  rw [take_get default l j hj] at hx
  rcases List.mem_append.1 hx with hx | hx
  ·exact hI1 x hx
  ·rw [List.mem_singleton.1 hx]
   have := of_decide_eq_false hb
   omega
 ·rintro e w' ⟨b, rfl, hy, hn⟩
  cases b with
  | true =>
    obtain ⟨_, _, h2⟩ := hy rfl
    exact ⟨true, rfl, h2, by nofun⟩
  | false =>
    obtain ⟨h1, h2⟩ := hn rfl
    rw [List.take_length] at h1
    exact ⟨false, rfl, h2, fun _ => h1⟩
def FewOk (lb : Nat) (n : Int) (x : Cn) (w : World) (e : Ending) (w' : World) : Prop := ∃ (b : Bool) (n' : Int), e = .returned (.bool b)/\IntAt w' lb n'/\w.grownBy w' (some lb)/\-1<=n'/\n'<=n/\(b = true->0<=n'/\n' = n - sizeC x/\bndC x)
def FewAll (x : ConD) : Prop := ∀ (P : Nat->Prop) (w : World) (lb : Nat) (n d : Int), IsCon P w x->¬ P lb->IntAt w lb n->0<=n->n<=1000->0<=d->d<=1000->Calls Tryz.prog 24 #[conV x, .pointer (some ⟨lb, 0, none⟩), .int .i64 d] w (FewOk lb n (pC x) w)
def FewNot (lb : Nat) (n : Int) (x : Cn) (w : World) (e : Ending) (w' : World) : Prop := ∃ (b : Bool) (n' : Int), e = .returned (.bool b)/\IntAt w' lb n'/\w.grownBy w' (some lb)/\-1<=n'/\n'<=n/\(b = false->0<=n'/\n' = n - sizeC x/\bndC x)
theorem few2_any (x : ConD) (H : FewAll x) (P : Nat->Prop) (w : World) (lb b4 b5 : Nat) (n d : Int) (h : IsCon P w x) (hP : ¬ P lb) (hL : IntAt w lb n) (h0 : 0<=n) (h1 : n<=1000) (hd : 0<=d) (hd1 : d<=500) (h4 : PtrAt w b4 lb) (h5 : IntAt w b5 d) :
 Calls Tryz.prog 50 (#[conV x] ++ #[.pointer (some ⟨b4, 0, none⟩), .pointer (some ⟨b5, 0, none⟩)]) w (FewNot lb n (pC x) w) := by
 obtain ⟨op, m, s, k, nv, ns, lv, l⟩ := x
 obtain ⟨ka, kc, kn, hks⟩ := iKQ h.parts.kind
 obtain ⟨na, nc, rfl, _⟩ := rSQ h.parts.names
 obtain ⟨a, c, rfl, _⟩ := rSQ h.parts.row
 have hg := gAQ w (.cells #[.int .i64 op, .int .i64 m, .string s, .slice ka kn kc, .slice na ns.length nc, .slice a l.length c] 28)
 obtain ⟨p0, p1, p2, p3, p4, p5⟩ := cnQ (nHQ w (.cells #[.int .i64 op, .int .i64 m, .string s, .slice ka kn kc, .slice na ns.length nc, .slice a l.length c] 28))
 have q4 := cOQ ((hg.block _ (hLQ h4) (by nofun)).trans h4)
 have q5 := cOQ ((hg.block _ (hLQ h5) (by nofun)).trans h5)
 have HF := H P _ lb n (d + 1) (h.grown hg (by nofun)) hP (hL.grown hg (by nofun)) h0 h1 (by omega) (by omega)
 have hwr : IntKind.i64.wrap (d + 1) = d + 1 := wrap_ok _ (by omega) (by omega)
 rw [cVQ hks] at HF ⊢
 have HF := hJQ HF
 have HG := hJQ hg
 generalize pC (.mk op m s k (.slice na ns.length nc) ns (.slice a l.length c) l) = px at *
 clear hg h4 h5 h H hL hks
 go_enter Tryz.func50, Tryz.ntmps50
 go_wp2_with fail
 refine HF.out.mono ?_
 rintro e w2 ⟨b, n', rfl, hL2, hg2, hn1, hn2, hn3⟩
 have HR : Hid (∃ (b' : Bool) (n' : Int), b' = (!b)/\IntAt w2 lb n'/\w.grownBy w2 (some lb)/\-1<=n'/\n'<=n/\(b' = false->0<=n'/\n' = n - sizeC px/\bndC px)) :=
  ⟨_, n', rfl, hL2, gBQ (fNQ HG.out _) hg2, hn1, hn2, fun hb => hn3 (by simpa using hb)⟩
 clear hL2 hg2 hn3
 go_wp2_with fail
 go_ret
 obtain ⟨b', n', hb', h⟩ := HR.out
 exact ⟨b', n', by rw [hb']; rfl, h⟩
theorem fewL_any (P : Nat->Prop) (v : Value) (l : List ConD) (H : ∀ y ∈ l, FewAll y) (w : World) (lb b4 b5 : Nat) (n d : Int) (h : RowP P w v l.length (cCQ l)) (hm : l.length<=9223372036854775807) (ha : ∀ y ∈ l, IsCon P w y) (hP : ¬ P lb) (hL : IntAt w lb n) (h0 : 0<=n) (h1 : n<=1000) (hd : 0<=d) (hd1 : d<=500) (h4 : PtrAt w b4 lb) (h5 : IntAt w b5 d) (n4 : b4 ≠ lb) (n5 : b5 ≠ lb) :
 Calls Tryz.prog 22 #[v, .func (.func 50) #[] #[.pointer (some ⟨b4, 0, none⟩), .pointer (some ⟨b5, 0, none⟩)]] w fun e w' => ∃ (b : Bool) (n' : Int), e = .returned (.bool b)/\IntAt w' lb n'/\w.grownBy w' (some lb)/\-1<=n'/\n'<=n/\(b = false->0<=n'/\n' = n - sizeCL (l.map pC)/\∀ y ∈ l.map pC, bndC y) := by
 refine (containsC_any 50 #[.pointer (some ⟨b4, 0, none⟩), .pointer (some ⟨b5, 0, none⟩)] (enters_of Tryz.func50 (by kernel_rfl) rfl) P v l (fun j V => ∃ n', IntAt V lb n'/\w.grownBy V (some lb)/\0<=n'/\n'<=n/\n' = n - sizeCL ((l.map pC).take j)/\∀ y ∈ (l.map pC).take j, bndC y) (fun _ V => ∃ n', IntAt V lb n'/\w.grownBy V (some lb)/\-1<=n'/\n'<=n) w ⟨n, hL, ⟨rfl, rfl, rfl, Nat.le_refl _, fun _ _ _ => rfl⟩, h0, Int.le_refl _, by rw [List.take_zero, sizeCL_nil]; omega, by rw [List.take_zero]; nofun⟩ (fun j V hI => by obtain ⟨n', _, h2, _⟩ := hI; exact ⟨h2.size, fun b hb hlt => h2.block b hlt (fun e => by cases e; exact hP hb)⟩) (fun j V hj hI => ?_) h hm ha).mono ?_
 ·obtain ⟨n', i1, i2, i3, i4, i5, i6⟩ := hI
  have hmem := mem_getD l j hj
  refine (few2_any _ (H _ hmem) P V lb b4 b5 n' d ((ha _ hmem).grown i2 (fun q hq => by cases hq; exact hP)) hP i1 i3 (by omega) hd hd1 ((i2.block _ (hLQ h4) (fun e => n4 (oJQ e))).trans h4) (h5.grown i2 (fun e => n5 (oJQ e).symm))).mono ?_
  rintro e V' ⟨b, n2, rfl, j1, j2, j3, j4, j5⟩
  refine ⟨b, rfl, fun _ => ⟨n2, j1, gBQ i2 j2, j3, by omega⟩, fun hb => ?_⟩
  obtain ⟨j6, j7, j8⟩ := j5 hb
  have hT : (l.map pC).take (j + 1) = (l.map pC).take j ++ [pC (l.getD j default)] := by
   rw [take_get default _ j (by rw [List.length_map]; exact hj), map_getD pC l j hj]
  refine ⟨n2, j1, gBQ i2 j2, j6, by omega, ?_, ?_⟩
  ·rw [hT, sizeCL_snoc]; omega
  ·intro y hy
   rw [hT] at hy
   rcases List.mem_append.1 hy with hy | hy
   ·exact i6 y hy
   ·rw [List.mem_singleton.1 hy]; exact j8
 ·rintro e w' ⟨b, rfl, hy, hn⟩
  cases b with
  | true =>
    obtain ⟨_, _, n', k1, k2, k3, k4⟩ := hy rfl
    exact ⟨true, n', rfl, k1, k2, k3, k4, by nofun⟩
  | false =>
    obtain ⟨n', k1, k2, k3, k4, k5, k6⟩ := hn rfl
    rw [take_all] at k5 k6
    exact ⟨false, n', rfl, k1, k2, by omega, k4, fun _ => ⟨k3, k5, k6⟩⟩
theorem few_any : ∀ x : ConD, FewAll x := by
 refine ConD.ind (fun op m s k nv ns lv l ih P w lb n d h hP hL h0 h1 hd0 hd1 => ?_)
 obtain ⟨ka, kc, kn, hks⟩ := iKQ h.parts.kind
 obtain ⟨na, nc, rfl, _⟩ := rSQ h.parts.names
 obtain ⟨a, c, rfl, _⟩ := rSQ h.parts.row
 have hll : l.length<=9223372036854775807 := by have h1 := h.parts.llen; have : maxLen = 9223372036854775807 := (by decide); omega
 have hnn : ns.length<=9223372036854775807 := by have h1 := h.parts.nlen; have : maxLen = 9223372036854775807 := (by decide); omega
 rw [cVQ hks, pMQ]
 have g0 := gAQ w (.cells #[.int .i64 op, .int .i64 m, .string s, .slice ka kn kc, .slice na ns.length nc, .slice a l.length c] 28)
 have g1 := gAQ (w.alloc (.cells #[.int .i64 op, .int .i64 m, .string s, .slice ka kn kc, .slice na ns.length nc, .slice a l.length c] 28)) (.cells #[.pointer (some ⟨lb, 0, none⟩)] 47)
 have g2 := gAQ ((w.alloc (.cells #[.int .i64 op, .int .i64 m, .string s, .slice ka kn kc, .slice na ns.length nc, .slice a l.length c] 28)).alloc (.cells #[.pointer (some ⟨lb, 0, none⟩)] 47)) (.cells #[.int .i64 d] 3)
 have s0 : (w.alloc (.cells #[.int .i64 op, .int .i64 m, .string s, .slice ka kn kc, .slice na ns.length nc, .slice a l.length c] 28)).heap.size = w.heap.size + 1 := by simp
 have s1 : ((w.alloc (.cells #[.int .i64 op, .int .i64 m, .string s, .slice ka kn kc, .slice na ns.length nc, .slice a l.length c] 28)).alloc (.cells #[.pointer (some ⟨lb, 0, none⟩)] 47)).heap.size = w.heap.size + 2 := by simp
 have s2 : (((w.alloc (.cells #[.int .i64 op, .int .i64 m, .string s, .slice ka kn kc, .slice na ns.length nc, .slice a l.length c] 28)).alloc (.cells #[.pointer (some ⟨lb, 0, none⟩)] 47)).alloc (.cells #[.int .i64 d] 3)).heap.size = w.heap.size + 3 := by simp
 have hgW := gBQ (gBQ g0 g1) g2
 have k0 := (g2.block _ (by omega) (by nofun)).trans ((g1.block _ (by omega) (by nofun)).trans (nHQ w (.cells #[.int .i64 op, .int .i64 m, .string s, .slice ka kn kc, .slice na ns.length nc, .slice a l.length c] 28)))
 have k1 : PtrAt (((w.alloc (.cells #[.int .i64 op, .int .i64 m, .string s, .slice ka kn kc, .slice na ns.length nc, .slice a l.length c] 28)).alloc (.cells #[.pointer (some ⟨lb, 0, none⟩)] 47)).alloc (.cells #[.int .i64 d] 3)) (w.heap.size + 1) lb := by
  have := nHQ (w.alloc (.cells #[.int .i64 op, .int .i64 m, .string s, .slice ka kn kc, .slice na ns.length nc, .slice a l.length c] 28)) (.cells #[.pointer (some ⟨lb, 0, none⟩)] 47)
  rw [s0] at this
  exact (g2.block _ (by omega) (by nofun)).trans this
 have k2 : IntAt (((w.alloc (.cells #[.int .i64 op, .int .i64 m, .string s, .slice ka kn kc, .slice na ns.length nc, .slice a l.length c] 28)).alloc (.cells #[.pointer (some ⟨lb, 0, none⟩)] 47)).alloc (.cells #[.int .i64 d] 3)) (w.heap.size + 2) d := by
  have := nHQ ((w.alloc (.cells #[.int .i64 op, .int .i64 m, .string s, .slice ka kn kc, .slice na ns.length nc, .slice a l.length c] 28)).alloc (.cells #[.pointer (some ⟨lb, 0, none⟩)] 47)) (.cells #[.int .i64 d] 3)
  rw [s1] at this
  exact this
 have kL := hL.grown hgW (by nofun)
 have hlt := hLQ hL
 have HX := hJQ h
 have HI := hJQ ih
 have hkv : kindV k = .agg #[.slice ka kn kc] := by show Value.agg #[k.v] = _; rw [hks]
 have HKV := hJQ hkv
 have hwr : IntKind.i64.wrap (n - 1) = n - 1 := wrap_ok _ (by omega) (by omega)
 have HFl : Hid (∀ (U : World) (n' : Int), IntAt U lb n'->w.grownBy U (some lb)->-1<=n'->n'<=n->FewOk lb n (Cn.mk op m s (pK k) ns (l.map pC)) w (.returned (.bool false)) U) := fun U n' h1 h2 h3 h4 => ⟨false, n', rfl, h1, h2, h3, h4, by nofun⟩
 have HTr : Hid (∀ (U : World) (n' : Int) (b : Bool), IntAt U lb n'->w.grownBy U (some lb)->-1<=n'->n'<=n->(b = false->0<=n'/\n' = n - 1 - sizeCL (l.map pC)/\∀ y ∈ l.map pC, bndC y)->s.size<=60->ns.length<=20->(∀ x ∈ ns, x.size<=60)->∀ b', b' = (!b)->FewOk lb n (Cn.mk op m s (pK k) ns (l.map pC)) w (.returned (.bool b')) U) := fun U n' b h1 h2 h3 h4 h5 h6 h7 h8 b' hb' => ⟨b', n', rfl, h1, h2, h3, h4, fun hb => by
  obtain ⟨i1, i2, i3⟩ := h5 (by rw [hb] at hb'; simpa using hb'.symm)
  exact ⟨i1, by rw [sMQ]; omega, (bndC_mk ..).2 ⟨h6, h7, h8, i3⟩⟩⟩
 clear g0 g1 g2 s0 s1 hL ih h hkv hks
 go_enter Tryz.func24, Tryz.ntmps24
 go_upto_region 1 with fail
 generalize (((w.alloc (.cells #[.int .i64 op, .int .i64 m, .string s, .slice ka kn kc, .slice na ns.length nc, .slice a l.length c] 28)).alloc (.cells #[.pointer (some ⟨lb, 0, none⟩)] 47)).alloc (.cells #[.int .i64 d] 3)) = W at *
 obtain ⟨x0, fx⟩ := int_cell kL
 have c1 := cOQ k1
 have hS := gSQ W lb 0 (.int .i64 (n - 1))
 have kL2 := kL.set (n - 1)
 have hgS := gBQ (fNQ hgW (some lb)) hS
 have e0 := (hS.block w.heap.size (hLQ k0) (fun e => by have e2 : w.heap.size = lb := oJQ e; omega)).trans k0
 have e1 : PtrAt (W.setCell ⟨lb, 0, none⟩ (.int .i64 (n - 1))) (w.heap.size + 1) lb := (hS.block (w.heap.size + 1) (hLQ k1) (fun e => by have e2 : w.heap.size + 1 = lb := oJQ e; omega)).trans k1
 have e2 := k2.grown hS (fun e => by have e2 : lb = w.heap.size + 2 := oJQ e; omega)
 have sS : (W.setCell ⟨lb, 0, none⟩ (.int .i64 (n - 1))).heap.size = w.heap.size + 3 := by simp [s2]
 clear hS hgW
 go_upto_region 2 with fail
 clear x0 fx c1 kL k0 k1 k2
 generalize W.setCell ⟨lb, 0, none⟩ (.int .i64 (n - 1)) = V0 at *
 have hgT := gAQ V0 (.cells #[.int .i64 12] 3)
 have kT : IntAt (V0.alloc (.cells #[.int .i64 12] 3)) (w.heap.size + 3) 12 := by
  have := nHQ V0 (.cells #[.int .i64 12] 3)
  rw [sS] at this
  exact this
 have kL3 := kL2.grown hgT (by nofun)
 have k0 := (hgT.block _ (hLQ e0) (by nofun)).trans e0
 have k1 : PtrAt (V0.alloc (.cells #[.int .i64 12] 3)) (w.heap.size + 1) lb := (hgT.block _ (hLQ e1) (by nofun)).trans e1
 have k2 := e2.grown hgT (by nofun)
 have hgV := gBQ hgS (fNQ hgT (some lb))
 clear hgT kL2 e0 e1 e2 hgS
 go_upto_region 3 with fail
 clear s2 sS
 generalize V0.alloc (.cells #[.int .i64 12] 3) = V at *
 have HL3 := hJQ kL3
 have HG := hJQ hgV
 have H0 := hJQ k0
 have H1 := hJQ k1
 have H2 := hJQ k2
 have HT := hJQ kT
 obtain ⟨x0, fx⟩ := int_cell kL3
 have c1 := cOQ k1
 have c2 := cOQ k2
 obtain ⟨d0, d1, d2, d3, d4, d5⟩ := cnQ k0
 clear kL3 hgV k0 k1 k2 kT
 by_cases q1 : n - 1 < 0
 ·go_wp2_with fail
  go_ret
  exact HFl.out _ _ HL3.out HG.out (by omega) (by omega)
 by_cases q2 : 260 < d
 ·go_wp2_with fail
  go_ret
  exact HFl.out _ _ HL3.out HG.out (by omega) (by omega)
 by_cases q3 : (60 : Int) < s.size
 ·go_wp2_with fail
  go_ret
  exact HFl.out _ _ HL3.out HG.out (by omega) (by omega)
 by_cases q4 : (20 : Int) < ns.length
 ·go_wp2_with fail
  go_ret
  exact HFl.out _ _ HL3.out HG.out (by omega) (by omega)
 have HN := hJQ (fewN_any P _ ns V (HX.out.parts.names.grown HG.out (fun q hq => by cases hq; exact hP)) hnn)
 go_wp2_with fail
 refine HN.out.mono ?_
 rintro e w' ⟨bn, rfl, rfl, hbn⟩
 have HBN := hJQ hbn
 clear HN hbn
 cases bn
 rotate_left
 ·go_wp2_with fail
  go_ret
  exact HFl.out _ _ HL3.out HG.out (by omega) (by omega)
 have HSh := short_any k (fun b => P b/\b < w.heap.size) w' (w.heap.size + 3) 12 (HX.out.lt.parts.kind.grown HG.out (fun q hq hp => by cases hq; exact hP hp.1)) (fun hp => by have := hp.2; omega) HT.out (by omega) (by omega)
 rw [HKV.out] at HSh
 have HSh := hJQ HSh
 go_wp2_with fail
 refine HSh.out.mono ?_
 rintro e U ⟨bk, n2, rfl, hT2, hg2, _, _, _⟩
 have hL4 := HL3.out.grown hg2 (fun e => by have e2 : w.heap.size + 3 = lb := oJQ e; omega)
 have j0 := (hg2.block _ (hLQ H0.out) (fun e => by have e2 : w.heap.size = w.heap.size + 3 := oJQ e; omega)).trans H0.out
 have j1 : PtrAt U (w.heap.size + 1) lb := (hg2.block _ (hLQ H1.out) (fun e => by have e2 : w.heap.size + 1 = w.heap.size + 3 := oJQ e; omega)).trans H1.out
 have j2 := H2.out.grown hg2 (fun e => by have e2 : w.heap.size + 3 = w.heap.size + 2 := oJQ e; omega)
 have hg4 := gOQ HG.out hg2 (by omega)
 have HL4 := hJQ hL4
 have HG4 := hJQ hg4
 have HJ1 := hJQ j1
 have HJ2 := hJQ j2
 clear HSh hT2 hL4 hg4 x0 fx c1 c2 d0 d1 d2 d3 d4 d5 hg2
 obtain ⟨x0, fx⟩ := int_cell HL4.out
 have c1 := cOQ j1
 have c2 := cOQ j2
 obtain ⟨d0, d1, d2, d3, d4, d5⟩ := cnQ j0
 clear j0 j1 j2
 cases bk
 ·go_wp2_with fail
  go_ret
  exact HFl.out _ _ HL4.out HG4.out (by omega) (by omega)
 ·have hcU := HX.out.grown HG4.out (fun q hq => by cases hq; exact hP)
  have HLs := hJQ (fewL_any P _ l HI.out U lb (w.heap.size + 1) (w.heap.size + 2) (n - 1) d hcU.parts.row hll hcU.parts.all hP HL4.out (by omega) (by omega) hd0 (by omega) HJ1.out HJ2.out (by omega) (by omega))
  clear hcU
  go_wp2_with fail
  refine HLs.out.mono ?_
  rintro e U2 ⟨b2, n3, rfl, hL5, hg5, hn5, hn6, hn7⟩
  have HR : Hid (∀ b', b' = (!b2)->FewOk lb n (Cn.mk op m s (pK k) ns (l.map pC)) w (.returned (.bool b')) U2) := fun b' hb' => HTr.out U2 n3 b2 hL5 (gBQ HG4.out hg5) hn5 (by omega) hn7 (by omega) (by omega) (HBN.out (by first | rfl | trivial)) b' hb'
  clear HLs hL5 hg5 hn7 HTr HFl
  go_wp2_with fail
  go_ret
  exact HR.out _ rfl
theorem fits1_any (P : Nat->Prop) (x : ConD) (w : World) (lb : Nat) (n : Int) (h : IsCon P w x) (hP : ¬ P lb) (hL : IntAt w lb n) (h0 : 0<=n) (h1 : n<=1000) :
 Calls Tryz.prog 23 (#[conV x] ++ #[.pointer (some ⟨lb, 0, none⟩)]) w (FewNot lb n (pC x) w) := by
 obtain ⟨op, m, s, k, nv, ns, lv, l⟩ := x
 obtain ⟨ka, kc, kn, hks⟩ := iKQ h.parts.kind
 obtain ⟨na, nc, rfl, _⟩ := rSQ h.parts.names
 obtain ⟨a, c, rfl, _⟩ := rSQ h.parts.row
 have hg := gAQ w (.cells #[.int .i64 op, .int .i64 m, .string s, .slice ka kn kc, .slice na ns.length nc, .slice a l.length c] 28)
 obtain ⟨p0, p1, p2, p3, p4, p5⟩ := cnQ (nHQ w (.cells #[.int .i64 op, .int .i64 m, .string s, .slice ka kn kc, .slice na ns.length nc, .slice a l.length c] 28))
 have HF := few_any _ P _ lb n 0 (h.grown hg (by nofun)) hP (hL.grown hg (by nofun)) h0 h1 (by omega) (by omega)
 rw [cVQ hks] at HF ⊢
 have HF := hJQ HF
 have HG := hJQ hg
 generalize pC (.mk op m s k (.slice na ns.length nc) ns (.slice a l.length c) l) = px at *
 clear hg h hL hks
 go_enter Tryz.func23, Tryz.ntmps23
 go_wp2_with fail
 refine HF.out.mono ?_
 rintro e w2 ⟨b, n', rfl, hL2, hg2, hn1, hn2, hn3⟩
 have HR : Hid (∃ (b' : Bool) (n' : Int), b' = (!b)/\IntAt w2 lb n'/\w.grownBy w2 (some lb)/\-1<=n'/\n'<=n/\(b' = false->0<=n'/\n' = n - sizeC px/\bndC px)) :=
  ⟨_, n', rfl, hL2, gBQ (fNQ HG.out _) hg2, hn1, hn2, fun hb => hn3 (by simpa using hb)⟩
 clear hL2 hg2 hn3
 go_wp2_with fail
 go_ret
 obtain ⟨b', n', hb', h⟩ := HR.out
 exact ⟨b', n', by rw [hb']; rfl, h⟩
theorem fits_any (P : Nat->Prop) (x : ConD) (v : Value) (w : World) (hr : RowP P w v [x].length (cCQ [x])) (h : IsCon P w x) :
 Calls Tryz.prog 7 #[v] w fun e w' => ∃ b : Bool, e = .returned (.bool b)/\Below w.heap.size w w'/\(b = true->sizeC (pC x)<=60/\bndC (pC x)) := by
 obtain ⟨a, c, rfl, _⟩ := rSQ hr
 have hg := gAQ w (.cells #[.int .i64 60] 3)
 have kL : IntAt (w.alloc (.cells #[.int .i64 60] 3)) w.heap.size 60 := nHQ w (.cells #[.int .i64 60] 3)
 have hcl := h.lt.grown hg (by nofun)
 have hrl : RowP (fun b => P b/\b < w.heap.size) (w.alloc (.cells #[.int .i64 60] 3)) (.slice a [x].length c) [x].length (cCQ [x]) := (hr.mono (fun b hp hlt => ⟨hp, hlt⟩)).grown hg (by nofun)
 have HC := containsC_any 23 #[.pointer (some ⟨w.heap.size, 0, none⟩)] (enters_of Tryz.func23 (by kernel_rfl) rfl) (fun b => P b/\b < w.heap.size) (.slice a [x].length c) [x] (fun j V => (w.alloc (.cells #[.int .i64 60] 3)).grownBy V (some w.heap.size)/\(j = 0->V = w.alloc (.cells #[.int .i64 60] 3))/\(0 < j->sizeC (pC x)<=60/\bndC (pC x))) (fun _ V => (w.alloc (.cells #[.int .i64 60] 3)).grownBy V (some w.heap.size)) (w.alloc (.cells #[.int .i64 60] 3)) ⟨⟨rfl, rfl, rfl, Nat.le_refl _, fun _ _ _ => rfl⟩, fun _ => rfl, fun h => absurd h (Nat.lt_irrefl 0)⟩ (fun j V hI => ⟨hI.1.size, fun b hb hlt => hI.1.block b hlt (fun e => by have e2 : b = w.heap.size := oJQ e; have := hb.2; omega)⟩) (fun j V hj hI => by
  have hj0 : j = 0 := by have hj : j < 1 := hj; omega
  subst hj0
  obtain ⟨i1, i2, _⟩ := hI
  obtain rfl := i2 rfl
  refine (fits1_any (fun b => P b/\b < w.heap.size) x _ w.heap.size 60 hcl (fun hp => by have := hp.2; omega) kL (by omega) (by omega)).mono ?_
  rintro e V' ⟨b, n2, rfl, j1, j2, j3, j4, j5⟩
  exact ⟨b, rfl, fun _ => j2, fun hb => ⟨j2, by nofun, fun _ => by obtain ⟨h1, h2, h3⟩ := j5 hb; exact ⟨by omega, h3⟩⟩⟩) hrl (by simp) (fun y hy => by rw [List.mem_singleton.1 hy]; exact hcl)
 have HC := hJQ HC
 have HG := hJQ hg
 clear hr h hg kL hcl hrl
 go_enter Tryz.func7, Tryz.ntmps7
 go_wp2_with fail
 refine HC.out.mono ?_
 rintro e U ⟨b, rfl, hy, hno⟩
 have HR : Hid (∃ b' : Bool, b' = (!b)/\Below w.heap.size w U/\(b' = true->sizeC (pC x)<=60/\bndC (pC x))) := by
  have hbl : ∀ V, (w.alloc (.cells #[.int .i64 60] 3)).grownBy V (some w.heap.size)->Below w.heap.size w V := fun V hV => (gUQ (B := w.heap.size) HG.out (nLQ _) (by nofun)).trans (gUQ hV (by simp) (fun q hq => by have e2 : w.heap.size = q := oJQ hq; omega))
  cases b with
  | true =>
    obtain ⟨_, _, h2⟩ := hy rfl
    exact ⟨false, rfl, hbl U h2, by nofun⟩
  | false =>
    obtain ⟨h1, _, h3⟩ := hno rfl
    exact ⟨true, rfl, hbl U h1, fun _ => h3 (by simp)⟩
 clear HC hy hno
 go_wp2_with fail
 go_ret
 obtain ⟨b', hb', h⟩ := HR.out
 exact ⟨b', by rw [hb']; rfl, h⟩
end Go.Proofs.YtkiffgdinmpljaaGreatDoor
