/- Walks of regions that draw their order, by hand: a run of takes, one operation alone, a store of a whole row. leafOf. Printed by gen_leaf.py, expanded by mac.py. shifted$1, shifted. Expanded by mac.py. -/
import Derived.Test.YtkiffgdinmpljaaGreatDoorF8
import Derived.Laws.Tables
import Derived.Laws.Rows
import Derived.Deep.RegionHeld
set_option linter.unusedVariables false
set_option linter.unusedSimpArgs false
namespace Go.Proofs.YtkiffgdinmpljaaGreatDoor
open Go Go.RowKit
set_option maxHeartbeats 8000000
set_option maxRecDepth 100000
theorem step_store {P : Program} {ops : Array Oper} {o : Oper} {a : Act} {w : World} {K : Act->World->Prop} {Q : Exit->Act->World->Prop} {E : Prop}
 (hg : o.guard = none) (ty : TypeId) (x y : Operand) (ho : o.op = .store ty x y) (g : Nat) (cells : Array Value) (hx : a.eval x = .pointer (some ⟨g, 0, none⟩)) (hy : a.eval y = .agg cells)
 (t : TypeId) (old : Array Value) (h0 : w.heap[g]? = some (.cells old t (0, 0))) (hi : (P.info? ty).map (·.size) = some cells.size) (hold : old.size = cells.size) (h1 : cells.all (·.oneCell') = true)
 (h : K (a.put o.dst undef) (w.setRow g cells)) : if Region.wanted o (yielded ops a.tmps) = true then Oper.wp P o a w K Q else E := by
 have hw : Region.wanted o (yielded ops a.tmps) = true := by simp [Region.wanted, hg]
 rw [if_pos hw]
 exact wp_store_row ty x y ho g cells hx hy t old h0 hi hold h1 h
theorem all_one (l : List Value) (h : l.all (·.oneCell') = true) : l.toArray.all (·.oneCell') = true := by rw [← Array.all_toList]; exact h
theorem held_take {P : Program} {ops : Array Oper} {Q : Exit->Act->World->Prop} {md : Region.Mode} {S : World->Prop} {fuel : Nat} {listed : Array Bool} {a : Act} {w : World} (i d : Nat) (v : Value) {oi : Oper} (hi : ops[i]? = some oi) (hd : oi.dst = some d)
 (hs : Region.noSelect ops = true) (hf : Region.free md ops listed i = true) (hr : (Region.ready md ops listed).contains i = true)
 (hQ : ∀ c a w, Q (.panic c) (a.put oi.dst v) w->Q (.panic c) a w) (hy : YieldsIf P ops S oi v a) (hS : S w)
 (h : wpAnyH P md ops Q S fuel (listed.setIfInBounds i true) (a.put (some d) v) w) : wpAnyH P md ops Q S (fuel + 1) listed a w :=
 wpAnyH_take hi hs hf hr hQ hy hS (by rw [hd]; exact h)
def Yc (P : Program) (ops : Array Oper) (S : World->Prop) : List Nat->Act->Act->Prop
 | [], a, b => a = b
 | i :: r, a, b => ∃ o d v, ops[i]? = some o/\o.dst = some d/\Region.wanted o (yielded ops a.tmps) = true/\(∀ w, S w->(execOp a.eval o).run P w = .ok (.value v) w)/\Yc P ops S r (a.put (some d) v) b
def setT : Array Bool->List Nat->Array Bool
 | l, [] => l
 | l, i :: r => setT (l.setIfInBounds i true) r
def chkT (md : Region.Mode) (ops : Array Oper) : Array Bool->List Nat->Bool
 | _, [] => true
 | l, i :: r => Region.free md ops l i && ((Region.ready md ops l).contains i && chkT md ops (l.setIfInBounds i true) r)
theorem yc {P : Program} {ops : Array Oper} {S : World->Prop} {i d : Nat} {r : List Nat} {a b : Act} {o : Oper} {v : Value} (ho : ops[i]? = some o) (hd : o.dst = some d) (hw : Region.wanted o (yielded ops a.tmps) = true) (hy : ∀ w, S w->(execOp a.eval o).run P w = .ok (.value v) w) (h : Yc P ops S r (a.put (some d) v) b) : Yc P ops S (i :: r) a b :=
 ⟨o, d, v, ho, hd, hw, hy, h⟩
theorem tks {P : Program} {ops : Array Oper} {Q : Exit->Act->World->Prop} {md : Region.Mode} {S : World->Prop} {k : Nat} {w : World} {b : Act} (hs : Region.noSelect ops = true) (hQ : ∀ d v c a w, Q (.panic c) (a.put (some d) v) w->Q (.panic c) a w) (hS : S w) : ∀ (m : Nat) (l : List Nat) {listed : Array Bool} {a : Act}, (chkT md ops listed l && l.length == m) = true →
 Yc P ops S l a b->wpAnyH P md ops Q S k (setT listed l) b w->wpAnyH P md ops Q S (k + m) listed a w
 | m, [], listed, a, hc, hy, h => by
   obtain rfl : m = 0 := by simp [chkT] at hc; omega
   cases hy
   exact h
 | m, i :: r, listed, a, hc, hy, h => by
   obtain ⟨o, d, v, ho, hd, hw, hy, hr⟩ := hy
   simp only [chkT, Bool.and_eq_true, beq_iff_eq, List.length_cons] at hc
   obtain ⟨⟨hf, hre, hc⟩, rfl⟩ := hc
   refine held_take i d v ho hd hs hf hre (fun c a w h => hQ d v c a w (by rw [← hd]; exact h)) (Or.inl ⟨hw, hy⟩) hS (tks hs hQ hS r.length r (by rw [hc]; simp) hr h)
theorem rd1 {P : Program} {ops : Array Oper} {Q : Exit->Act->World->Prop} {md : Region.Mode} {S : World->Prop} {fuel : Nat} {listed : Array Bool} {a : Act} {w : World} {o : Oper} (i : Nat) (hr : Region.ready md ops listed = [i]) (ho : ops[i]? = some o)
 (h : ∀ K' : Act->World->Prop, Shut (∀ a w, S w->(S w->wpAnyH P md ops Q S fuel (listed.setIfInBounds i true) a w)->K' a w)->if Region.wanted o (yielded ops a.tmps) = true then Oper.wp P o a w K' Q else K' (a.put o.dst undef) w) : wpAnyH P md ops Q S (fuel + 1) listed a w :=
 wpAnyH_ready hr (by simp) (AllReadyH.cons ho h AllReadyH.nil)
theorem held_store {P : Program} {ops : Array Oper} {Q : Exit->Act->World->Prop} {md : Region.Mode} {S : World->Prop} {fuel : Nat} {listed : Array Bool} {a : Act} {w : World} (i : Nat) {o : Oper}
 (hr : Region.ready md ops listed = [i]) (ho : ops[i]? = some o) (hg : o.guard = none) (hdn : o.dst = none) (ty : TypeId) (x y : Operand) (hop : o.op = .store ty x y) (g : Nat) (cells : Array Value) (hx : a.eval x = .pointer (some ⟨g, 0, none⟩)) (hy : a.eval y = .agg cells)
 (t : TypeId) (old : Array Value) (h0 : w.heap[g]? = some (.cells old t (0, 0))) (hi : (P.info? ty).map (·.size) = some cells.size) (hold : old.size = cells.size) (h1 : cells.all (·.oneCell') = true) (hS : S (w.setRow g cells))
 (h : wpAnyH P md ops Q S fuel (listed.setIfInBounds i true) a (w.setRow g cells)) : wpAnyH P md ops Q S (fuel + 1) listed a w :=
 wpAnyH_ready hr (by simp) (AllReadyH.cons ho (fun K hK => step_store hg ty x y hop g cells hx hy t old h0 hi hold h1 (hK.out _ _ hS (fun _ => by rw [hdn]; exact h))) AllReadyH.nil)
theorem gRQ (V : World) (R : Nat) (cs : Array Value) : V.grownBy (V.setRow R cs) (some R) :=
 ⟨rfl, rfl, rfl, Nat.le_of_eq (size_setRow V R cs).symm, fun q _ hr => setRow_other V R q cs (fun e => hr (by rw [e]))⟩
theorem leafOf_any (P : Nat->Prop) (x : ConD) (w : World) (h : IsCon P w x) (hsz : sizeK (pC x).k<=100000) :
 Calls Tryz.prog 68 #[conV x] w fun e w' => ConOut (fun b => w.heap.size<=b) (.mk x.op x.n x.s (pK x.k) [] []) e w'/\Below w.heap.size w w' := by
 obtain ⟨op, n, s, k, nv, ns, lv, l⟩ := x
 rw [pMQ] at hsz
 obtain ⟨ka, kc, kn, hks⟩ := iKQ h.parts.kind
 obtain ⟨na, nc, rfl, _⟩ := rSQ h.parts.names
 obtain ⟨a, c, rfl, _⟩ := rSQ h.parts.row
 rw [cVQ hks]
 have hll : l.length<=9223372036854775807 := by have h1 := h.parts.llen; have : maxLen = 9223372036854775807 := (by decide); omega
 have hnn : ns.length<=9223372036854775807 := by have h1 := h.parts.nlen; have : maxLen = 9223372036854775807 := (by decide); omega
 have hb0 : Below w.heap.size w (w.alloc (.cells #[.int .i64 op, .int .i64 n, .string s, .slice ka kn kc, .slice na ns.length nc, .slice a l.length c] 28)) := (Below.refl _ _).alloc (Nat.le_refl _) _
 have gC := nHQ w (.cells #[.int .i64 op, .int .i64 n, .string s, .slice ka kn kc, .slice na ns.length nc, .slice a l.length c] 28)
 have hsz0 : (w.alloc (.cells #[.int .i64 op, .int .i64 n, .string s, .slice ka kn kc, .slice na ns.length nc, .slice a l.length c] 28)).heap.size = w.heap.size + 1 := by simp
 obtain ⟨c0, c1, c2, c3, c4, c5⟩ := cnQ gC
 have HP := hJQ (iBQ h hb0).parts
 have HC0 := hJQ (iBQ h hb0)
 show Calls _ _ _ _ fun e w' => ConOut (fun b => w.heap.size<=b) (.mk op n s (pK k) [] []) e w'/\_
 have hg1 := gAQ (w.alloc (.cells #[.int .i64 op, .int .i64 n, .string s, .slice ka kn kc, .slice na ns.length nc, .slice a l.length c] 28)) (.cells #[.int .i64 0, .int .i64 0, .string ⟨#[]⟩, .slice none 0 0, .slice none 0 0, .slice none 0 0] 28)
 have kR : ((w.alloc (.cells #[.int .i64 op, .int .i64 n, .string s, .slice ka kn kc, .slice na ns.length nc, .slice a l.length c] 28)).alloc (.cells #[.int .i64 0, .int .i64 0, .string ⟨#[]⟩, .slice none 0 0, .slice none 0 0, .slice none 0 0] 28)).heap[w.heap.size + 1]? = _ := (congrArg _ hsz0.symm).trans (nHQ (w.alloc (.cells #[.int .i64 op, .int .i64 n, .string s, .slice ka kn kc, .slice na ns.length nc, .slice a l.length c] 28)) (.cells #[.int .i64 0, .int .i64 0, .string ⟨#[]⟩, .slice none 0 0, .slice none 0 0, .slice none 0 0] 28))
 have kB := (hg1.block w.heap.size (by omega) (by nofun)).trans gC
 have hkk := (h.parts.kind.grown (gBQ (gAQ w (.cells #[.int .i64 op, .int .i64 n, .string s, .slice ka kn kc, .slice na ns.length nc, .slice a l.length c] 28)) hg1) (by nofun))
 have hbW := gUQ (B := w.heap.size) (gBQ (gAQ w (.cells #[.int .i64 op, .int .i64 n, .string s, .slice ka kn kc, .slice na ns.length nc, .slice a l.length c] 28)) hg1) (Nat.le_refl _) (by nofun)
 have hszW : ((w.alloc (.cells #[.int .i64 op, .int .i64 n, .string s, .slice ka kn kc, .slice na ns.length nc, .slice a l.length c] 28)).alloc (.cells #[.int .i64 0, .int .i64 0, .string ⟨#[]⟩, .slice none 0 0, .slice none 0 0, .slice none 0 0] 28)).heap.size = w.heap.size + 2 := by simp
 have hkv : kindV k = .agg #[.slice ka kn kc] := by show Value.agg #[k.v] = _; rw [hks]
 clear c0 c1 c2 c3 c4 c5 h hb0 gC HP HC0 hsz0 hg1
 go_enter Tryz.func68, Tryz.ntmps68
 go_upto_region 1 with fail
 generalize (w.alloc (.cells #[.int .i64 op, .int .i64 n, .string s, .slice ka kn kc, .slice na ns.length nc, .slice a l.length c] 28)).alloc (.cells #[.int .i64 0, .int .i64 0, .string ⟨#[]⟩, .slice none 0 0, .slice none 0 0, .slice none 0 0] 28) = W at *
 obtain ⟨c0, c1, c2, c3, c4, c5⟩ := cnQ kB
 have HC := hJQ (kindOf_any P k W.drew (hkk.grown (gDQ W) (by nofun)) hsz)
 rw [hkv] at HC
 have S0 : (fun w9 => w9.cell? ⟨w.heap.size, 0, none⟩ = some (.int .i64 op)/\w9.cell? ⟨w.heap.size, 1, none⟩ = some (.int .i64 n)/\w9.cell? ⟨w.heap.size, 2, none⟩ = some (.string s)/\w9.cell? ⟨w.heap.size, 3, none⟩ = some (.slice ka kn kc)) W.drew := ⟨c0, c1, c2, c3⟩
 refine wp_region_held_drew (S := (fun w9 => w9.cell? ⟨w.heap.size, 0, none⟩ = some (.int .i64 op)/\w9.cell? ⟨w.heap.size, 1, none⟩ = some (.int .i64 n)/\w9.cell? ⟨w.heap.size, 2, none⟩ = some (.string s)/\w9.cell? ⟨w.heap.size, 3, none⟩ = some (.slice ka kn kc))) (by kernel_rfl) S0 (fun hHeld => ?_)
 refine tks (b := ?_) (by kernel_rfl) (fun _ _ _ _ _ h => h) S0 8 [0, 1, 2, 3, 4, 5, 6, 7] (by kernel_rfl) ?_ ?_
 rotate_left
 ·iterate 8 (refine yc (v := ?_) rfl rfl (by rfl) (fun w9 hSw => ?_) ?_; rotate_left; (focus go_simp; try rfl); simp only [Act.put, List.setIfInBounds_toArray, List.set_cons_zero, List.set_cons_succ])
  exact rfl
 refine rd1 8 (by kernel_rfl) (by rfl) (fun K hK => ?_)
 go_simp
 go_at_call 109
 refine HC.out.mono ?_
 rintro e w2 ⟨⟨d, rfl, hd, hpd⟩, hb2⟩
 obtain ⟨ld, da, dc, hdk⟩ := kind_shape hd
 subst hdk
 rw [show kindV (.mk (.slice da ld.length dc) ld) = .agg #[.slice da ld.length dc] from rfl]
 have g2 := (hb2.block _ (hLQ kB)).trans kB
 obtain ⟨d0, d1, d2, d3, d4, d5⟩ := cnQ g2
 have gR2 := (hb2.block _ (hLQ kR)).trans kR
 have S2 : (fun w9 => w9.cell? ⟨w.heap.size, 0, none⟩ = some (.int .i64 op)/\w9.cell? ⟨w.heap.size, 1, none⟩ = some (.int .i64 n)/\w9.cell? ⟨w.heap.size, 2, none⟩ = some (.string s)/\w9.cell? ⟨w.heap.size, 3, none⟩ = some (.slice ka kn kc)) w2 := ⟨d0, d1, d2, d3⟩
 have hszW2 : W.heap.size<=w2.heap.size := hb2.size
 have hrow := gRQ w2 (w.heap.size + 1) #[.int .i64 op, .int .i64 n, .string s, .slice da ld.length dc, .slice none 0 0, .slice none 0 0]
 have g3 := (hrow.block _ (hLQ g2) (fun e => by have e2 : w.heap.size = w.heap.size + 1 := oJQ e; omega)).trans g2
 obtain ⟨e0, e1, e2, e3, e4, e5⟩ := cnQ g3
 have S3 : (fun w9 => w9.cell? ⟨w.heap.size, 0, none⟩ = some (.int .i64 op)/\w9.cell? ⟨w.heap.size, 1, none⟩ = some (.int .i64 n)/\w9.cell? ⟨w.heap.size, 2, none⟩ = some (.string s)/\w9.cell? ⟨w.heap.size, 3, none⟩ = some (.slice ka kn kc)) (w2.setRow (w.heap.size + 1) #[.int .i64 op, .int .i64 n, .string s, .slice da ld.length dc, .slice none 0 0, .slice none 0 0]) := ⟨e0, e1, e2, e3⟩
 have HB := hJQ ((hbW.drew.trans (hb2.mono hbW.drew.size)).trans (gUQ (B := w.heap.size) hrow (by omega) (fun q hq => by have e2 : w.heap.size + 1 = q := oJQ hq; omega)))
 have HD : Hid (IsKind (fun b => w.heap.size<=b) (w2.setRow (w.heap.size + 1) #[.int .i64 op, .int .i64 n, .string s, .slice da ld.length dc, .slice none 0 0, .slice none 0 0]) (.mk (.slice da ld.length dc) ld)) := ((hd.grown hrow (fun q hq hp => by have e2 : w.heap.size + 1 = q := oJQ hq; have hp : W.heap.size<=q := hp; omega)).mono (fun b hb _ => by have hb : W.heap.size<=b := hb; show w.heap.size<=b; omega))
 have HR3 := hJQ (setRow_heap w2 (w.heap.size + 1) _ #[.int .i64 op, .int .i64 n, .string s, .slice da ld.length dc, .slice none 0 0, .slice none 0 0] _ _ gR2)
 clear hrow hd HC hb2 hbW hkk
 refine hK.out _ _ S2 (fun _ => ?_)
 clear hK K
 refine tks (b := ?_) (by kernel_rfl) (fun _ _ _ _ _ h => h) S2 1 [9] (by kernel_rfl) ?_ ?_
 rotate_left
 ·refine yc (v := ?_) rfl rfl (by rfl) (fun w9 hSw => ?_) ?_; rotate_left; (focus go_simp; try rfl); simp only [Act.put, List.setIfInBounds_toArray, List.set_cons_zero, List.set_cons_succ]
  exact rfl
 refine held_store 10 (by kernel_rfl) (by rfl) (by rfl) (by rfl) 28 _ _ (by rfl) (w.heap.size + 1) #[.int .i64 op, .int .i64 n, .string s, .slice da ld.length dc, .slice none 0 0, .slice none 0 0] (by rfl) (by rfl) 28 _ gR2 cIQ rfl (all_one _ rfl) S3 ?_
 refine wpAnyH_done (by kernel_rfl) ?_ _
 go_wp2_with fail
 refine bodyPost_ret (results_cell_row rfl _ _ (w.heap.size + 1) 28 #[.int .i64 op, .int .i64 n, .string s, .slice da ld.length dc, .slice none 0 0, .slice none 0 0] (0, 0) _ rfl HR3.out Tryz.underlying28 rfl cIQ) rfl ?_
 exact ⟨⟨.mk op n s (.mk (.slice da ld.length dc) ld) (.slice none 0 0) [] (.slice none 0 0) [], rfl, .mk HD.out (RowP.nil _ _) (Nat.zero_le maxLen) (RowP.nil _ _) (Nat.zero_le maxLen) (fun y hy => by cases hy), by rw [pMQ, hpd]; rfl⟩, HB.out⟩
theorem ConOut.open' {P : Nat->Prop} {x : Cn} {e : Ending} {w' : World} (h : ConOut P x e w') : ∃ (d : ConD) (op n : Int) (s : ByteArray) (ka : Option Addr) (kn kc : Nat) (na : Option Addr) (nm nc : Nat) (la : Option Addr) (lm lc : Nat), e = .returned (.agg #[.int .i64 op, .int .i64 n, .string s, .slice ka kn kc, .slice na nm nc, .slice la lm lc])/\IsCon P w' d/\pC d = x/\conV d = .agg #[.int .i64 op, .int .i64 n, .string s, .slice ka kn kc, .slice na nm nc, .slice la lm lc] := by
 obtain ⟨d, rfl, hd, hp⟩ := h
 obtain ⟨op, n, s, k, ns, l, ka, kn, kc, na, nc, la, lc, rfl, hks, _⟩ := cSQ hd
 exact ⟨_, op, n, s, ka, kn, kc, na, _, nc, la, _, lc, by rw [cVQ hks], hd, hp, cVQ hks⟩
theorem grown_refl' (w : World) : w.grownBy w none := ⟨rfl, rfl, rfl, Nat.le_refl _, fun _ _ _ => rfl⟩
theorem cell_int {w : World} {q : Nat} {x : Value} {t : TypeId} (h : w.heap[q]? = some (.cells #[x] t (0, 0))) : w.cell? ⟨q, 0, none⟩ = some x := by simp [World.cell?, h]
def leafS (b f : Int) (c : Cn) (d : Int) : Cn := if c.op = 1/\f<=c.n - d then varC (c.n + b) else .mk c.op c.n c.s c.k [] []
theorem shifted1_any (P : Nat->Prop) (x : ConD) (fb bb : Nat) (b f d : Int) (w : World) (h : IsCon P w x) (hsz : sizeK (pC x).k<=100000) (hF : w.heap[fb]? = some (.cells #[.int .i64 f] 3 (0, 0))) (hB : w.heap[bb]? = some (.cells #[.int .i64 b] 3 (0, 0))) (hn : -1000000<=x.n) (hn1 : x.n<=1000000) (hb : -1000000<=b) (hb1 : b<=1000000) (hd : -1000000<=d) (hd1 : d<=1000000) :
 Calls Tryz.prog 110 (#[conV x, .int .i64 d] ++ #[.pointer (some ⟨fb, 0, none⟩), .pointer (some ⟨bb, 0, none⟩)]) w fun e w' => ConOut (fun b => w.heap.size<=b) (leafS b f (pC x) d) e w'/\Below w.heap.size w w' := by
 obtain ⟨op, n, s, k, nv, ns, lv, l⟩ := x
 have hn : -1000000<=n := hn
 have hn1 : n<=1000000 := hn1
 obtain ⟨ka, kc, kn, hks⟩ := iKQ h.parts.kind
 obtain ⟨na, nc, rfl, _⟩ := rSQ h.parts.names
 obtain ⟨a, c, rfl, _⟩ := rSQ h.parts.row
 rw [cVQ hks]
 have hll : l.length<=9223372036854775807 := by have h1 := h.parts.llen; have : maxLen = 9223372036854775807 := (by decide); omega
 have hnn : ns.length<=9223372036854775807 := by have h1 := h.parts.nlen; have : maxLen = 9223372036854775807 := (by decide); omega
 have hb0 : Below w.heap.size w (w.alloc (.cells #[.int .i64 op, .int .i64 n, .string s, .slice ka kn kc, .slice na ns.length nc, .slice a l.length c] 28)) := (Below.refl _ _).alloc (Nat.le_refl _) _
 have gC := nHQ w (.cells #[.int .i64 op, .int .i64 n, .string s, .slice ka kn kc, .slice na ns.length nc, .slice a l.length c] 28)
 have hsz0 : (w.alloc (.cells #[.int .i64 op, .int .i64 n, .string s, .slice ka kn kc, .slice na ns.length nc, .slice a l.length c] 28)).heap.size = w.heap.size + 1 := by simp
 obtain ⟨c0, c1, c2, c3, c4, c5⟩ := cnQ gC
 have HP := hJQ (iBQ h hb0).parts
 have HC0 := hJQ (iBQ h hb0)
 have hg1 := gAQ (w.alloc (.cells #[.int .i64 op, .int .i64 n, .string s, .slice ka kn kc, .slice na ns.length nc, .slice a l.length c] 28)) (.cells #[.int .i64 0, .int .i64 0, .string ⟨#[]⟩, .slice none 0 0, .slice none 0 0, .slice none 0 0] 28)
 have kR : ((w.alloc (.cells #[.int .i64 op, .int .i64 n, .string s, .slice ka kn kc, .slice na ns.length nc, .slice a l.length c] 28)).alloc (.cells #[.int .i64 0, .int .i64 0, .string ⟨#[]⟩, .slice none 0 0, .slice none 0 0, .slice none 0 0] 28)).heap[w.heap.size + 1]? = _ := (congrArg _ hsz0.symm).trans (nHQ (w.alloc (.cells #[.int .i64 op, .int .i64 n, .string s, .slice ka kn kc, .slice na ns.length nc, .slice a l.length c] 28)) (.cells #[.int .i64 0, .int .i64 0, .string ⟨#[]⟩, .slice none 0 0, .slice none 0 0, .slice none 0 0] 28))
 have kB := (hg1.block w.heap.size (by omega) (by nofun)).trans gC
 have hg2 := gBQ (gAQ w (.cells #[.int .i64 op, .int .i64 n, .string s, .slice ka kn kc, .slice na ns.length nc, .slice a l.length c] 28)) hg1
 have kF := (hg2.block fb (hLQ hF) (by nofun)).trans hF
 have kb := (hg2.block bb (hLQ hB) (by nofun)).trans hB
 have hcc := h.grown hg2 (by nofun)
 have hbW := gUQ (B := w.heap.size) hg2 (Nat.le_refl _) (by nofun)
 have hszW : ((w.alloc (.cells #[.int .i64 op, .int .i64 n, .string s, .slice ka kn kc, .slice na ns.length nc, .slice a l.length c] 28)).alloc (.cells #[.int .i64 0, .int .i64 0, .string ⟨#[]⟩, .slice none 0 0, .slice none 0 0, .slice none 0 0] 28)).heap.size = w.heap.size + 2 := by simp
 have hPur : Hid (pC (.mk op n s k (.slice na ns.length nc) ns (.slice a l.length c) l) = .mk op n s (pK k) ns (l.map pC)) := pMQ ..
 have HLeaf := hJQ (fun W (hW : ((w.alloc (.cells #[.int .i64 op, .int .i64 n, .string s, .slice ka kn kc, .slice na ns.length nc, .slice a l.length c] 28)).alloc (.cells #[.int .i64 0, .int .i64 0, .string ⟨#[]⟩, .slice none 0 0, .slice none 0 0, .slice none 0 0] 28)).grownBy W none) => leafOf_any P _ W (hcc.grown hW (by nofun)) hsz)
 rw [cVQ hks] at HLeaf
 have HVar := hJQ (fun W : World => variable_any (fun b => W.heap.size<=b) (n + b) W)
 clear c0 c1 c2 c3 c4 c5 h hb0 gC HP HC0 hsz0 hg1 hsz hcc hg2 hF hB
 by_cases q1 : op = 1/\f<=n - d
 ·obtain ⟨q1, q2⟩ := q1
  have HE : Hid (leafS b f (.mk op n s (pK k) ns (l.map pC)) d = varC (n + b)) := by
   show _ = _; unfold leafS; rw [if_pos ⟨q1, q2⟩]; rfl
  have q1' : (op == 1) = true := beq_iff_eq.2 q1
  rw [hPur.out, HE.out]
  clear q1 hPur HLeaf hks
  go_enter Tryz.func110, Tryz.ntmps110
  go_upto_region 1 with fail
  generalize (w.alloc (.cells #[.int .i64 op, .int .i64 n, .string s, .slice ka kn kc, .slice na ns.length nc, .slice a l.length c] 28)).alloc (.cells #[.int .i64 0, .int .i64 0, .string ⟨#[]⟩, .slice none 0 0, .slice none 0 0, .slice none 0 0] 28) = W at *
  obtain ⟨c0, c1, c2, c3, c4, c5⟩ := cnQ kB
  have cF := cell_int kF
  have cB := cell_int kb
  go_wp2_with fail
  refine (HVar.out W).mono ?_
  rintro e w2 ⟨ho, hb2⟩
  obtain ⟨dd, xo, xn, xs, xka, xkn, xkc, xna, xnm, xnc, xla, xlm, xlc, rfl, hdd, hpd, hdv⟩ := ho.open'
  have gR2 := (hb2.block _ (hLQ kR)).trans kR
  have hltR := hLQ kR
  have hrow := gRQ w2 (w.heap.size + 1) #[.int .i64 xo, .int .i64 xn, .string xs, .slice xka xkn xkc, .slice xna xnm xnc, .slice xla xlm xlc]
  have HR3 := hJQ (setRow_heap w2 (w.heap.size + 1) _ #[.int .i64 xo, .int .i64 xn, .string xs, .slice xka xkn xkc, .slice xna xnm xnc, .slice xla xlm xlc] _ _ gR2)
  have HB := hJQ ((hbW.trans (hb2.mono hbW.size)).trans (gUQ (B := w.heap.size) hrow (by have := hbW.size; have := hb2.size; omega) (fun q hq => by have e2 : (w.heap.size + 1) = q := oJQ hq; omega)))
  have HD := hJQ ((hdd.grown hrow (fun q hq hp => by have e2 : (w.heap.size + 1) = q := oJQ hq; have hp : W.heap.size<=q := hp; omega)).mono (Q := (fun b => w.heap.size<=b)) (fun b hb _ => by have hb : W.heap.size<=b := hb; have := hbW.size; show w.heap.size<=b; omega))
  clear hrow hdd ho hb2
  go_wp2_with (refine wpList_store_row rfl 28 _ _ rfl (w.heap.size + 1) _ rfl rfl 28 _ gR2 cIQ rfl (all_one _ rfl) ?_)
  refine bodyPost_ret (results_cell_row rfl _ _ (w.heap.size + 1) 28 #[.int .i64 xo, .int .i64 xn, .string xs, .slice xka xkn xkc, .slice xna xnm xnc, .slice xla xlm xlc] (0, 0) _ rfl HR3.out Tryz.underlying28 rfl cIQ) rfl ?_
  exact ⟨⟨dd, by rw [hdv], HD.out, hpd⟩, HB.out⟩
 ·have HE : Hid (leafS b f (.mk op n s (pK k) ns (l.map pC)) d = .mk op n s (pK k) [] []) := if_neg q1
  rw [hPur.out, HE.out]
  clear hPur HVar hks
  have q2 : op ≠ 1 ∨ (op = 1/\¬ f<=n - d) := by
   by_cases h : op = 1
   ·exact .inr ⟨h, fun h2 => q1 ⟨h, h2⟩⟩
   ·exact .inl h
  clear q1
  rcases q2 with q2 | ⟨q1, q2⟩
  ·have q2' : (op == 1) = false := beq_eq_false_iff_ne.2 q2
   go_enter Tryz.func110, Tryz.ntmps110
   go_upto_region 1 with fail
   have HL := hJQ (HLeaf.out _ (grown_refl' _))
   clear HLeaf
   generalize (w.alloc (.cells #[.int .i64 op, .int .i64 n, .string s, .slice ka kn kc, .slice na ns.length nc, .slice a l.length c] 28)).alloc (.cells #[.int .i64 0, .int .i64 0, .string ⟨#[]⟩, .slice none 0 0, .slice none 0 0, .slice none 0 0] 28) = W at *
   obtain ⟨c0, c1, c2, c3, c4, c5⟩ := cnQ kB
   have cF := cell_int kF
   have cB := cell_int kb
   go_wp2_with fail
   refine (HL.out).mono ?_
   rintro e w2 ⟨ho, hb2⟩
   obtain ⟨dd, xo, xn, xs, xka, xkn, xkc, xna, xnm, xnc, xla, xlm, xlc, rfl, hdd, hpd, hdv⟩ := ho.open'
   have gR2 := (hb2.block _ (hLQ kR)).trans kR
   have hltR := hLQ kR
   have hrow := gRQ w2 (w.heap.size + 1) #[.int .i64 xo, .int .i64 xn, .string xs, .slice xka xkn xkc, .slice xna xnm xnc, .slice xla xlm xlc]
   have HR3 := hJQ (setRow_heap w2 (w.heap.size + 1) _ #[.int .i64 xo, .int .i64 xn, .string xs, .slice xka xkn xkc, .slice xna xnm xnc, .slice xla xlm xlc] _ _ gR2)
   have HB := hJQ ((hbW.trans (hb2.mono hbW.size)).trans (gUQ (B := w.heap.size) hrow (by have := hbW.size; have := hb2.size; omega) (fun q hq => by have e2 : (w.heap.size + 1) = q := oJQ hq; omega)))
   have HD := hJQ ((hdd.grown hrow (fun q hq hp => by have e2 : (w.heap.size + 1) = q := oJQ hq; have hp : W.heap.size<=q := hp; omega)).mono (Q := (fun b => w.heap.size<=b)) (fun b hb _ => by have hb : W.heap.size<=b := hb; have := hbW.size; show w.heap.size<=b; omega))
   clear hrow hdd ho hb2
   go_wp2_with (refine wpList_store_row rfl 28 _ _ rfl (w.heap.size + 1) _ rfl rfl 28 _ gR2 cIQ rfl (all_one _ rfl) ?_)
   refine bodyPost_ret (results_cell_row rfl _ _ (w.heap.size + 1) 28 #[.int .i64 xo, .int .i64 xn, .string xs, .slice xka xkn xkc, .slice xna xnm xnc, .slice xla xlm xlc] (0, 0) _ rfl HR3.out Tryz.underlying28 rfl cIQ) rfl ?_
   exact ⟨⟨dd, by rw [hdv], HD.out, hpd⟩, HB.out⟩
  ·have q1' : (op == 1) = true := beq_iff_eq.2 q1
   clear q1
   go_enter Tryz.func110, Tryz.ntmps110
   go_upto_region 1 with fail
   have HL := hJQ (HLeaf.out _ (grown_refl' _))
   clear HLeaf
   generalize (w.alloc (.cells #[.int .i64 op, .int .i64 n, .string s, .slice ka kn kc, .slice na ns.length nc, .slice a l.length c] 28)).alloc (.cells #[.int .i64 0, .int .i64 0, .string ⟨#[]⟩, .slice none 0 0, .slice none 0 0, .slice none 0 0] 28) = W at *
   obtain ⟨c0, c1, c2, c3, c4, c5⟩ := cnQ kB
   have cF := cell_int kF
   have cB := cell_int kb
   go_wp2_with fail
   refine (HL.out).mono ?_
   rintro e w2 ⟨ho, hb2⟩
   obtain ⟨dd, xo, xn, xs, xka, xkn, xkc, xna, xnm, xnc, xla, xlm, xlc, rfl, hdd, hpd, hdv⟩ := ho.open'
   have gR2 := (hb2.block _ (hLQ kR)).trans kR
   have hltR := hLQ kR
   have hrow := gRQ w2 (w.heap.size + 1) #[.int .i64 xo, .int .i64 xn, .string xs, .slice xka xkn xkc, .slice xna xnm xnc, .slice xla xlm xlc]
   have HR3 := hJQ (setRow_heap w2 (w.heap.size + 1) _ #[.int .i64 xo, .int .i64 xn, .string xs, .slice xka xkn xkc, .slice xna xnm xnc, .slice xla xlm xlc] _ _ gR2)
   have HB := hJQ ((hbW.trans (hb2.mono hbW.size)).trans (gUQ (B := w.heap.size) hrow (by have := hbW.size; have := hb2.size; omega) (fun q hq => by have e2 : (w.heap.size + 1) = q := oJQ hq; omega)))
   have HD := hJQ ((hdd.grown hrow (fun q hq hp => by have e2 : (w.heap.size + 1) = q := oJQ hq; have hp : W.heap.size<=q := hp; omega)).mono (Q := (fun b => w.heap.size<=b)) (fun b hb _ => by have hb : W.heap.size<=b := hb; have := hbW.size; show w.heap.size<=b; omega))
   clear hrow hdd ho hb2
   go_wp2_with (refine wpList_store_row rfl 28 _ _ rfl (w.heap.size + 1) _ rfl rfl 28 _ gR2 cIQ rfl (all_one _ rfl) ?_)
   refine bodyPost_ret (results_cell_row rfl _ _ (w.heap.size + 1) 28 #[.int .i64 xo, .int .i64 xn, .string xs, .slice xka xkn xkc, .slice xna xnm xnc, .slice xla xlm xlc] (0, 0) _ rfl HR3.out Tryz.underlying28 rfl cIQ) rfl ?_
   exact ⟨⟨dd, by rw [hdv], HD.out, hpd⟩, HB.out⟩
end Go.Proofs.YtkiffgdinmpljaaGreatDoor
