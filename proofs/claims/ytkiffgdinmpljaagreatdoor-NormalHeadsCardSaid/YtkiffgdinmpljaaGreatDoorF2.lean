/- kind.Valid; the reference's count and Valid of kinds. Valid of kinds: the program's and the reference's. tycon.Size and depth, normal.size; the reference's Size. tycon.Size. How walks name a constructor and its parts. IndexFunc and ContainsFunc over rows, at whatever closure. Printed by gen_nd2.py. -/
import Derived.Test.YtkiffgdinmpljaaGreatDoorF1
set_option linter.unusedVariables false
set_option linter.unusedSimpArgs false
namespace Go.Proofs.YtkiffgdinmpljaaGreatDoor
open Go Go.RowKit
set_option maxHeartbeats 8000000
set_option maxRecDepth 100000
def KCount (k : Kd) (left depth : Int) (w : World) (e : Ending) (w' : World) : Prop :=
 ∃ m : Int, e = .returned (.int .i64 m)/\Below w.heap.size w w'/\-1<=m/\m<=100000/\(0<=m->m = left - sizeK k/\formK k = true/\(depthK k : Int)<=depth)/\(m < 0->¬ (formK k = true/\(sizeK k : Int)<=left/\(depthK k : Int)<=depth))
theorem kcount_any (P : Nat->Prop) : ∀ (k : KindD) (w : World) (left depth : Int), IsKind P w k->-100000<=left->left<=100000->-1<=depth->depth<=402 →
 Calls Tryz.prog 131 #[kindV k, .int .i64 left, .int .i64 depth] w (KCount (pK k) left depth w) := by
 refine KindD.ind (fun v l ih w left depth h hl0 hl1 hd0 hd1 => ?_)
 obtain ⟨hr, hm, hall⟩ := h.parts
 have hb0 : Below w.heap.size w (w.alloc (.cells #[v] 24)) := (Below.refl _ _).alloc (nLQ _) _
 have gK := nHQ w (.cells #[v] 24)
 have c0 := cOQ gK
 have hp : pK (.mk v l) = .mk (l.map pK) := pureK_mk v l
 obtain ⟨a, c, rfl, hlc⟩ := rSQ hr
 have HR := hJQ (rowP_below hr hb0)
 have HA : Hid (∀ y ∈ l, IsKind P (w.alloc (.cells #[.slice a l.length c] 24)) y) := fun y hy => isKind_below (hall y hy) hb0
 have IH := hJQ ih
 have hm' : l.length<=9223372036854775807 := by
  have : maxLen = 9223372036854775807 := by decide
  omega
 clear hr hall ih h hm
 rw [hp, show kindV (.mk (.slice a l.length c) l) = .agg #[.slice a l.length c] from rfl]
 have hs1 := sizeK_pos (.mk (l.map pK))
 have hd2 := depthK_pos (.mk (l.map pK))
 by_cases h1 : left < 1
 ·go_enter Tryz.func131, Tryz.ntmps131
  go_wp2_with fail
  go_ret
  exact ⟨_, rfl, hb0, by decide, by omega, fun h => absurd h (by decide), fun _ h => by have := h.2.1; omega⟩
 by_cases h2 : depth < 1
 ·go_enter Tryz.func131, Tryz.ntmps131
  go_wp2_with fail
  go_ret
  exact ⟨_, rfl, hb0, by decide, by omega, fun h => absurd h (by decide), fun _ h => by have := h.2.2; omega⟩
 have e1 : ¬ left < 1 := h1
 have e2 : ¬ depth < 1 := h2
 by_cases h3 : l.length = 0 ∨ l.length = 2
 rotate_left
 ·have hF : formK (.mk (l.map pK)) = false := by
   have q0 : (l.length == 0) = false := nEQ (by omega)
   have q2 : (l.length == 2) = false := nEQ (by omega)
   rw [formK_mk, List.length_map, q0, q2]; rfl
  have n0 : ((l.length : Int) != 0) = true := nNQ (by omega)
  have n2 : ((l.length : Int) != 2) = true := nNQ (by omega)
  go_enter Tryz.func131, Tryz.ntmps131
  go_wp2_with fail
  go_ret
  exact ⟨_, rfl, hb0, by decide, by omega, fun h => absurd h (by decide), fun _ h => by have := h.1; rw [hF] at this; cases this⟩
 have hF : Hid (formK (.mk (l.map pK)) = formKL (l.map pK)) := by show _ = _; rw [formK_mk, List.length_map]; rcases h3 with h | h <;> simp [h]
 have H3 := hJQ h3
 have hl2 : l.length<=2 := by omega
 clear h3 h1 h2
 have hn : ((l.length : Int) != 0) = false ∨ (((l.length : Int) != 0) = true/\((l.length : Int) != 2) = false) := by
  rcases H3.out with h | h
  ·exact .inl (by rw [h]; rfl)
  ·exact .inr ⟨by rw [h]; rfl, by rw [h]; rfl⟩
 rcases hn with n0 | ⟨n0, n2⟩
 all_goals
  go_enter Tryz.func131, Tryz.ntmps131
  go_wp2_with fail
  generalize w.alloc (.cells #[.slice a l.length c] 24) = W0 at *
  go_loopw [1, 7] (fun n i wr => ∃ (j : Nat) (m : Int), j<=l.length/\i = .int .i64 j/\n = .int .i64 m/\-1<=m/\m<=100000/\Hid (0<=m->m = left - 1 - sizeKL ((l.map pK).take j)/\formKL ((l.map pK).take j) = true/\(depthKL ((l.map pK).take j) : Int)<=depth - 1)/\Hid (m < 0->¬ (formK (.mk (l.map pK)) = true/\(sizeK (.mk (l.map pK)) : Int)<=left/\(depthK (.mk (l.map pK)) : Int)<=depth))/\Below W0.heap.size W0 wr) (fun _ i _ => l.length - (intOf i).toNat)
  case atStart => exact ⟨0, left - 1, Nat.zero_le _, rfl, rfl, by omega, by omega, fun _ => ⟨by rw [List.take_zero, sizeKL_nil]; omega, by rw [List.take_zero, formKL_nil], by rw [List.take_zero, depthKL_nil]; omega⟩, fun h => by omega, Below.refl _ _⟩
  case round =>
   rename World => V
   obtain ⟨j, m, hj, rfl, rfl, hm0, hm1, HM, HNg, hbr⟩ := hrel
   have hbw := hb0.trans (hbr.mono hb0.size)
   have c1 := (hbr.cell (p := ⟨w.heap.size, 0, none⟩) (hLQ gK)).trans c0
   by_cases hmn : m < 0
   ·have hge : ¬ 0<=m := by omega
    by_cases hjl : j < l.length
    ·go_wp2_with fail
     go_ret
     exact ⟨_, rfl, hbw, hm0, hm1, (fun h => (by omega)), HNg.out⟩
    ·obtain rfl : j = l.length := by omega
     go_wp2_with fail
     go_ret
     exact ⟨_, rfl, hbw, hm0, hm1, (fun h => (by omega)), HNg.out⟩
   ·have hge : 0<=m := by omega
    by_cases hjl : j < l.length
    ·obtain ⟨b, off, c', fd, _, _, hbl, d0⟩ := kinds_at HR.out j hjl
     obtain rfl := (Value.slice.inj fd).1
     have d1 := (hbr.cell (p := ⟨b, off + j, none⟩) hbl).trans d0
     have hk := isKind_below (HA.out _ (mem_getD l j hjl)) hbr
     have HC := hJQ (IH.out _ (mem_getD l j hjl) _ m (depth - 1) hk (by omega) (by omega) (by omega) (by omega))
     have HT : Hid ((l.map pK).take (j + 1) = (l.map pK).take j ++ [pK (l.getD j default)]) := by
      show _ = _; rw [take_get default _ j (by rw [List.length_map]; exact hjl), map_getD pK l j hjl]
     have HG : Hid (sizeKL ((l.map pK).take j) + sizeK (pK (l.getD j default))<=sizeKL (l.map pK)/\pK (l.getD j default) ∈ l.map pK) := by
      have := sizeKL_ge (l.map pK) j (by rw [List.length_map]; exact hjl)
      rw [map_getD pK l j hjl] at this
      exact ⟨this, List.mem_map_of_mem (mem_getD l j hjl)⟩
     have kv : kindV (l.getD j default) = .agg #[(l.getD j default).v] := rfl
     rw [kv] at HC
     obtain ⟨ka, kc, kn, hks⟩ := iKQ hk
     rw [hks] at d1 HC
     clear d0 hk fd kv hks
     generalize l.getD j default = k at *
     go_wp2_with fail
     refine HC.out.mono ?_
     clear HC
     rintro e w2 ⟨mm, rfl, hb2, hmm0, hmm1, hyes, hno⟩
     have hbr2 := hbr.trans (hb2.mono hbr.size)
     have HM2 : Hid (0<=mm->mm = left - 1 - sizeKL ((l.map pK).take (j + 1))/\formKL ((l.map pK).take (j + 1)) = true/\(depthKL ((l.map pK).take (j + 1)) : Int)<=depth - 1) := fun h => by
      obtain ⟨q1, q2, q3⟩ := hyes h
      obtain ⟨m1, m2, m3⟩ := HM.out hge
      rw [HT.out, sizeKL_snoc, formKL_snoc, depthKL_snoc, m2, q2]
      exact ⟨by omega, rfl, by omega⟩
     have HN2 : Hid (mm < 0->¬ (formK (.mk (l.map pK)) = true/\(sizeK (.mk (l.map pK)) : Int)<=left/\(depthK (.mk (l.map pK)) : Int)<=depth)) := fun h hall => by
      obtain ⟨g1, g2⟩ := HG.out
      obtain ⟨r1, r2, r3⟩ := hall
      obtain ⟨m1, m2, m3⟩ := HM.out hge
      rw [hF.out] at r1
      rw [sizeK_mk] at r2
      rw [depthK_mk] at r3
      have := depthKL_ge _ _ g2
      exact hno h ⟨formKL_of _ r1 _ g2, by omega, by omega⟩
     clear hyes hno HM HNg
     go_wp2_with fail
     go_round
     case rel => exact ⟨j + 1, mm, by omega, by go_num, rfl, hmm0, hmm1, HM2, HN2, hbr2⟩
     case measure => simp [intOf]; omega
    ·obtain rfl : j = l.length := by omega
     have HE : Hid (m = left - sizeK (.mk (l.map pK))/\formK (.mk (l.map pK)) = true/\(depthK (.mk (l.map pK)) : Int)<=depth) := by
      obtain ⟨m1, m2, m3⟩ := HM.out hge
      rw [List.take_of_length_le (by rw [List.length_map]; exact Nat.le_refl _)] at m1 m2 m3
      rw [sizeK_mk, depthK_mk, hF.out]
      exact ⟨by omega, m2, by omega⟩
     clear HM HNg
     go_wp2_with fail
     go_ret
     exact ⟨_, rfl, hbw, hm0, hm1, fun _ => HE.out, fun h => (by omega)⟩
theorem validK_room (k : Kd) : validK k = true ↔ roomK k 20000 1 := by
 unfold validK roomK
 simp only [Bool.and_eq_true, decide_eq_true_eq]
 constructor
 ·rintro ⟨⟨h1, h2⟩, h3⟩; exact ⟨h1, by omega, by omega⟩
 ·rintro ⟨h1, h2, h3⟩; exact ⟨⟨h1, by omega⟩, by omega⟩
theorem kvalid_any (P : Nat->Prop) (k : KindD) (w : World) (h : IsKind P w k) :
 Calls Tryz.prog 89 #[kindV k] w fun e w' => e = .returned (.bool (validK (pK k)))/\Below w.heap.size w w' := by
 have hb0 : Below w.heap.size w (w.alloc (.cells #[k.v] 24)) := (Below.refl _ _).alloc (nLQ _) _
 have HS := hJQ (ksize_any P k (w.alloc (.cells #[k.v] 24)) 20000 1 (isKind_below h hb0) (by decide) (by decide) (by decide) (by decide))
 have kv : kindV k = .agg #[k.v] := rfl
 obtain ⟨ka, kc, kn, hks⟩ := iKQ h
 rw [hks] at hb0
 rw [kv, hks] at HS ⊢
 clear kv hks h
 go_enter Tryz.func89, Tryz.ntmps89
 go_wp2_with fail
 refine HS.out.mono ?_
 rintro e w2 ⟨m, ok, rfl, hb, hyes, hno⟩
 have HE : Hid (ok = validK (pK k)) := by
  show _ = _
  cases ok
  ·have := hno rfl
   rw [← validK_room] at this
   cases hv : validK (pK k)
   ·rfl
   ·exact absurd hv this
  ·exact ((validK_room _).2 (hyes rfl).2).symm
 clear hyes hno HS
 go_wp2_with fail
 go_ret
 exact ⟨by rw [← HE.out]; rfl, hb0.trans (hb.mono hb0.size)⟩
theorem rkvalid_any (P : Nat->Prop) (k : KindD) (w : World) (h : IsKind P w k) :
 Calls Tryz.prog 106 #[kindV k] w fun e w' => e = .returned (.bool (validK (pK k)))/\Below w.heap.size w w' := by
 have hb0 : Below w.heap.size w (w.alloc (.cells #[k.v] 24)) := (Below.refl _ _).alloc (nLQ _) _
 have HS := hJQ (kcount_any P k (w.alloc (.cells #[k.v] 24)) 20000 400 (isKind_below h hb0) (by decide) (by decide) (by decide) (by decide))
 have kv : kindV k = .agg #[k.v] := rfl
 obtain ⟨ka, kc, kn, hks⟩ := iKQ h
 rw [hks] at hb0
 rw [kv, hks] at HS ⊢
 clear kv hks h
 go_enter Tryz.func106, Tryz.ntmps106
 go_wp2_with fail
 refine HS.out.mono ?_
 rintro e w2 ⟨m, rfl, hb, h0, h1, hyes, hno⟩
 have HE : Hid (decide (0<=m) = validK (pK k)) := by
  show _ = _
  unfold validK
  by_cases hm : 0<=m
  ·obtain ⟨q1, q2, q3⟩ := hyes hm
   rw [q2, decide_eq_true hm, decide_eq_true (show sizeK (pK k)<=20000 by omega), decide_eq_true (show depthK (pK k)<=400 by omega)]; rfl
  ·have := hno (by omega)
   rw [decide_eq_false hm]
   symm
   rw [Bool.eq_false_iff]
   intro hv
   simp only [Bool.and_eq_true, decide_eq_true_eq] at hv
   exact this ⟨hv.1.1, by omega, by omega⟩
 clear hyes hno HS
 go_wp2_with fail
 go_ret
 exact ⟨by rw [← HE.out]; rfl, hb0.trans (hb.mono hb0.size)⟩
theorem sizeCL_nil : sizeCL [] = 0 := by rw [sizeCL]
theorem depthCL_nil : depthCL [] = 0 := by rw [depthCL]
theorem sizeCL_cons (x : Cn) (r : List Cn) : sizeCL (x :: r) = sizeC x + sizeCL r := by rw [sizeCL]
theorem depthCL_cons (x : Cn) (r : List Cn) : depthCL (x :: r) = max (dCQ x) (depthCL r) := by rw [depthCL]
theorem sizeCL_snoc (l : List Cn) (x : Cn) : sizeCL (l ++ [x]) = sizeCL l + sizeC x := by
 induction l with
 | nil => rw [List.nil_append, sizeCL_cons, sizeCL_nil]; omega
 | cons y l ih => rw [List.cons_append, sizeCL_cons, sizeCL_cons, ih]; omega
theorem depthCL_snoc (l : List Cn) (x : Cn) : depthCL (l ++ [x]) = max (depthCL l) (dCQ x) := by
 induction l with
 | nil => rw [List.nil_append, depthCL_cons, depthCL_nil]; omega
 | cons y l ih => rw [List.cons_append, depthCL_cons, depthCL_cons, ih]; omega
theorem sizeC_pos (c : Cn) : 1<=sizeC c := by cases c; rw [sMQ]; omega
theorem depthC_pos (c : Cn) : 1<=dCQ c := by cases c; rw [depthC_mk]; omega
theorem depth_size (c : Cn) : dCQ c<=sizeC c := by
 refine Cn.ind (P := fun c => dCQ c<=sizeC c) (fun op n s k ns l ih => ?_) c
 rw [depthC_mk, sMQ]
 have : depthCL l<=sizeCL l := by
  induction l with
  | nil => rw [depthCL_nil]; omega
  | cons x r ihr =>
    rw [depthCL_cons, sizeCL_cons]
    have h1 := ih x (by simp)
    have h2 := ihr (fun y hy => ih y (by simp [hy]))
    omega
 omega
theorem sizeCL_take (l : List Cn) (j : Nat) : sizeCL (l.take j)<=sizeCL l := by
 induction l generalizing j with
 | nil => simp
 | cons x l ih =>
   cases j with
   | zero => rw [List.take_zero, sizeCL_nil]; omega
   | succ j => rw [List.take_succ_cons, sizeCL_cons, sizeCL_cons]; have := ih j; omega
theorem cnQ {w : World} {q : Nat} {a b c d e f : Value} {t : TypeId} (h : w.heap[q]? = some (.cells #[a, b, c, d, e, f] t (0, 0))) : w.cell? ⟨q, 0, none⟩ = some a/\w.cell? ⟨q, 1, none⟩ = some b/\w.cell? ⟨q, 2, none⟩ = some c/\w.cell? ⟨q, 3, none⟩ = some d/\w.cell? ⟨q, 4, none⟩ = some e/\w.cell? ⟨q, 5, none⟩ = some f := by
 refine ⟨?_, ?_, ?_, ?_, ?_, ?_⟩ <;> simp only [World.cell?, h] <;> rfl
theorem csize_any (P : Nat->Prop) : ∀ (c : ConD) (w : World), IsCon P w c->sizeC (pC c)<=1000000000 →
 Calls Tryz.prog 51 #[conV c] w fun e w' => e = .returned (.int .i64 (sizeC (pC c)))/\Below w.heap.size w w' := by
 refine ConD.ind (fun op n s k nv ns lv l ih w h hsz => ?_)
 have hp := h.parts
 obtain ⟨ka, kc, kn, hks⟩ := iKQ hp.kind
 obtain ⟨na, nc, rfl, _⟩ := rSQ hp.names
 obtain ⟨a, c, rfl, hlc⟩ := rSQ hp.row
 have hv : conV (.mk op n s k (.slice na ns.length nc) ns (.slice a l.length c) l) = .agg #[.int .i64 op, .int .i64 n, .string s, .slice ka kn kc, .slice na ns.length nc, .slice a l.length c] := by
  show Value.agg #[_, _, _, k.v, _, _] = _; rw [hks]; rfl
 rw [hv, pMQ]
 rw [pMQ, sMQ] at hsz
 have hb0 : Below w.heap.size w (w.alloc (.cells #[.int .i64 op, .int .i64 n, .string s, .slice ka kn kc, .slice na ns.length nc, .slice a l.length c] 28)) := (Below.refl _ _).alloc (nLQ _) _
 have gC := nHQ w (.cells #[.int .i64 op, .int .i64 n, .string s, .slice ka kn kc, .slice na ns.length nc, .slice a l.length c] 28)
 obtain ⟨c0, c1, c2, c3, c4, c5⟩ := cnQ gC
 have HP := hJQ hp
 have IH := hJQ ih
 clear hv hks ih hp h
 go_enter Tryz.func51, Tryz.ntmps51
 go_wp2_with fail
 have HR := hJQ (rowP_below HP.out.row hb0)
 have HA : Hid (∀ y ∈ l, IsCon P (w.alloc (.cells #[.int .i64 op, .int .i64 n, .string s, .slice ka kn kc, .slice na ns.length nc, .slice a l.length c] 28)) y) := fun y hy => iBQ (HP.out.all y hy) hb0
 have hll : l.length<=9223372036854775807 := by
  have h1 := HP.out.llen
  have : maxLen = 9223372036854775807 := by decide
  omega
 generalize w.alloc (.cells #[.int .i64 op, .int .i64 n, .string s, .slice ka kn kc, .slice na ns.length nc, .slice a l.length c] 28) = W0 at *
 go_loopw [3, 9] (fun m i wr => ∃ (j : Nat), j<=l.length/\i = .int .i64 j/\m = .int .i64 ((sizeCL ((l.map pC).take j) + 1 : Nat) : Int)/\Below W0.heap.size W0 wr) (fun _ i _ => l.length - (intOf i).toNat)
 case atStart => exact ⟨0, Nat.zero_le _, rfl, (by rw [List.take_zero, sizeCL_nil]; rfl), Below.refl _ _⟩
 case round =>
  rename World => V
  obtain ⟨j, hj, rfl, rfl, hbr⟩ := hrel
  have hbt := sizeCL_take (l.map pC) j
  by_cases hjl : j < l.length
  ·obtain ⟨b, off, c', fd, _, _, hbl, d0, d1, d2, d3, d4, d5⟩ := cons_at HR.out j hjl
   obtain rfl := (Value.slice.inj fd).1
   have hk := iBQ (HA.out _ (mem_getD l j hjl)) hbr
   have HT : Hid ((l.map pC).take (j + 1) = (l.map pC).take j ++ [pC (l.getD j default)]) := by
    show _ = _; rw [take_get default _ j (by rw [List.length_map]; exact hjl), map_getD pC l j hjl]
   have hbt2 := sizeCL_take (l.map pC) (j + 1)
   rw [HT.out, sizeCL_snoc] at hbt2
   have hm := mem_getD l j hjl
   generalize l.getD j default = y at *
   obtain ⟨yop, yn, ys, yk, ynv, yns, ylv, yl⟩ := y
   obtain ⟨ya, yc, yn', hks⟩ := iKQ hk.parts.kind
   obtain ⟨yna, ync, rfl, _⟩ := rSQ hk.parts.names
   obtain ⟨yla, ylc, rfl, _⟩ := rSQ hk.parts.row
   simp only [ConD.op, ConD.n, ConD.s, ConD.k, ConD.nv, ConD.lv] at d0 d1 d2 d3 d4 d5
   rw [hks] at d3
   have e0 := (hbr.cell (p := ⟨b, off + j * 6, none⟩) hbl).trans d0
   have e1 := (hbr.cell (p := ⟨b, off + j * 6 + 1, none⟩) hbl).trans d1
   have e2 := (hbr.cell (p := ⟨b, off + j * 6 + 2, none⟩) hbl).trans d2
   have e3 := (hbr.cell (p := ⟨b, off + j * 6 + 3, none⟩) hbl).trans d3
   have e4 := (hbr.cell (p := ⟨b, off + j * 6 + 4, none⟩) hbl).trans d4
   have e5 := (hbr.cell (p := ⟨b, off + j * 6 + 5, none⟩) hbl).trans d5
   have hv : conV (.mk yop yn ys yk (.slice yna yns.length ync) yns (.slice yla yl.length ylc) yl) = .agg #[.int .i64 yop, .int .i64 yn, .string ys, .slice ya yn' yc, .slice yna yns.length ync, .slice yla yl.length ylc] := by
    show Value.agg #[_, _, _, yk.v, _, _] = _; rw [hks]; rfl
   have hba : Below V.heap.size V (V.alloc (.cells #[.int .i64 yop, .int .i64 yn, .string ys, .slice ya yn' yc, .slice yna yns.length ync, .slice yla yl.length ylc] 28)) := (Below.refl _ _).alloc (nLQ _) _
   have gY := nHQ V (.cells #[.int .i64 yop, .int .i64 yn, .string ys, .slice ya yn' yc, .slice yna yns.length ync, .slice yla yl.length ylc] 28)
   obtain ⟨f0, f1, f2, f3, f4, f5⟩ := cnQ gY
   have HC := hJQ (IH.out _ hm _ (iBQ hk hba) (by omega))
   rw [hv] at HC
   have hbb := hbr.trans (hba.mono hbr.size)
   clear d0 d1 d2 d3 d4 d5 hk hks hv fd hm
   go_wp2_with fail
   refine HC.out.mono ?_
   rintro e w2 ⟨rfl, hb2⟩
   have hbr2 := hbb.trans (hb2.mono hbb.size)
   clear HC
   go_wp2_with fail
   go_roundw
   case rel => exact ⟨j + 1, by omega, by go_num, by rw [HT.out, sizeCL_snoc]; congr 1; omega, hbr2⟩
   case measure => simp [intOf]; omega
  ·obtain rfl : j = l.length := by omega
   have ht : (l.map pC).take l.length = l.map pC := List.take_of_length_le (by rw [List.length_map]; exact Nat.le_refl _)
   have hbw := hb0.trans (hbr.mono hb0.size)
   go_wp2_with fail
   go_ret
   exact ⟨by rw [ht, sMQ]; rfl, hbw⟩
theorem cSQ {P : Nat->Prop} {w : World} {c : ConD} (h : IsCon P w c) : ∃ op n s k ns l ka kn kc na nc la lc, c = .mk op n s k (.slice na ns.length nc) ns (.slice la l.length lc) l/\k.v = .slice ka kn kc/\l.length<=9223372036854775807/\ns.length<=9223372036854775807 := by
 obtain ⟨op, n, s, k, nv, ns, lv, l⟩ := c
 have hp := h.parts
 obtain ⟨ka, kc, kn, hks⟩ := iKQ hp.kind
 obtain ⟨na, nc, rfl, _⟩ := rSQ hp.names
 obtain ⟨a, c, rfl, _⟩ := rSQ hp.row
 have : maxLen = 9223372036854775807 := by decide
 exact ⟨op, n, s, k, ns, l, ka, kn, kc, na, nc, a, c, rfl, hks, by have := hp.llen; omega, by have := hp.nlen; omega⟩
theorem cVQ {op n : Int} {s : ByteArray} {k : KindD} {nv lv : Value} {ns : List ByteArray} {l : List ConD} {v : Value} (h : k.v = v) : conV (.mk op n s k nv ns lv l) = .agg #[.int .i64 op, .int .i64 n, .string s, v, nv, lv] := by
 show Value.agg #[_, _, _, k.v, _, _] = _; rw [h]; rfl
theorem part_at {P : Nat->Prop} {V : World} {a : Option Addr} {lc : Nat} {l : List ConD} (hr : RowP P V (.slice a l.length lc) l.length (cCQ l)) (ha : ∀ y ∈ l, IsCon P V y) (j : Nat) (hj : j < l.length) :
 ∃ b off op n s k ns l' ka kn kc na nc la lc', a = some ⟨b, off, none⟩/\b < V.heap.size/\l.getD j default = .mk op n s k (.slice na ns.length nc) ns (.slice la l'.length lc') l'/\IsCon P V (.mk op n s k (.slice na ns.length nc) ns (.slice la l'.length lc') l')/\ConD.mk op n s k (.slice na ns.length nc) ns (.slice la l'.length lc') l' ∈ l /\
  conV (.mk op n s k (.slice na ns.length nc) ns (.slice la l'.length lc') l') = .agg #[.int .i64 op, .int .i64 n, .string s, .slice ka kn kc, .slice na ns.length nc, .slice la l'.length lc'] /\
  (l.map pC).take (j + 1) = (l.map pC).take j ++ [pC (.mk op n s k (.slice na ns.length nc) ns (.slice la l'.length lc') l')] /\
  V.cell? ⟨b, off + j * 6, none⟩ = some (.int .i64 op)/\V.cell? ⟨b, off + j * 6 + 1, none⟩ = some (.int .i64 n)/\V.cell? ⟨b, off + j * 6 + 2, none⟩ = some (.string s)/\V.cell? ⟨b, off + j * 6 + 3, none⟩ = some (.slice ka kn kc)/\V.cell? ⟨b, off + j * 6 + 4, none⟩ = some (.slice na ns.length nc)/\V.cell? ⟨b, off + j * 6 + 5, none⟩ = some (.slice la l'.length lc') := by
 obtain ⟨b, off, c', fd, _, _, hbl, d0, d1, d2, d3, d4, d5⟩ := cons_at hr j hj
 obtain rfl := (Value.slice.inj fd).1
 have hT : (l.map pC).take (j + 1) = (l.map pC).take j ++ [pC (l.getD j default)] := by
  rw [take_get default _ j (by rw [List.length_map]; exact hj), map_getD pC l j hj]
 have hm := mem_getD l j hj
 have hy := ha _ hm
 obtain ⟨op, n, s, k, ns, l', ka, kn, kc, na, nc, la, lc', e, hks, _⟩ := cSQ hy
 rw [e] at d0 d1 d2 d3 d4 d5 hT hm hy
 simp only [ConD.op, ConD.n, ConD.s, ConD.k, ConD.nv, ConD.lv, hks] at d0 d1 d2 d3 d4 d5
 exact ⟨b, off, op, n, s, k, ns, l', ka, kn, kc, na, nc, la, lc', rfl, hbl, e, hy, hm, cVQ hks, hT, d0, d1, d2, d3, d4, d5⟩
def Kept (P : Nat->Prop) (w w' : World) : Prop := w.heap.size<=w'.heap.size/\∀ b, P b->b < w.heap.size->w'.heap[b]? = w.heap[b]?
theorem Kept.of_below {P : Nat->Prop} {w w' : World} (h : Below w.heap.size w w') : Kept P w w' := ⟨h.size, fun b _ hlt => h.block b hlt⟩
theorem Kept.trans {P : Nat->Prop} {a b c : World} (h : Kept P a b) (k : Kept P b c) : Kept P a c := ⟨Nat.le_trans h.1 k.1, fun q hp hq => (k.2 q hp (Nat.lt_of_lt_of_le hq h.1)).trans (h.2 q hp hq)⟩
theorem Kept.con {P : Nat->Prop} {w w' : World} (h : Kept P w w') {c : ConD} (hc : IsCon P w c) : IsCon P w' c := hc.keep h.1 h.2
theorem Kept.kind {P : Nat->Prop} {w w' : World} (h : Kept P w w') {c : KindD} (hc : IsKind P w c) : IsKind P w' c := hc.keep h.1 h.2
theorem Kept.row {P : Nat->Prop} {w w' : World} (h : Kept P w w') {v : Value} {n : Nat} {xs : List Value} (hc : RowP P w v n xs) : RowP P w' v n xs := hc.keep h.1 h.2
theorem open_box {P : Nat->Prop} {w : World} {op n : Int} {s : ByteArray} {k : KindD} {nv lv : Value} {ns : List ByteArray} {l : List ConD} (h : IsCon P w (.mk op n s k nv ns lv l)) :
 ∃ ka kc kn na nc a c, nv = .slice na ns.length nc/\ns.length<=nc/\lv = .slice a l.length c/\l.length<=c/\k.v = .slice ka kn kc/\conV (.mk op n s k (.slice na ns.length nc) ns (.slice a l.length c) l) = .agg #[.int .i64 op, .int .i64 n, .string s, .slice ka kn kc, .slice na ns.length nc, .slice a l.length c]/\l.length<=9223372036854775807/\ns.length<=9223372036854775807/\Below w.heap.size w (w.alloc (.cells #[.int .i64 op, .int .i64 n, .string s, .slice ka kn kc, .slice na ns.length nc, .slice a l.length c] 28))/\(w.alloc (.cells #[.int .i64 op, .int .i64 n, .string s, .slice ka kn kc, .slice na ns.length nc, .slice a l.length c] 28)).heap[w.heap.size]? = some (.cells #[.int .i64 op, .int .i64 n, .string s, .slice ka kn kc, .slice na ns.length nc, .slice a l.length c] 28 (0, 0))/\(w.alloc (.cells #[.int .i64 op, .int .i64 n, .string s, .slice ka kn kc, .slice na ns.length nc, .slice a l.length c] 28)).heap.size = w.heap.size + 1/\Hid (ConAt P (w.alloc (.cells #[.int .i64 op, .int .i64 n, .string s, .slice ka kn kc, .slice na ns.length nc, .slice a l.length c] 28)) k (.slice na ns.length nc) ns (.slice a l.length c) l)/\Hid (IsCon P (w.alloc (.cells #[.int .i64 op, .int .i64 n, .string s, .slice ka kn kc, .slice na ns.length nc, .slice a l.length c] 28)) (.mk op n s k (.slice na ns.length nc) ns (.slice a l.length c) l))/\(w.alloc (.cells #[.int .i64 op, .int .i64 n, .string s, .slice ka kn kc, .slice na ns.length nc, .slice a l.length c] 28)).cell? ⟨w.heap.size, 0, none⟩ = some (.int .i64 op)/\(w.alloc (.cells #[.int .i64 op, .int .i64 n, .string s, .slice ka kn kc, .slice na ns.length nc, .slice a l.length c] 28)).cell? ⟨w.heap.size, 1, none⟩ = some (.int .i64 n)/\(w.alloc (.cells #[.int .i64 op, .int .i64 n, .string s, .slice ka kn kc, .slice na ns.length nc, .slice a l.length c] 28)).cell? ⟨w.heap.size, 2, none⟩ = some (.string s)/\(w.alloc (.cells #[.int .i64 op, .int .i64 n, .string s, .slice ka kn kc, .slice na ns.length nc, .slice a l.length c] 28)).cell? ⟨w.heap.size, 3, none⟩ = some (.slice ka kn kc)/\(w.alloc (.cells #[.int .i64 op, .int .i64 n, .string s, .slice ka kn kc, .slice na ns.length nc, .slice a l.length c] 28)).cell? ⟨w.heap.size, 4, none⟩ = some (.slice na ns.length nc)/\(w.alloc (.cells #[.int .i64 op, .int .i64 n, .string s, .slice ka kn kc, .slice na ns.length nc, .slice a l.length c] 28)).cell? ⟨w.heap.size, 5, none⟩ = some (.slice a l.length c) := by
 obtain ⟨ka, kc, kn, hks⟩ := iKQ h.parts.kind
 obtain ⟨na, nc, rfl, h1⟩ := rSQ h.parts.names
 obtain ⟨a, c, rfl, h2⟩ := rSQ h.parts.row
 have hm : maxLen = 9223372036854775807 := by decide
 have hll := h.parts.llen
 have hnn := h.parts.nlen
 rw [hm] at hll hnn
 have hb0 : Below w.heap.size w (w.alloc (.cells #[.int .i64 op, .int .i64 n, .string s, .slice ka kn kc, .slice na ns.length nc, .slice a l.length c] 28)) := (Below.refl _ _).alloc (nLQ _) _
 have gC := nHQ w (.cells #[.int .i64 op, .int .i64 n, .string s, .slice ka kn kc, .slice na ns.length nc, .slice a l.length c] 28)
 exact ⟨ka, kc, kn, na, nc, a, c, rfl, h1, rfl, h2, hks, cVQ hks, hll, hnn, hb0, gC, by simp, hJQ (iBQ h hb0).parts, hJQ (iBQ h hb0), cnQ gC⟩
theorem Kept.refl (P : Nat->Prop) (w : World) : Kept P w w := ⟨Nat.le_refl _, fun _ _ _ => rfl⟩
theorem kind_at {P : Nat->Prop} {V : World} {a : Option Addr} {lc : Nat} {l : List KindD} (hr : RowP P V (.slice a l.length lc) l.length (kindCells l)) (ha : ∀ y ∈ l, IsKind P V y) (j : Nat) (hj : j < l.length) :
 ∃ b off m l' ka kc, a = some ⟨b, off, none⟩/\b < V.heap.size/\l.getD j default = .mk (.slice ka m kc) l'/\IsKind P V (.mk (.slice ka m kc) l')/\KindD.mk (.slice ka m kc) l' ∈ l/\(l.map pK).take (j + 1) = (l.map pK).take j ++ [pK (.mk (.slice ka m kc) l')]/\V.cell? ⟨b, off + j, none⟩ = some (.slice ka m kc) := by
 obtain ⟨b, off, c', fd, _, _, hbl, d0⟩ := kinds_at hr j hj
 obtain rfl := (Value.slice.inj fd).1
 have hT : (l.map pK).take (j + 1) = (l.map pK).take j ++ [pK (l.getD j default)] := by
  rw [take_get default _ j (by rw [List.length_map]; exact hj), map_getD pK l j hj]
 have hm := mem_getD l j hj
 have hy := ha _ hm
 obtain ⟨ka, kc, m, hks⟩ := iKQ hy
 generalize l.getD j default = y at *
 obtain ⟨v, l'⟩ := y
 have hks : v = .slice ka m kc := hks
 subst hks
 exact ⟨b, off, m, l', ka, kc, rfl, hbl, rfl, hy, hm, hT, d0⟩
theorem str_at {P : Nat->Prop} {V : World} {a : Option Addr} {lc : Nat} {l : List ByteArray} (hr : RowP P V (.slice a l.length lc) l.length (strCells l)) (j : Nat) (hj : j < l.length) :
 ∃ b off, a = some ⟨b, off, none⟩/\b < V.heap.size/\l.getD j default ∈ l/\V.cell? ⟨b, off + j, none⟩ = some (.string (l.getD j default)) := by
 obtain ⟨a', c', fd, _, hc⟩ := hr
 obtain ⟨b, off, ha, _, hlt, hx⟩ := hc (by omega)
 obtain rfl := (Value.slice.inj fd).1
 refine ⟨b, off, ha, hlt, mem_getD l j hj, ?_⟩
 rw [hx j (by simpa [strCells] using hj)]
 simp [strCells, List.getD, hj]
theorem indexC_any (g : Nat) (lb : Array Value) (eg : ∀ args w, (callFunc g args).run Tryz.prog w = .ok (.enter g args) w) (P : Nat->Prop) (lv : Value) (l : List ConD) (I R : Nat->World->Prop) (w : World)
 (h0 : I 0 w) (hK : ∀ j V, I j V->Kept P w V) (hs : ∀ j V, j < l.length->I j V->Calls Tryz.prog g (#[conV (l.getD j default)] ++ lb) V fun e V' => ∃ b : Bool, e = .returned (.bool b)/\(b = true->R j V')/\(b = false->I (j + 1) V'))
 (hr : RowP P w lv l.length (cCQ l)) (hm : l.length<=9223372036854775807) (ha : ∀ y ∈ l, IsCon P w y) :
 Calls Tryz.prog 46 #[lv, .func (.func g) #[] lb] w fun e w' => ∃ r : Int, e = .returned (.int .i64 r)/\(0<=r->∃ j, j < l.length/\R j w')/\(r < 0->I l.length w') := by
 obtain ⟨a, c, rfl, hlc⟩ := rSQ hr
 have HR := hJQ hr
 have HKK := hJQ hK
 have HS := hJQ hs
 have H0 := hJQ h0
 have HA := hJQ ha
 clear hr hK hs h0 ha
 go_enter Tryz.func46, Tryz.ntmps46
 go_wp2_with fail
 go_loopw [8] (fun i wr => ∃ j : Nat, j<=l.length/\i = .int .i64 j/\Hid (I j wr)) (fun i _ => l.length - (intOf i).toNat)
 case atStart => exact ⟨0, Nat.zero_le _, rfl, H0⟩
 case round =>
  rename World => V
  obtain ⟨j, hj, rfl, HI⟩ := hrel
  by_cases hjl : j < l.length
  ·have HK := hJQ (HKK.out j V HI.out)
   obtain ⟨b, off, op, n, s, k, ns, l', ka, kn, kc, na, nc, la, lc', fd, hbl, hq, hy, hm', hv, _, e0, e1, e2, e3, e4, e5⟩ := part_at (HK.out.row HR.out) (fun y hy => HK.out.con (HA.out y hy)) j hjl
   subst fd
   have HC := hJQ (HS.out j V hjl HI.out)
   rw [hq, hv] at HC
   clear hq hy hm' hv
   go_wp2_with (go_at_fn g; refine HC.out.mono ?_; rintro e w2 ⟨b, rfl, hyes, hno⟩)
   ·rename_i hbb
    subst hbb
    go_ret
    exact ⟨j, rfl, fun _ => ⟨j, hjl, hyes rfl⟩, fun h => by omega⟩
   ·rename_i hbb
    subst hbb
    have HN := hJQ (hno rfl)
    go_roundw
    case rel => exact ⟨j + 1, by omega, by go_num, HN⟩
    case measure => simp [intOf]; omega
  ·obtain rfl : j = l.length := by omega
   go_wp2_with fail
   go_ret
   exact ⟨-1, rfl, fun h => by omega, fun _ => HI.out⟩
theorem containsC_any (g : Nat) (lb : Array Value) (eg : ∀ args w, (callFunc g args).run Tryz.prog w = .ok (.enter g args) w) (P : Nat->Prop) (lv : Value) (l : List ConD) (I R : Nat->World->Prop) (w : World)
 (h0 : I 0 w) (hK : ∀ j V, I j V->Kept P w V) (hs : ∀ j V, j < l.length->I j V->Calls Tryz.prog g (#[conV (l.getD j default)] ++ lb) V fun e V' => ∃ b : Bool, e = .returned (.bool b)/\(b = true->R j V')/\(b = false->I (j + 1) V'))
 (hr : RowP P w lv l.length (cCQ l)) (hm : l.length<=9223372036854775807) (ha : ∀ y ∈ l, IsCon P w y) :
 Calls Tryz.prog 22 #[lv, .func (.func g) #[] lb] w fun e w' => ∃ b : Bool, e = .returned (.bool b)/\(b = true->∃ j, j < l.length/\R j w')/\(b = false->I l.length w') := by
 have H := hJQ (indexC_any g lb eg P lv l I R w h0 hK hs hr hm ha)
 obtain ⟨a, c, rfl, hlc⟩ := rSQ hr
 clear hr hK hs h0 ha
 go_enter Tryz.func22, Tryz.ntmps22
 go_wp2_with fail
 refine H.out.mono ?_
 rintro e w2 ⟨r, rfl, hyes, hno⟩
 have HR : Hid (∃ b : Bool, Ending.returned (.bool (decide (0<=r))) = .returned (.bool b)/\(b = true->∃ j, j < l.length/\R j w2)/\(b = false->I l.length w2)) := ⟨_, rfl, fun h => hyes (of_decide_eq_true h), fun h => hno (by have := of_decide_eq_false h; omega)⟩
 clear hyes hno H
 go_wp2_with fail
 go_ret
 exact HR.out
theorem indexK_any (g : Nat) (lb : Array Value) (eg : ∀ args w, (callFunc g args).run Tryz.prog w = .ok (.enter g args) w) (P : Nat->Prop) (lv : Value) (l : List KindD) (I R : Nat->World->Prop) (w : World)
 (h0 : I 0 w) (hK : ∀ j V, I j V->Kept P w V) (hs : ∀ j V, j < l.length->I j V->Calls Tryz.prog g (#[kindV (l.getD j default)] ++ lb) V fun e V' => ∃ b : Bool, e = .returned (.bool b)/\(b = true->R j V')/\(b = false->I (j + 1) V'))
 (hr : RowP P w lv l.length (kindCells l)) (hm : l.length<=9223372036854775807) (ha : ∀ y ∈ l, IsKind P w y) :
 Calls Tryz.prog 115 #[lv, .func (.func g) #[] lb] w fun e w' => ∃ r : Int, e = .returned (.int .i64 r)/\(0<=r->∃ j, j < l.length/\R j w')/\(r < 0->I l.length w') := by
 obtain ⟨a, c, rfl, hlc⟩ := rSQ hr
 have HR := hJQ hr
 have HKK := hJQ hK
 have HS := hJQ hs
 have H0 := hJQ h0
 have HA := hJQ ha
 clear hr hK hs h0 ha
 go_enter Tryz.func115, Tryz.ntmps115
 go_wp2_with fail
 go_loopw [8] (fun i wr => ∃ j : Nat, j<=l.length/\i = .int .i64 j/\Hid (I j wr)) (fun i _ => l.length - (intOf i).toNat)
 case atStart => exact ⟨0, Nat.zero_le _, rfl, H0⟩
 case round =>
  rename World => V
  obtain ⟨j, hj, rfl, HI⟩ := hrel
  by_cases hjl : j < l.length
  ·have HK := hJQ (HKK.out j V HI.out)
   obtain ⟨b, off, m, l', ka, kc, fd, hbl, hq, hy, hm', _, e0⟩ := kind_at (HK.out.row HR.out) (fun y hy => HK.out.kind (HA.out y hy)) j hjl
   subst fd
   have HC := hJQ (HS.out j V hjl HI.out)
   rw [hq, show kindV (.mk (.slice ka m kc) l') = .agg #[.slice ka m kc] from rfl] at HC
   clear hq hy hm'
   go_wp2_with (go_at_fn g; refine HC.out.mono ?_; rintro e w2 ⟨b, rfl, hyes, hno⟩)
   ·rename_i hbb
    subst hbb
    go_ret
    exact ⟨j, rfl, fun _ => ⟨j, hjl, hyes rfl⟩, fun h => by omega⟩
   ·rename_i hbb
    subst hbb
    have HN := hJQ (hno rfl)
    go_roundw
    case rel => exact ⟨j + 1, by omega, by go_num, HN⟩
    case measure => simp [intOf]; omega
  ·obtain rfl : j = l.length := by omega
   go_wp2_with fail
   go_ret
   exact ⟨-1, rfl, fun h => by omega, fun _ => HI.out⟩
theorem containsK_any (g : Nat) (lb : Array Value) (eg : ∀ args w, (callFunc g args).run Tryz.prog w = .ok (.enter g args) w) (P : Nat->Prop) (lv : Value) (l : List KindD) (I R : Nat->World->Prop) (w : World)
 (h0 : I 0 w) (hK : ∀ j V, I j V->Kept P w V) (hs : ∀ j V, j < l.length->I j V->Calls Tryz.prog g (#[kindV (l.getD j default)] ++ lb) V fun e V' => ∃ b : Bool, e = .returned (.bool b)/\(b = true->R j V')/\(b = false->I (j + 1) V'))
 (hr : RowP P w lv l.length (kindCells l)) (hm : l.length<=9223372036854775807) (ha : ∀ y ∈ l, IsKind P w y) :
 Calls Tryz.prog 84 #[lv, .func (.func g) #[] lb] w fun e w' => ∃ b : Bool, e = .returned (.bool b)/\(b = true->∃ j, j < l.length/\R j w')/\(b = false->I l.length w') := by
 have H := hJQ (indexK_any g lb eg P lv l I R w h0 hK hs hr hm ha)
 obtain ⟨a, c, rfl, hlc⟩ := rSQ hr
 clear hr hK hs h0 ha
 go_enter Tryz.func84, Tryz.ntmps84
 go_wp2_with fail
 refine H.out.mono ?_
 rintro e w2 ⟨r, rfl, hyes, hno⟩
 have HR : Hid (∃ b : Bool, Ending.returned (.bool (decide (0<=r))) = .returned (.bool b)/\(b = true->∃ j, j < l.length/\R j w2)/\(b = false->I l.length w2)) := ⟨_, rfl, fun h => hyes (of_decide_eq_true h), fun h => hno (by have := of_decide_eq_false h; omega)⟩
 clear hyes hno H
 go_wp2_with fail
 go_ret
 exact HR.out
theorem indexS_any (g : Nat) (lb : Array Value) (eg : ∀ args w, (callFunc g args).run Tryz.prog w = .ok (.enter g args) w) (P : Nat->Prop) (lv : Value) (l : List ByteArray) (I R : Nat->World->Prop) (w : World)
 (h0 : I 0 w) (hK : ∀ j V, I j V->Kept P w V) (hs : ∀ j V, j < l.length->I j V->Calls Tryz.prog g (#[Value.string (l.getD j default)] ++ lb) V fun e V' => ∃ b : Bool, e = .returned (.bool b)/\(b = true->R j V')/\(b = false->I (j + 1) V'))
 (hr : RowP P w lv l.length (strCells l)) (hm : l.length<=9223372036854775807)  :
 Calls Tryz.prog 83 #[lv, .func (.func g) #[] lb] w fun e w' => ∃ r : Int, e = .returned (.int .i64 r)/\(0<=r->∃ j, j < l.length/\R j w')/\(r < 0->I l.length w') := by
 obtain ⟨a, c, rfl, hlc⟩ := rSQ hr
 have HR := hJQ hr
 have HKK := hJQ hK
 have HS := hJQ hs
 have H0 := hJQ h0
 skip
 clear hr hK hs h0
 go_enter Tryz.func83, Tryz.ntmps83
 go_wp2_with fail
 go_loopw [8] (fun i wr => ∃ j : Nat, j<=l.length/\i = .int .i64 j/\Hid (I j wr)) (fun i _ => l.length - (intOf i).toNat)
 case atStart => exact ⟨0, Nat.zero_le _, rfl, H0⟩
 case round =>
  rename World => V
  obtain ⟨j, hj, rfl, HI⟩ := hrel
  by_cases hjl : j < l.length
  ·have HK := hJQ (HKK.out j V HI.out)
   obtain ⟨b, off, fd, hbl, hm', e0⟩ := str_at (HK.out.row HR.out) j hjl
   subst fd
   have HC := hJQ (HS.out j V hjl HI.out)
   clear hm'
   generalize l.getD j default = y at *
   go_wp2_with (go_at_fn g; refine HC.out.mono ?_; rintro e w2 ⟨b, rfl, hyes, hno⟩)
   ·rename_i hbb
    subst hbb
    go_ret
    exact ⟨j, rfl, fun _ => ⟨j, hjl, hyes rfl⟩, fun h => by omega⟩
   ·rename_i hbb
    subst hbb
    have HN := hJQ (hno rfl)
    go_roundw
    case rel => exact ⟨j + 1, by omega, by go_num, HN⟩
    case measure => simp [intOf]; omega
  ·obtain rfl : j = l.length := by omega
   go_wp2_with fail
   go_ret
   exact ⟨-1, rfl, fun h => by omega, fun _ => HI.out⟩
theorem containsS_any (g : Nat) (lb : Array Value) (eg : ∀ args w, (callFunc g args).run Tryz.prog w = .ok (.enter g args) w) (P : Nat->Prop) (lv : Value) (l : List ByteArray) (I R : Nat->World->Prop) (w : World)
 (h0 : I 0 w) (hK : ∀ j V, I j V->Kept P w V) (hs : ∀ j V, j < l.length->I j V->Calls Tryz.prog g (#[Value.string (l.getD j default)] ++ lb) V fun e V' => ∃ b : Bool, e = .returned (.bool b)/\(b = true->R j V')/\(b = false->I (j + 1) V'))
 (hr : RowP P w lv l.length (strCells l)) (hm : l.length<=9223372036854775807)  :
 Calls Tryz.prog 47 #[lv, .func (.func g) #[] lb] w fun e w' => ∃ b : Bool, e = .returned (.bool b)/\(b = true->∃ j, j < l.length/\R j w')/\(b = false->I l.length w') := by
 have H := hJQ (indexS_any g lb eg P lv l I R w h0 hK hs hr hm)
 obtain ⟨a, c, rfl, hlc⟩ := rSQ hr
 clear hr hK hs h0
 go_enter Tryz.func47, Tryz.ntmps47
 go_wp2_with fail
 refine H.out.mono ?_
 rintro e w2 ⟨r, rfl, hyes, hno⟩
 have HR : Hid (∃ b : Bool, Ending.returned (.bool (decide (0<=r))) = .returned (.bool b)/\(b = true->∃ j, j < l.length/\R j w2)/\(b = false->I l.length w2)) := ⟨_, rfl, fun h => hyes (of_decide_eq_true h), fun h => hno (by have := of_decide_eq_false h; omega)⟩
 clear hyes hno H
 go_wp2_with fail
 go_ret
 exact HR.out
end Go.Proofs.YtkiffgdinmpljaaGreatDoor
