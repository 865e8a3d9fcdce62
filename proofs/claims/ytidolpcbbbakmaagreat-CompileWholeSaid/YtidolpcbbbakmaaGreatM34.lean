/- Decimal and show. Values of execution in memory, as plain data; the state of an execution; stop and truth. Prim of the reference of layer 47. -/
import Derived.Test.YtidolpcbbbakmaaGreatM33
import Derived.Laws.BytesArg
import Derived.IntWalk
namespace Go.Proofs.YtidolpcbbbakmaaGreat
open Go Go.RowKit

/-- The digits of a number; f bounds how many. -/
def decB : Nat → Nat → ByteArray
  | 0, _ => ⟨#[]⟩
  | f + 1, n => if n < 10 then strOfNums [48 + n] else decB f (n / 10) ++ strOfNums [48 + ((n % 10 : Nat) : Int)]
theorem one_size (x : Int) : (strOfNums [x]).size = 1 := rfl
theorem decB_size : ∀ (f n : Nat), (decB f n).size ≤ f
  | 0, _ => Nat.le_refl _
  | f + 1, n => by
    rw [decB]
    split
    · rw [one_size]; omega
    · rw [ByteArray.size_append, one_size]; have := decB_size f (n / 10); omega
theorem conv_one (w : World) (b : Nat) (x : Int) (h : w.cell? ⟨b, 0, none⟩ = some (.int .u8 x)) :
    (convert 127 9 (.slice (some ⟨b, 0, none⟩) 1 1)).run Tryz.prog w = .ok (.string (strOfNums [x])) w :=
  run_convert_bytes_arg w _ _ Tryz.underlying127 Tryz.underlying5 b 0 1 1 [x] rfl (fun j hj => by
    have e : j = 0 := by omega
    subst e
    exact h) _ Tryz.underlying9
theorem one_new (w : World) (x : Value) (t : TypeId) : (w.alloc (.cells #[x] t)).cell? ⟨w.heap.size, 0, none⟩ = some x := by
  simp [World.cell?, World.alloc, -World.alloc_eq]
set_option maxRecDepth 100000 in
theorem decimal_small (f n : Nat) (w : World) (h10 : (n : Int) < 10) :
    Calls Tryz.prog 108 #[.int .i64 (n : Int)] w fun e w' => e = .returned (.string (decB (f + 1) n)) ∧ w.grownBy w' none := by
  have hcv := conv_one _ _ _ (one_new w (.int .u8 (48 + n)) 5)
  have hg := grown_alloc w (.cells #[.int .u8 (48 + n)] 5)
  have e1 : Hid (decB (f + 1) n = strOfNums [48 + (n : Int)]) := Lib.hid (by rw [decB, if_pos (by omega)])
  go_enter Tryz.func108, Tryz.ntmps108
  go_wp2_with fail
  go_ret
  exact ⟨by rw [e1.out]; rfl, hg⟩
set_option maxHeartbeats 2000000 in
set_option maxRecDepth 100000 in
theorem decimal_any (f : Nat) (hf : f ≤ 100) : ∀ (n : Nat) (w : World), n < 10 ^ (f + 1) → n ≤ 4503599627370496 →
    Calls Tryz.prog 108 #[.int .i64 (n : Int)] w fun e w' => e = .returned (.string (decB (f + 1) n)) ∧ w.grownBy w' none := by
  induction f with
  | zero =>
    intro n w h1 h2
    exact decimal_small 0 n w (by simp at h1; omega)
  | succ f ih =>
    intro n w h1 h2
    by_cases h10 : (n : Int) < 10
    · exact decimal_small _ n w h10
    have h11 : ((n : Int) < 10) = False := eq_false h10
    have HI : ∀ wx : World, Calls Tryz.prog 108 #[.int .i64 ((n : Int) / 10)] wx fun e w' => e = .returned (.string (decB (f + 1) (n / 10))) ∧ wx.grownBy w' none := fun wx => ih (by omega) (n / 10) wx (by have : 10 ^ (f + 1 + 1) = 10 ^ (f + 1) * 10 := rfl; omega) (by omega)
    have HI := Lib.hid HI
    have e1 : Hid (decB (f + 1 + 1) n = decB (f + 1) (n / 10) ++ strOfNums [48 + (n : Int) % 10]) := Lib.hid (by rw [decB, if_neg (by omega)]; rfl)
    have hsz : (decB (f + 1) (n / 10)).size + (strOfNums [48 + (n : Int) % 10]).size ≤ 9223372036854775807 := by rw [one_size]; have := decB_size (f + 1) (n / 10); omega
    clear ih
    have hn0 : (0 : Int) ≤ (n : Int) := by omega
    have hn1 : (n : Int) ≤ 4503599627370496 := by omega
    have hd0 : (0 : Int) ≤ (n : Int) / 10 := by omega
    have hd1 : (n : Int) / 10 ≤ 4503599627370496 := by omega
    have hm0 : (0 : Int) ≤ (n : Int) % 10 := by omega
    have hm1 : (n : Int) % 10 < 10 := by omega
    have hs : IntKind.i64.wrap (48 + (n : Int) % 10) = 48 + (n : Int) % 10 := by rw [IntKind.wrap_i64]; omega
    have h8 : IntKind.u8.wrap (48 + (n : Int) % 10) = 48 + (n : Int) % 10 := by rw [IntKind.wrap_u8]; omega
    go_enter Tryz.func108, Tryz.ntmps108
    go_wp2_with fail
    refine wp_region_held_drew (S := fun _ => True) (by kernel_rfl) trivial (fun hHeld => ?_)
    refine held_take 0 16 (.int .i64 (n : Int)) rfl rfl (by kernel_rfl) (by kernel_rfl) (by kernel_rfl) (fun _ _ _ h => h) (Or.inl ⟨by rfl, fun w9 _ => ?y0⟩) trivial ?_
    case y0 =>
      go_simp
    simp only [Act.put, List.setIfInBounds_toArray, List.set_cons_zero, List.set_cons_succ]
    refine held_take 1 17 (.int .i64 ((n : Int) / 10)) rfl rfl (by kernel_rfl) (by kernel_rfl) (by kernel_rfl) (fun _ _ _ h => h) (Or.inl ⟨by rfl, fun w9 _ => ?y1⟩) trivial ?_
    case y1 =>
      go_simp
      rw [IntKind.wrap_i64]; omega
    simp only [Act.put, List.setIfInBounds_toArray, List.set_cons_zero, List.set_cons_succ]
    refine held_take 3 19 (.int .i64 (n : Int)) rfl rfl (by kernel_rfl) (by kernel_rfl) (by kernel_rfl) (fun _ _ _ h => h) (Or.inl ⟨by rfl, fun w9 _ => ?y3⟩) trivial ?_
    case y3 =>
      go_simp
    simp only [Act.put, List.setIfInBounds_toArray, List.set_cons_zero, List.set_cons_succ]
    refine held_take 4 20 (.int .i64 ((n : Int) % 10)) rfl rfl (by kernel_rfl) (by kernel_rfl) (by kernel_rfl) (fun _ _ _ h => h) (Or.inl ⟨by rfl, fun w9 _ => ?y4⟩) trivial ?_
    case y4 =>
      go_simp
      rw [Int.tmod_eq_emod_of_nonneg hn0]
    simp only [Act.put, List.setIfInBounds_toArray, List.set_cons_zero, List.set_cons_succ]
    refine held_take 5 21 (.int .i64 (48 + (n : Int) % 10)) rfl rfl (by kernel_rfl) (by kernel_rfl) (by kernel_rfl) (fun _ _ _ h => h) (Or.inl ⟨by rfl, fun w9 _ => ?y5⟩) trivial ?_
    case y5 =>
      go_simp
    simp only [Act.put, List.setIfInBounds_toArray, List.set_cons_zero, List.set_cons_succ]
    refine held_take 6 22 (.int .u8 (48 + (n : Int) % 10)) rfl rfl (by kernel_rfl) (by kernel_rfl) (by kernel_rfl) (fun _ _ _ h => h) (Or.inl ⟨by rfl, fun w9 _ => ?y6⟩) trivial ?_
    case y6 =>
      go_simp
    simp only [Act.put, List.setIfInBounds_toArray, List.set_cons_zero, List.set_cons_succ]
    refine wpAnyH_ready (rs := [2, 7]) (by kernel_rfl) (by simp) (AllReadyH.cons (by rfl) (fun K hK => ?_) (AllReadyH.cons (by rfl) (fun K hK => ?_) AllReadyH.nil))
    · go_simp
      refine (HI.out _).mono ?_
      rintro e w2 ⟨rfl, hg2⟩
      refine hK.out _ _ trivial (fun _ => ?_)
      clear hK K
      refine wpAnyH_ready (rs := [7]) (by kernel_rfl) (by simp) (AllReadyH.cons (by rfl) (fun K hK => ?_) AllReadyH.nil)
      have hcv := conv_one _ _ _ (one_new w2 (.int .u8 (48 + (n : Int) % 10)) 5)
      have hgb := grown_alloc w2 (.cells #[.int .u8 (48 + (n : Int) % 10)] 5)
      go_simp
      refine hK.out _ _ trivial (fun _ => ?_)
      clear hK K
      refine wpAnyH_ready (rs := [8]) (by kernel_rfl) (by simp) (AllReadyH.cons (by rfl) (fun K hK => ?_) AllReadyH.nil)
      go_simp
      refine hK.out _ _ trivial (fun _ => ?_)
      clear hK K
      refine held_take 9 25 (.string (decB (f + 1) (n / 10) ++ strOfNums [48 + (n : Int) % 10])) rfl rfl (by kernel_rfl) (by kernel_rfl) (by kernel_rfl) (fun _ _ _ h => h) (Or.inl ⟨by rfl, fun w9 _ => ?y9⟩) trivial ?_
      case y9 => go_simp
      simp only [Act.put, List.setIfInBounds_toArray, List.set_cons_zero, List.set_cons_succ]
      refine held_take 10 2 (.string (decB (f + 1) (n / 10) ++ strOfNums [48 + (n : Int) % 10])) rfl rfl (by kernel_rfl) (by kernel_rfl) (by kernel_rfl) (fun _ _ _ h => h) (Or.inl ⟨by rfl, fun w9 _ => ?y10⟩) trivial ?_
      case y10 => go_simp
      simp only [Act.put, List.setIfInBounds_toArray, List.set_cons_zero, List.set_cons_succ]
      refine wpAnyH_done (by kernel_rfl) ?_ _
      go_wp2_with fail
      go_ret
      exact ⟨by rw [e1.out]; rfl, both (both (grown_drew _) hg2) hgb⟩
    · have hcv := conv_one (w.alloc (.cells #[.int .u8 (48 + (n : Int) % 10)] 5)).drew w.heap.size _ (one_new w (.int .u8 (48 + (n : Int) % 10)) 5)
      have hgb := grown_alloc w.drew (.cells #[.int .u8 (48 + (n : Int) % 10)] 5)
      go_simp
      refine hK.out _ _ trivial (fun _ => ?_)
      clear hK K
      refine wpAnyH_ready (rs := [2, 8]) (by kernel_rfl) (by simp) (AllReadyH.cons (by rfl) (fun K hK => ?_) (AllReadyH.cons (by rfl) (fun K hK => ?_) AllReadyH.nil))
      · go_simp
        refine (HI.out _).mono ?_
        rintro e w2 ⟨rfl, hg2⟩
        refine hK.out _ _ trivial (fun _ => ?_)
        clear hK K
        have hcw := conv_one w2 w.heap.size _ (cell_grown (one_new w.drew (.int .u8 (48 + (n : Int) % 10)) 5) hg2)
        refine wpAnyH_ready (rs := [8]) (by kernel_rfl) (by simp) (AllReadyH.cons (by rfl) (fun K hK => ?_) AllReadyH.nil)
        go_simp
        refine hK.out _ _ trivial (fun _ => ?_)
        clear hK K
        refine held_take 9 25 (.string (decB (f + 1) (n / 10) ++ strOfNums [48 + (n : Int) % 10])) rfl rfl (by kernel_rfl) (by kernel_rfl) (by kernel_rfl) (fun _ _ _ h => h) (Or.inl ⟨by rfl, fun w9 _ => ?y9⟩) trivial ?_
        case y9 => go_simp
        simp only [Act.put, List.setIfInBounds_toArray, List.set_cons_zero, List.set_cons_succ]
        refine held_take 10 2 (.string (decB (f + 1) (n / 10) ++ strOfNums [48 + (n : Int) % 10])) rfl rfl (by kernel_rfl) (by kernel_rfl) (by kernel_rfl) (fun _ _ _ h => h) (Or.inl ⟨by rfl, fun w9 _ => ?y10⟩) trivial ?_
        case y10 => go_simp
        simp only [Act.put, List.setIfInBounds_toArray, List.set_cons_zero, List.set_cons_succ]
        refine wpAnyH_done (by kernel_rfl) ?_ _
        go_wp2_with fail
        go_ret
        exact ⟨by rw [e1.out]; rfl, both (both (grown_drew _) hgb) hg2⟩
      · go_simp
        refine hK.out _ _ trivial (fun _ => ?_)
        clear hK K
        refine wpAnyH_ready (rs := [2]) (by kernel_rfl) (by simp) (AllReadyH.cons (by rfl) (fun K hK => ?_) AllReadyH.nil)
        go_simp
        refine (HI.out _).mono ?_
        rintro e w2 ⟨rfl, hg2⟩
        refine hK.out _ _ trivial (fun _ => ?_)
        clear hK K
        refine held_take 9 25 (.string (decB (f + 1) (n / 10) ++ strOfNums [48 + (n : Int) % 10])) rfl rfl (by kernel_rfl) (by kernel_rfl) (by kernel_rfl) (fun _ _ _ h => h) (Or.inl ⟨by rfl, fun w9 _ => ?y9⟩) trivial ?_
        case y9 => go_simp
        simp only [Act.put, List.setIfInBounds_toArray, List.set_cons_zero, List.set_cons_succ]
        refine held_take 10 2 (.string (decB (f + 1) (n / 10) ++ strOfNums [48 + (n : Int) % 10])) rfl rfl (by kernel_rfl) (by kernel_rfl) (by kernel_rfl) (fun _ _ _ h => h) (Or.inl ⟨by rfl, fun w9 _ => ?y10⟩) trivial ?_
        case y10 => go_simp
        simp only [Act.put, List.setIfInBounds_toArray, List.set_cons_zero, List.set_cons_succ]
        refine wpAnyH_done (by kernel_rfl) ?_ _
        go_wp2_with fail
        go_ret
        exact ⟨by rw [e1.out]; rfl, both (both (grown_drew _) hgb) hg2⟩
/-- A number in decimal. -/
def showP (n : Int) : ByteArray := if n < 0 then ⟨#[45]⟩ ++ decB 17 n.natAbs else decB 17 n.natAbs
theorem show15_any (n : Int) (h1 : -4503599627370496 ≤ n) (h2 : n ≤ 4503599627370496) : Hid (∀ w, Calls Tryz.prog 105 #[.int .i64 n] w fun e w' => e = .returned (.string (showP n)) ∧ w.grownBy w' none) := by
  refine Lib.hid (fun w => ?_)
  have HD := fun wx => decimal_any 16 (by decide) n.natAbs wx (Nat.lt_of_le_of_lt (show n.natAbs ≤ 4503599627370496 by omega) (by decide)) (by omega)
  have hsz := decB_size 17 n.natAbs
  by_cases h : n < 0
  · have e1 : ((n.natAbs : Nat) : Int) = -n := by omega
    have e2 : showP n = ⟨#[45]⟩ ++ decB 17 n.natAbs := by unfold showP; rw [if_pos h]
    rw [e2]
    rw [e1] at HD
    have hz : (⟨#[45]⟩ : ByteArray).size + (decB 17 n.natAbs).size ≤ 9223372036854775807 := by
      have : (⟨#[45]⟩ : ByteArray).size = 1 := rfl
      omega
    have hw : IntKind.i64.wrap (-n) = -n := wrap_ok _ (by omega) (by omega)
    clear e1 e2 hsz
    generalize decB 17 n.natAbs = d at *
    go_enter Tryz.func105, Tryz.ntmps105
    go_wp2_with (go_at_call 108; refine (HD _).mono ?_; rintro e w2 ⟨rfl, hg2⟩)
    go_ret
    exact ⟨rfl, hg2⟩
  · have e1 : ((n.natAbs : Nat) : Int) = n := by omega
    have e2 : showP n = decB 17 n.natAbs := by unfold showP; rw [if_neg h]
    rw [e2]
    rw [e1] at HD
    clear e1 e2 hsz
    generalize decB 17 n.natAbs = d at *
    go_enter Tryz.func105, Tryz.ntmps105
    go_wp2_with (go_at_call 108; refine (HD _).mono ?_; rintro e w2 ⟨rfl, hg2⟩)
    go_ret
    exact ⟨rfl, hg2⟩
/-- A row of cells in a block of values that M does not hold. -/
def RowV (M : Nat → Prop) (w : World) (v : Value) (len : Nat) (xs : List Value) : Prop :=
  ∃ (a : Option Addr) (c : Nat), v = .slice a len c ∧ len ≤ c ∧ (a = none → len = 0 ∧ c = 0) ∧ (0 < len → ∃ b off cur, a = some ⟨b, off, none⟩ ∧ ¬ M b ∧ w.heap[b]? = some (.cells cur 77 (0, 0)) ∧ ∀ j, j < xs.length → w.cell? ⟨b, off + j, none⟩ = some (xs.getD j undef))
/-- The blocks of values that M does not hold are kept. -/
def KeepV (M : Nat → Prop) (w w' : World) : Prop := ∀ b cur, w.heap[b]? = some (.cells cur 77 (0, 0)) → ¬ M b → w'.heap[b]? = w.heap[b]?
theorem RowV.kept {M : Nat → Prop} {w w' : World} {v : Value} {n : Nat} {xs : List Value} (h : RowV M w v n xs) (k : KeepV M w w') : RowV M w' v n xs := by
  obtain ⟨a, c, hv, hlc, hn, hl⟩ := h
  refine ⟨a, c, hv, hlc, hn, fun hne => ?_⟩
  obtain ⟨b, off, cur, ha, hm, hb, hc⟩ := hl hne
  have e := k b cur hb hm
  exact ⟨b, off, cur, ha, hm, e.trans hb, fun j hj => by rw [← hc j hj]; unfold World.cell?; rw [e]⟩
theorem RowV.less {M M' : Nat → Prop} {w : World} {v : Value} {n : Nat} {xs : List Value} (h : RowV M w v n xs) (k : ∀ b, M' b → M b) : RowV M' w v n xs := by
  obtain ⟨a, c, hv, hlc, hn, hl⟩ := h
  refine ⟨a, c, hv, hlc, hn, fun hne => ?_⟩
  obtain ⟨b, off, cur, ha, hm, hb, hc⟩ := hl hne
  exact ⟨b, off, cur, ha, fun h => hm (k b h), hb, hc⟩
/-- A value of execution in memory. -/
inductive IsV (M : Nat → Prop) (w : World) : ExpD → Prop
  | mk {op n : Int} {s : ByteArray} {lv : Value} {l : List ExpD} : RowV M w lv l.length (expCells l) → l.length ≤ maxLen → (∀ y ∈ l, IsV M w y) → IsV M w (.mk op n s lv l)
theorem IsV.parts {M : Nat → Prop} {w : World} {op n : Int} {s : ByteArray} {lv : Value} {l : List ExpD} (h : IsV M w (.mk op n s lv l)) : RowV M w lv l.length (expCells l) ∧ l.length ≤ maxLen ∧ ∀ y ∈ l, IsV M w y := by
  cases h with
  | mk h1 h2 h3 => exact ⟨h1, h2, h3⟩
theorem IsV.kept {M : Nat → Prop} {w w' : World} {x : ExpD} (h : IsV M w x) (k : KeepV M w w') : IsV M w' x := by
  induction h with
  | mk h1 h2 _ ih => exact .mk (h1.kept k) h2 ih
theorem IsV.less {M M' : Nat → Prop} {w : World} {x : ExpD} (h : IsV M w x) (k : ∀ b, M' b → M b) : IsV M' w x := by
  induction h with
  | mk h1 h2 _ ih => exact .mk (h1.less k) h2 ih
theorem keepV_grown {M : Nat → Prop} {w w' : World} (g : w.grownBy w' none) : KeepV M w w' := fun b _ hb _ => g.block b (heap_lt hb) (by nofun)
theorem KeepV.trans {M : Nat → Prop} {a b c : World} (h : KeepV M a b) (k : KeepV M b c) : KeepV M a c := fun q cur hq hm => (k q cur ((h q cur hq hm).trans hq) hm).trans (h q cur hq hm)
theorem rowV_nil (M : Nat → Prop) (w : World) : RowV M w (.slice none 0 0) 0 [] := ⟨none, 0, rfl, Nat.le_refl _, fun _ => ⟨rfl, rfl⟩, fun h => by omega⟩
theorem isV_flat (M : Nat → Prop) (w : World) (op n : Int) (s : ByteArray) : IsV M w (.mk op n s (.slice none 0 0) []) := .mk (rowV_nil M w) (Nat.zero_le _) (fun _ h => by cases h)
/-- The same as plain data. -/
inductive ValD where
  | mk : Int → Int → ByteArray → List ValD → ValD
def ValD.op : ValD → Int | .mk o _ _ _ => o
def ValD.n : ValD → Int | .mk _ n _ _ => n
def ValD.s : ValD → ByteArray | .mk _ _ s _ => s
def ValD.l : ValD → List ValD | .mk _ _ _ l => l
instance : Inhabited ValD := ⟨.mk 0 0 ⟨#[]⟩ []⟩
mutual
def stripX : ExpD → ValD
  | .mk op n s _ l => .mk op n s (stripL l)
def stripL : List ExpD → List ValD
  | [] => []
  | x :: r => stripX x :: stripL r
end
theorem stripX_mk (op n : Int) (s : ByteArray) (v : Value) (l : List ExpD) : stripX (.mk op n s v l) = .mk op n s (stripL l) := by rw [stripX]
theorem stripL_map (l : List ExpD) : stripL l = l.map stripX := by
  induction l with
  | nil => rw [stripL]; rfl
  | cons x r ih => rw [stripL, ih]; rfl
theorem strip_op (x : ExpD) : (stripX x).op = x.op := by cases x; rw [stripX_mk]; rfl
theorem strip_n (x : ExpD) : (stripX x).n = x.n := by cases x; rw [stripX_mk]; rfl
theorem strip_s (x : ExpD) : (stripX x).s = x.s := by cases x; rw [stripX_mk]; rfl
theorem strip_l (x : ExpD) : (stripX x).l = x.l.map stripX := by cases x; rw [stripX_mk, stripL_map]; rfl
/-- The state of an execution. -/
structure StD where
  steps : Int
  out : List ByteArray
  e : Int
  n : Int
def stCells (fv tv : Value) (main fuel : Int) (st : StD) (ov : Value) : Array Value := #[fv, tv, .int .i64 main, .int .i64 fuel, .int .i64 st.steps, ov, .int .i64 st.e, .int .i64 st.n]
structure SSt (V : World) (sb : Nat) (fv tv : Value) (main fuel : Int) (st : StD) (ov : Value) : Prop where
  blk : V.heap[sb]? = some (.cells (stCells fv tv main fuel st ov) 74 (0, 0))
  own : V.ownsRow (sb + 1) 9 1 ov st.out.length (strCells st.out)
theorem SSt.free {V V' : World} {sb : Nat} {fv tv : Value} {main fuel : Int} {st : StD} {ov : Value} (h : SSt V sb fv tv main fuel st ov) (hg : V.grownBy V' none) : SSt V' sb fv tv main fuel st ov :=
  ⟨(hg.block sb (heap_lt h.blk) (by nofun)).trans h.blk, owns_grown h.own hg (by nofun)⟩
theorem owns_block {V : World} {B : Nat} {e : TypeId} {s n : Nat} {v : Value} {xs : List Value} (h : V.ownsRow B e s v n xs) (g : Nat) (hg : v.ownBlock = some g) : ∃ cur, V.heap[g]? = some (.cells cur e (0, 0)) := by
  obtain ⟨_, ⟨rfl, _⟩ | ⟨g', cap, cur, rfl, _, hh, _⟩⟩ := h
  · cases hg
  · cases hg; exact ⟨cur, hh⟩
theorem SSt.keepV {M : Nat → Prop} {V V' : World} {sb : Nat} {fv tv : Value} {main fuel : Int} {st : StD} {ov : Value} {r' : Option Nat} (h : SSt V sb fv tv main fuel st ov) (g : Em sb V V' ov.ownBlock r') : KeepV M V V' := fun b cur hb _ => by
  refine g.kept b (heap_lt hb) (fun e => ?_) (fun e => ?_)
  · rw [e, h.blk] at hb
    have := (Obj.cells.inj (Option.some.inj hb)).2.1
    exact absurd this (by decide)
  · obtain ⟨cur', hc⟩ := owns_block h.own b e
    rw [hc] at hb
    have := (Obj.cells.inj (Option.some.inj hb)).2.1
    exact absurd this (by decide)
def stopP (st : StD) (e n : Int) : StD := if st.e = 0 then { st with e := e, n := n } else st
def nil47 : Array Value := #[.int .i64 0, .int .i64 0, .string ⟨#[]⟩, .slice none 0 0]
theorem info47 : (Tryz.prog.info? 77).map (·.size) = some 4 := by kernel_rfl
theorem eight_cells {w : World} {q : Nat} {a b c d e f g h : Value} {t : TypeId} (hq : w.heap[q]? = some (.cells #[a, b, c, d, e, f, g, h] t (0, 0))) :
    w.cell? ⟨q, 0, none⟩ = some a ∧ w.cell? ⟨q, 1, none⟩ = some b ∧ w.cell? ⟨q, 2, none⟩ = some c ∧ w.cell? ⟨q, 3, none⟩ = some d ∧ w.cell? ⟨q, 4, none⟩ = some e ∧ w.cell? ⟨q, 5, none⟩ = some f ∧ w.cell? ⟨q, 6, none⟩ = some g ∧ w.cell? ⟨q, 7, none⟩ = some h := by
  simp [World.cell?, hq]
set_option maxHeartbeats 1000000 in
theorem stop47_any (sb : Nat) (fv tv : Value) (main fuel : Int) (st : StD) (ov : Value) (e1 n1 : Int) (V : World) (h : SSt V sb fv tv main fuel st ov) :
    Calls Tryz.prog 58 #[.pointer (some ⟨sb, 0, none⟩), .int .i64 e1, .int .i64 n1] V fun e V' => e = .returned (.agg nil47) ∧ SSt V' sb fv tv main fuel (stopP st e1 n1) ov ∧ Em sb V V' ov.ownBlock ov.ownBlock := by
  obtain ⟨q0, q1, q2, q3, q4, q5, q6, q7⟩ := eight_cells h.blk
  have f6 := Lib.frozen_of_heap h.blk 6
  have f7 := Lib.frozen_of_heap h.blk 7
  have hlt := heap_lt h.blk
  have H := Lib.hid h
  clear h
  go_enter Tryz.func58, Tryz.ntmps58
  by_cases h0 : st.e = 0
  · go_wp2_with fail
    have b1 := heap_set_same (i := 6) H.out.blk (.int .i64 e1)
    have b2 := heap_set_same (i := 7) b1 (.int .i64 n1)
    have g1 := (Em.set (wb := sb) V 6 (.int .i64 e1) ov.ownBlock).trans (Em.set _ 7 (.int .i64 n1) ov.ownBlock)
    have gS := both (grown_set V sb 6 (.int .i64 e1)) (grown_set _ sb 7 (.int .i64 n1))
    have hown := owns_grown H.out.own gS (fun k hk e => by have := (owns_lt H.out.own _ e).1; cases hk; omega)
    have ga := grown_alloc ((V.setCell ⟨sb, 6, none⟩ (.int .i64 e1)).setCell ⟨sb, 7, none⟩ (.int .i64 n1)) (.cells nil47 77)
    have hsz : ((V.setCell ⟨sb, 6, none⟩ (.int .i64 e1)).setCell ⟨sb, 7, none⟩ (.int .i64 n1)).heap.size = V.heap.size := by simp
    refine bodyPost_ret (results_cell_row rfl _ _ V.heap.size 77 nil47 (0, 0) _ rfl (heap_alloc_at hsz _) Tryz.underlying77 rfl info47) rfl ⟨rfl, ⟨?_, ?_⟩, g1.trans (Em.free ga)⟩
    · rw [stopP, if_pos h0]
      exact (ga.block sb (heap_lt b2) (by nofun)).trans b2
    · rw [stopP, if_pos h0]
      exact owns_grown hown ga (by nofun)
  · go_wp2_with fail
    have ga := grown_alloc V (.cells nil47 77)
    refine bodyPost_ret (results_cell_row rfl _ _ V.heap.size 77 nil47 (0, 0) _ rfl (heap_alloc_new V _) Tryz.underlying77 rfl info47) rfl ⟨rfl, ?_, Em.free ga⟩
    rw [stopP, if_neg h0]
    exact H.out.free ga
def unit47 : Array Value := #[.int .i64 3, .int .i64 0, .string ⟨#[]⟩, .slice none 0 0]
theorem truth47_any (b : Bool) (V : World) :
    Calls Tryz.prog 82 #[.bool b] V fun e V' => ∃ q : Nat, e = .returned (.agg #[.int .i64 4, .int .i64 (if b then 1 else 0), .string ⟨#[]⟩, .slice (some ⟨q, 0, none⟩) 1 1]) ∧ V.grownBy V' none ∧ V.heap.size ≤ q ∧
      V'.heap[q]? = some (.cells unit47 77 (0, 0)) := by
  cases b
  all_goals
    go_enter Tryz.func82, Tryz.ntmps82
    go_wp2_with fail
    refine bodyPost_ret (results_cell_row rfl _ _ V.heap.size 77 _ (0, 0) _ rfl (((grown_alloc (V.alloc (.cells _ 77)) (.cells unit47 77)).block _ (heap_lt (heap_alloc_new V _)) (by nofun)).trans (heap_alloc_new V _)) Tryz.underlying77 rfl info47) rfl ?_
    exact ⟨V.heap.size + 1, rfl, both (grown_alloc _ _) (grown_alloc _ _), by omega, heap_alloc_at (by simp) _⟩
theorem rowV_at {M : Nat → Prop} {w : World} {v : Value} {l : List ExpD} (h : RowV M w v l.length (expCells l)) (n : Nat) (hn : n < l.length) :
    ∃ b off c, v = .slice (some ⟨b, off, none⟩) l.length c ∧ l.length ≤ c ∧ ¬ M b ∧ b < w.heap.size ∧ w.cell? ⟨b, off + n * 4, none⟩ = some (.int .i64 (l.getD n default).op) ∧ w.cell? ⟨b, off + n * 4 + 1, none⟩ = some (.int .i64 (l.getD n default).n) ∧ w.cell? ⟨b, off + n * 4 + 2, none⟩ = some (.string (l.getD n default).s) ∧ w.cell? ⟨b, off + n * 4 + 3, none⟩ = some (l.getD n default).lv := by
  obtain ⟨a, c, rfl, hlc, _, hcell⟩ := h
  obtain ⟨b, off, cur, rfl, hm, hb, hc⟩ := hcell (by omega)
  obtain ⟨c0, c1, c2, c3⟩ := expCells_at l n hn
  have hlen := expCells_length l
  refine ⟨b, off, c, rfl, hlc, hm, heap_lt hb, ?_, ?_, ?_, ?_⟩
  · rw [hc (n * 4) (by omega), c0]
  · rw [Nat.add_assoc, hc (n * 4 + 1) (by omega), c1]
  · rw [Nat.add_assoc, hc (n * 4 + 2) (by omega), c2]
  · rw [Nat.add_assoc, hc (n * 4 + 3) (by omega), c3]
/-- What an operation on values gives. -/
inductive PQ
  | stuck
  | fail (c : Int)
  | val (v : ValD)
  | print (s : ByteArray)
def okOp (x : ValD) : Bool := x.op == 1 || x.op == 2
def fitL (n : Int) : List ValD → Bool
  | [a] => decide (a.op = wantP n) && (1 == arityP n)
  | [a, b] => decide (a.op = wantP n) && decide (b.op = wantP n) && (2 == arityP n)
  | _ => false
def flatB (x : ValD) : Bool := flatOk x.op x.n x.s
def r15 (n : Int) : List ValD → R15
  | [a] => primR n a.n a.n a.s a.s (showP a.n)
  | [a, b] => primR n a.n b.n a.s b.s (showP a.n)
  | _ => .fail 2
def ofR : R15 → PQ
  | .fail c => .fail c
  | .num n => .val (.mk 1 n ⟨#[]⟩ [])
  | .txt s => .val (.mk 2 0 s [])
  | .bool b => .val (.mk 4 (if b then 1 else 0) ⟨#[]⟩ [.mk 3 0 ⟨#[]⟩ []])
def primQ (n : Int) (l : List ValD) : PQ :=
  if l.all okOp = false then .stuck else if fitL n l = false then .stuck else if n = 14 then .print (l.headD default).s else if l.all flatB = false then .val default else ofR (r15 n l)
def applyQ (st : StD) : PQ → ValD × StD
  | .stuck => (default, stopP st 4 0)
  | .fail c => (default, stopP st 2 c)
  | .val v => (v, st)
  | .print s => if st.out.length = 1000 then (default, stopP st 2 2) else (.mk 3 0 ⟨#[]⟩ [], { st with out := st.out ++ [s] })
def fl (l : List ExpD) : List Value := l.flatMap fun x => flat15 x.op x.n x.s
def ll (l : List ExpD) : List Value := l.flatMap fun x => listV x.op x.n x.s
theorem range_left {w : World} {b o : Nat} {xs ys : List Value} (h : w.rangeAt b o (xs ++ ys)) : w.rangeAt b o xs := fun j v hv => h j v (by
  rw [List.getElem?_append_left (List.getElem?_eq_some_iff.1 hv).1]; exact hv)
theorem range_right {w : World} {b o : Nat} {xs ys : List Value} (h : w.rangeAt b o (xs ++ ys)) : w.rangeAt b (o + xs.length) ys := fun j v hv => by
  have := h (xs.length + j) v (by rw [List.getElem?_append_right (by omega), Nat.add_sub_cancel_left]; exact hv)
  rw [Nat.add_assoc]; exact this
theorem fl_one (x : ExpD) : fl [x] = flat15 x.op x.n x.s := by simp [fl]
theorem fl_two (x y : ExpD) : fl [x, y] = flat15 x.op x.n x.s ++ flat15 y.op y.n y.s := by simp [fl]
theorem ll_one (x : ExpD) : ll [x] = listV x.op x.n x.s := by simp [ll]
theorem ll_two (x y : ExpD) : ll [x, y] = listV x.op x.n x.s ++ listV y.op y.n y.s := by simp [ll]
theorem fitL_any (n : Int) (l : List ExpD) (hm : l.length = 1 ∨ l.length = 2) (g cap : Nat) (wx : World) (hr : wx.rangeAt g 0 (fl l)) :
    Calls Tryz.prog 80 #[.int .i64 n, .slice (some ⟨g, 0, none⟩) l.length cap] wx fun e w' => e = .returned (.bool (fitL n (l.map stripX))) ∧ wx = w' := by
  match l, hm with
  | [x], _ =>
    rw [fl_one] at hr
    have e : fitL n ([x].map stripX) = (decide (x.op = wantP n) && (1 == arityP n)) := by simp [fitL, strip_op]
    rw [e]
    exact fit15_one g cap n x.op wx (hr 0 _ rfl)
  | [x, y], _ =>
    rw [fl_two] at hr
    have e : fitL n ([x, y].map stripX) = (decide (x.op = wantP n) && decide (y.op = wantP n) && (2 == arityP n)) := by simp [fitL, strip_op]
    rw [e]
    exact fit15_two g cap n x.op y.op wx (range_left hr 0 _ rfl) (range_right hr 0 _ rfl)
theorem primL_any (n : Int) (l : List ExpD) (hm : l.length = 1 ∨ l.length = 2) (hf : fitL n (l.map stripX) = true) (h1 : 1 ≤ n) (h2 : n ≤ 13) (g cap : Nat) (wx : World) (hr : wx.rangeAt g 0 (ll l)) (hc : l.length ≤ cap) :
    Calls Tryz.prog 81 #[.int .i64 n, .slice (some ⟨g, 0, none⟩) l.length cap] wx (PAns ((l.map stripX).all flatB) (r15 n (l.map stripX)) wx) := by
  match l, hm with
  | [x], _ =>
    rw [ll_one] at hr
    have e : fitL n ([x].map stripX) = (decide (x.op = wantP n) && (1 == arityP n)) := by simp [fitL, strip_op]
    rw [e, Bool.and_eq_true, decide_eq_true_iff, beq_iff_eq] at hf
    have e1 : ([x].map stripX).all flatB = flatOk x.op x.n x.s := by simp [flatB, strip_op, strip_n, strip_s]
    have e2 : r15 n ([x].map stripX) = primR n x.n x.n x.s x.s (showP x.n) := by simp only [List.map_cons, List.map_nil, r15, strip_n, strip_s]
    rw [e1, e2]
    exact Prim15_one g cap n x.op x.n x.s (showP x.n) wx hr hc h1 h2 hf.1 hf.2 (fun a b => show15_any _ a b)
  | [x, y], _ =>
    rw [ll_two] at hr
    have e : fitL n ([x, y].map stripX) = (decide (x.op = wantP n) && decide (y.op = wantP n) && (2 == arityP n)) := by simp [fitL, strip_op]
    rw [e, Bool.and_eq_true, Bool.and_eq_true, decide_eq_true_iff, decide_eq_true_iff, beq_iff_eq] at hf
    have e1 : ([x, y].map stripX).all flatB = (flatOk x.op x.n x.s && flatOk y.op y.n y.s) := by simp [flatB, strip_op, strip_n, strip_s]
    have e2 : r15 n ([x, y].map stripX) = primR n x.n y.n x.s y.s (showP x.n) := by simp only [List.map_cons, List.map_nil, r15, strip_n, strip_s]
    rw [e1, e2]
    have ha := range_left hr
    have hb := range_right hr
    cases hva : flatOk x.op x.n x.s
    · exact Prim15_bad1 g cap n x.op x.n y.op y.n x.s y.s (showP x.n) wx ha hb hc h1 h2 hf.1.1 hf.1.2 hf.2 hva
    · cases hvb : flatOk y.op y.n y.s
      · exact Prim15_bad2 g cap n x.op x.n y.op y.n x.s y.s (showP x.n) wx ha hb hc h1 h2 hf.1.1 hf.1.2 hf.2 hva hvb
      · exact Prim15_two g cap n x.op x.n y.op y.n x.s y.s (showP x.n) wx ha hb hc h1 h2 hf.1.1 hf.1.2 hf.2 hva hvb (fun a b => show15_any _ a b)
theorem cell_alloc_some {w : World} {a : Addr} {v : Value} (h : w.cell? a = some v) (o : Obj) : (w.alloc o).cell? a = some v := by
  rw [World.cell?_alloc_lt _ _ _ (World.block_lt_of_cell? w _ h)]; exact h
/-- A list of one value, at a step of a region that draws its order. -/
theorem step15 {ops : Array Oper} {o : Oper} {a : Act} {K : Act → World → Prop} {w : World} {Q : Exit → Act → World → Prop} {E : Prop} (hg : o.guard = none) (x : Operand) (ho : o.op = .buildSlice 138 1 #[(0, x)])
    (cs : Array Value) (hx : a.eval x = .agg cs) (hc : cs.size = 25)
    (h : K (a.put o.dst (.slice (some ⟨w.heap.size, 0, none⟩) 1 1)) (w.alloc (.cells cs 149))) :
    if Region.wanted o (yielded ops a.tmps) = true then Oper.wp Tryz.prog o a w K Q else E := by
  have hw : Region.wanted o (yielded ops a.tmps) = true := by simp [Region.wanted, hg]
  rw [if_pos hw]
  have hz := info15z
  cases hq : Tryz.prog.info? 149 with
  | none => rw [hq] at hz; simp at hz
  | some ie =>
    rw [hq] at hz
    simp only [Option.map_some, Option.some.injEq, Prod.mk.injEq] at hz
    obtain ⟨h1, h2⟩ := hz
    cases hzz : ie.zero with
    | none => rw [hzz] at h2; simp at h2
    | some z =>
      refine wp_buildSlice _ _ 1 _ ho cs ie z Tryz.underlying138 hq hzz (by rw [h1]; decide) (by rw [h1]; decide) ?_ h
      have e : (Array.map (fun (x : Nat × Operand) => match x with | (i, x) => (i, a.eval x)) #[(0, x)]).toList = (([Value.agg cs].zipIdx 0).map fun x => (x.2, x.1)) := by
        simp [hx]
      rw [e, Great.fill_whole (by rw [h1]; decide) [Value.agg cs] _ (by simp [Value.cells, hc, h1]) (by simp)]
      simp [Value.cells]
end Go.Proofs.YtidolpcbbbakmaaGreat
