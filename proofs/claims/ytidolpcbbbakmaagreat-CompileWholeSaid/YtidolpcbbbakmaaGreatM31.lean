/- Plain law: the program that is made is a valid one. observe of the reference of layer 15, at the values that prim gives. -/
import Derived.Test.YtidolpcbbbakmaaGreatM30
import Derived.Test.YtidolpcbbbakmaaGreatM10
import Derived.Deep.AppendLies
import Derived.Deep.OwnRows
namespace Go.Proofs.YtidolpcbbbakmaaGreat
open Go Go.RowKit
open Go.Maps

theorem add_mem {acc : List ByteArray} {s x : ByteArray} (h : s ∈ acc) : s ∈ addT acc x := by
  unfold addT; split
  · exact h
  · exact List.mem_append_left _ h
theorem add_self (acc : List ByteArray) (x : ByteArray) : x ∈ addT acc x := by
  unfold addT
  split
  · rename_i h
    cases hf : findT acc x with
    | none => rw [hf] at h; cases h
    | some i =>
      obtain ⟨h1, h2, _⟩ := findT_some hf
      rw [← h2, show acc.getD i default = acc[i] by simp [List.getD, h1]]; exact List.getElem_mem h1
  · exact List.mem_append_right _ (by simp)
theorem mem_dedup {l : List ByteArray} {s : ByteArray} (h : s ∈ l) : s ∈ dedup l := by
  have : ∀ (l acc : List ByteArray), s ∈ acc ∨ s ∈ l → s ∈ l.foldl addT acc := fun l => by
    induction l with
    | nil => intro acc h; rcases h with h | h; exact h; cases h
    | cons x r ih =>
      intro acc h
      rw [List.foldl_cons]
      rcases h with h | h
      · exact ih _ (.inl (add_mem h))
      · rcases List.mem_cons.1 h with rfl | h
        · exact ih _ (.inl (add_self acc _))
        · exact ih _ (.inr h)
  exact this l [] (.inr h)
theorem dedup_any (l : List ByteArray) (p : ByteArray → Bool) : (dedup l).any p = l.any p := by
  rw [Bool.eq_iff_iff, List.any_eq_true, List.any_eq_true]
  exact ⟨fun ⟨s, hs, hp⟩ => ⟨s, dedup_mem hs, hp⟩, fun ⟨s, hs, hp⟩ => ⟨s, mem_dedup hs, hp⟩⟩
theorem textT_lt {ts : List ByteArray} {s : ByteArray} (h : s ∈ ts) : 0 ≤ textT ts s ∧ textT ts s < ts.length := by
  unfold textT
  cases hf : findT ts s with
  | none => exact absurd h (findT_none.1 hf)
  | some i => have := (findT_some hf).1; simp; omega
theorem locL_part : ∀ (l : List ExpD) (m a b : Int) (i : Nat), i < l.length → locX (if 0 < i then b else a) (l.getD i default) ≤ locL m a b l
  | [], _, _, _, _, h => by simp at h
  | x :: r, m, a, b, 0, _ => by
    rw [locL_cons]
    have := locL_ge r (max m (locX a x)) b b
    have h : locX (if 0 < 0 then b else a) ((x :: r).getD 0 default) = locX a x := rfl
    rw [h]; omega
  | x :: r, m, a, b, i + 1, h => by
    rw [locL_cons]
    have := locL_part r (max m (locX a x)) b b i (by simpa using h)
    have h2 : locX (if 0 < i + 1 then b else a) ((x :: r).getD (i + 1) default) = locX (if 0 < i then b else b) (r.getD i default) := by
      rw [if_pos (by omega)]; simp
    rw [h2]; exact this
theorem loc_part (loc op n : Int) (s : ByteArray) (v : Value) (l : List ExpD) (i : Nat) (h : i < l.length) : locX (lo op loc i) (l.getD i default) ≤ locX loc (.mk op n s v l) := by
  rw [locX_mk]
  exact locL_part l _ _ _ i h
section
variable {C : List Ins} {T : ByteArray → Int} {nt : Nat} {fl : List FlatD} {fs : List FunD} {caps L : Int}
/-- The instruction at this place is right. -/
def Rt (nt : Nat) (fs : List FunD) (caps L : Int) (C : List Ins) (k : Nat) : Prop := rightI nt fs caps L C k (C.getD k default) = true
def RtAll (C : List Ins) (T : ByteArray → Int) (nt : Nat) (fl : List FlatD) (fs : List FunD) (caps L : Int) (x : ExpD) : Prop :=
  ∀ (loc : Int) (p : Nat), flatX caps (cloV fl) loc x = true → CodeX C T loc x p → p + clenX x < C.length → 0 ≤ loc → locX loc x ≤ L → (∀ s ∈ textsX x, 0 ≤ T s ∧ T s < nt) → ∀ k, p ≤ k → k < p + clenX x → Rt nt fs caps L C k
theorem right_S (loc : Int) : ∀ (l : List ExpD) (p : Nat), (∀ y ∈ l, RtAll C T nt fl fs caps L y) → (∀ y ∈ l, flatX caps (cloV fl) loc y = true ∧ locX loc y ≤ L) → CodeS C T loc l p → p + clenL l < C.length → 0 ≤ loc → (∀ s ∈ textsL l, 0 ≤ T s ∧ T s < nt) → ∀ k, p ≤ k → k < p + clenL l → Rt nt fs caps L C k
  | [], p, _, _, _, _, _, _, k, h1, h2 => by rw [clenL_nil] at h2; omega
  | x :: r, p, ih, hf, hc, hl, h0, ht, k, h1, h2 => by
    rw [codeS_cons] at hc
    rw [clenL_cons] at hl h2
    rw [textsL_cons] at ht
    by_cases hk : k < p + clenX x
    · exact ih x (by simp) loc p (hf x (by simp)).1 hc.1 (by omega) h0 (hf x (by simp)).2 (fun s hs => ht s (List.mem_append_left _ hs)) k h1 hk
    · exact right_S loc r _ (fun y hy => ih y (by simp [hy])) (fun y hy => hf y (by simp [hy])) hc.2 (by omega) h0 (fun s hs => ht s (List.mem_append_right _ hs)) k (by omega) (by omega)
theorem rt_jump {k p : Nat} (h : C[k]? = some ⟨14, (p : Int), 0⟩) (hp : p < C.length) : Rt nt fs caps L C k := by
  unfold Rt
  rw [getD_of h]
  unfold rightI
  have h1 : inB (p : Int) 0 ((C.length : Int) - 1) = true := by unfold inB; simp; omega
  have h2 : knownB 14 = true := by decide
  simp [h2, opnds, h1]
theorem right_B (loc : Int) (e : Nat) (he : e < C.length) (h0 : 0 ≤ loc) : ∀ (l : List ExpD) (tab p : Nat), (∀ y ∈ l, RtAll C T nt fl fs caps L y) → (∀ y ∈ l, flatX caps (cloV fl) loc y = true ∧ locX loc y ≤ L) → CodeB C T loc l tab p e → p + clenL l + (l.length - 1) ≤ e → (∀ s ∈ textsL l, 0 ≤ T s ∧ T s < nt) →
    (∀ k, tab ≤ k → k < tab + l.length → Rt nt fs caps L C k ∧ (C.getD k default).op = 14) ∧ (∀ k, p ≤ k → k < p + clenL l + (l.length - 1) → Rt nt fs caps L C k)
  | [], tab, p, _, _, _, _, _ => ⟨fun k h1 h2 => by simp at h2; omega, fun k h1 h2 => by rw [clenL_nil] at h2; simp at h2; omega⟩
  | x :: r, tab, p, ih, hf, hc, hp, ht => by
    unfold CodeB at hc
    obtain ⟨c1, c2, c3, c4⟩ := hc
    rw [clenL_cons, List.length_cons] at hp
    rw [textsL_cons] at ht
    have hx := ih x (by simp) loc p (hf x (by simp)).1 c2 (by omega) h0 (hf x (by simp)).2 (fun s hs => ht s (List.mem_append_left _ hs))
    have htab : Rt nt fs caps L C tab ∧ (C.getD tab default).op = 14 := ⟨rt_jump c1 (by omega), by rw [getD_of c1]⟩
    by_cases hr : r = []
    · subst hr
      refine ⟨fun k h1 h2 => ?_, fun k h1 h2 => ?_⟩
      · have : k = tab := by simp at h2; omega
        subst this; exact htab
      · rw [clenL_cons, clenL_nil] at h2
        exact hx k h1 (by simp at h2; omega)
    · have hrl := List.length_pos_iff.2 hr
      obtain ⟨b1, b2⟩ := right_B loc e he h0 r (tab + 1) (p + clenX x + 1) (fun y hy => ih y (by simp [hy])) (fun y hy => hf y (by simp [hy])) c4 (by omega) (fun s hs => ht s (List.mem_append_right _ hs))
      refine ⟨fun k h1 h2 => ?_, fun k h1 h2 => ?_⟩
      · by_cases hk : k = tab
        · subst hk; exact htab
        · exact b1 k (by omega) (by rw [List.length_cons] at h2; omega)
      · rw [clenL_cons, List.length_cons] at h2
        by_cases hk : k < p + clenX x
        · exact hx k h1 hk
        · by_cases hk2 : k = p + clenX x
          · subst hk2; exact rt_jump (c3 hr) he
          · exact b2 k (by omega) (by omega)
theorem last_right {loc op n : Int} {s : ByteArray} {k m : Nat} (hfs : fs.length = fl.length) (hfc : ∀ i, i < fl.length → (fs.getD i default).c = (fl.getD i default).caps) (hf : formB caps (cloV fl) loc op n s k = true) (h9 : op ≠ 9) (h11 : op ≠ 11) (hL : loc ≤ L) (ht : op = 3 → 0 ≤ T s ∧ T s < nt) : rightI nt fs caps L C m (lastI T op n s k) = true := by
  have k1 : knownB 1 = true := by decide
  have k2 : knownB 2 = true := by decide
  have k3 : knownB 3 = true := by decide
  have k5 : knownB 5 = true := by decide
  have k6 : knownB 6 = true := by decide
  have k7 : knownB 7 = true := by decide
  have k8 : knownB 8 = true := by decide
  have k10 : knownB 10 = true := by decide
  have k11 : knownB 11 = true := by decide
  have k12 : knownB 12 = true := by decide
  have k15 : knownB 15 = true := by decide
  have k16 : knownB 16 = true := by decide
  rcases form_ops hf with rfl | rfl | rfl | rfl | rfl | rfl | rfl | rfl | rfl | rfl | rfl | rfl | rfl | rfl
  · have h := (form_2 hf).1
    simp at h
    show rightI nt fs caps L C m ⟨1, n, 0⟩ = true
    unfold rightI; simp [k1, opnds, h.2]
  · have h := ht rfl
    show rightI nt fs caps L C m ⟨2, T s, 0⟩ = true
    have h2 : inB (T s) 0 ((nt : Int) - 1) = true := by unfold inB; simp; omega
    unfold rightI; simp [k2, opnds, h2]
  · have h := (form_6 hf).1
    simp at h
    show rightI nt fs caps L C m ⟨10, k, 0⟩ = true
    have h2 : inB (k : Int) 0 1000 = true := by unfold inB; simp; omega
    unfold rightI; simp [k10, opnds, h2]
  · have h := (form_7 hf).1
    simp at h
    show rightI nt fs caps L C m ⟨11, n, 0⟩ = true
    unfold rightI; simp [k11, opnds, h.2]
  · have h := (form_8 hf).1
    simp at h
    show rightI nt fs caps L C m ⟨12, n, 0⟩ = true
    unfold rightI; simp [k12, opnds, h.2]
  · exact absurd rfl h9
  · exact absurd rfl h11
  · have h := (form_12 hf).1
    simp at h
    show rightI nt fs caps L C m ⟨15, n, 0⟩ = true
    unfold rightI; simp [k15, opnds, h.1]
  · have h := (form_13 hf).1
    simp at h
    show rightI nt fs caps L C m ⟨16, n, 0⟩ = true
    unfold rightI; simp [k16, opnds, h.2]
  · have h := (form_21 hf).1
    simp at h
    show rightI nt fs caps L C m ⟨3, n, 0⟩ = true
    have h2 : inB n 0 (L - 1) = true := by have := h.2; unfold inB at this ⊢; simp at this ⊢; omega
    unfold rightI; simp [k3, opnds, h2]
  · show rightI nt fs caps L C m ⟨6, 0, 0⟩ = true
    unfold rightI; simp [k6, opnds]
  · have h := (form_23 hf).1
    simp at h
    show rightI nt fs caps L C m ⟨5, n, 0⟩ = true
    unfold rightI; simp [k5, opnds, h.2]
  · have h := (form_24 hf).1
    rw [Bool.and_eq_true] at h
    have hc := h.2
    unfold cloV at hc
    rw [Bool.and_eq_true] at hc
    obtain ⟨hc1, hc2⟩ := hc
    show rightI nt fs caps L C m ⟨7, n, k⟩ = true
    have h1 : inB n 0 ((fs.length : Int) - 1) = true := by rw [hfs]; exact hc1
    have hn : n.toNat < fl.length := by unfold inB at hc1; simp at hc1; omega
    have h2 : (k : Int) = (fs.getD n.toNat default).c := by rw [hfc _ hn]; exact (of_decide_eq_true hc2).symm
    have h3 : decide ((k : Int) = (fs.getD n.toNat default).c) = true := decide_eq_true h2
    unfold rightI
    rw [if_neg (by rw [k7]; decide), if_neg (by simp [opnds]), if_neg (by simp), if_neg (by simp), if_neg (by simp), if_neg (by simp), if_pos rfl, h1, h3]; rfl
  · show rightI nt fs caps L C m ⟨8, 0, 0⟩ = true
    unfold rightI; simp [k8, opnds]
theorem store_right {loc : Int} {m : Nat} (h0 : 0 ≤ loc) (hL : loc + 1 ≤ L) : rightI nt fs caps L C m ⟨4, loc, 0⟩ = true := by
  have k4 : knownB 4 = true := by decide
  have h2 : inB loc 0 (L - 1) = true := by unfold inB; simp; omega
  unfold rightI; simp [k4, opnds, h2]
theorem switch_right {loc : Int} {m n : Nat} (h0 : 0 ≤ loc) (hL : loc + 1 ≤ L) (hn0 : 1 ≤ n) (hn1 : n ≤ 1000) (hm : m + n < C.length) (ht : ∀ k, m + 1 ≤ k → k < m + 1 + n → (C.getD k default).op = 14) : rightI nt fs caps L C m ⟨13, loc, n⟩ = true := by
  have k13 : knownB 13 = true := by decide
  have h1 : inB loc 0 (L - 1) = true := by unfold inB; simp; omega
  have h2 : inB (n : Int) 1 1000 = true := by unfold inB; simp; omega
  have h3 : decide ((m : Int) + (n : Int) < C.length) = true := decide_eq_true (by omega)
  have h4 : ((C.drop (m + 1)).take (n : Int).toNat).all (·.op == 14) = true := by
    rw [List.all_eq_true]
    intro i hi
    obtain ⟨j, hj, rfl⟩ := List.mem_iff_getElem.1 hi
    rw [List.length_take, List.length_drop] at hj
    have := ht (m + 1 + j) (by omega) (by omega)
    rw [show C.getD (m + 1 + j) default = C[m + 1 + j]'(by omega) by simp [List.getD, show m + 1 + j < C.length by omega]] at this
    rw [List.getElem_take, List.getElem_drop]
    simpa using this
  unfold rightI
  rw [if_neg (by rw [k13]; decide), if_neg (by simp [opnds]), if_neg (by simp), if_neg (by simp), if_neg (by simp), if_neg (by simp), if_neg (by simp), if_neg (by simp), if_neg (by simp), if_pos rfl, h1, h2, h3, h4]; rfl
set_option maxRecDepth 100000 in
theorem right_all (hfs : fs.length = fl.length) (hfc : ∀ i, i < fl.length → (fs.getD i default).c = (fl.getD i default).caps) (x : ExpD) : RtAll C T nt fl fs caps L x := by
  induction x using ExpD.induct with
  | h op n s lv l ih =>
    intro loc p hf hc hl h0 hL ht k h1 h2
    obtain ⟨hfm, hfp⟩ := flat_parts hf
    have hpart : ∀ i, i < l.length → locX (lo op loc i) (l.getD i default) ≤ L := fun i hi => by have := loc_part loc op n s lv l i hi; omega
    by_cases h11 : op = 11
    · subst h11
      have hk := form_let hfm
      match l, hk with
      | [x, y], _ =>
        unfold CodeX at hc
        rw [if_pos rfl] at hc
        unfold CodeLet at hc
        obtain ⟨c1, c2, c3⟩ := hc
        rw [codeS_cons] at c3
        rw [clen_let] at hl h2
        rw [textsX_mk, if_neg (by decide), textsL_cons, textsL_cons, textsL_nil, List.append_nil] at ht
        have hx := hpart 0 (by simp)
        have hy := hpart 1 (by simp)
        have fx := hfp 0 (by simp)
        have fy := hfp 1 (by simp)
        change locX (loc + 1) y ≤ L at hy
        change locX loc x ≤ L at hx
        change flatX caps (cloV fl) loc x = true at fx
        change flatX caps (cloV fl) (loc + 1) y = true at fy
        have hly := loc_ge y (loc + 1)
        by_cases hk1 : k < p + clenX x
        · exact ih x (by simp) loc p fx c1 (by omega) h0 hx (fun s hs => ht s (List.mem_append_left _ hs)) k h1 hk1
        · by_cases hk2 : k = p + clenX x
          · subst hk2
            unfold Rt
            rw [getD_of c2]
            exact store_right h0 (by omega)
          · exact ih y (by simp) (loc + 1) _ fy c3.1 (by omega) (by omega) hy (fun s hs => ht s (List.mem_append_right _ hs)) k (by omega) (by omega)
    · by_cases h9 : op = 9
      · subst h9
        cases l with
        | nil => have := (form_9 hfm).1; unfold inB at this; simp at this
        | cons x r =>
          have hn2 := (form_9 hfm).1
          unfold inB at hn2
          simp at hn2
          have hr1 : 1 ≤ r.length ∧ r.length ≤ 1000 := by omega
          unfold CodeX at hc
          rw [if_neg (by decide), if_pos rfl] at hc
          unfold CodeSw at hc
          obtain ⟨c1, c2, c3⟩ := hc
          rw [clenX_mk, if_pos rfl, clenL_cons, List.length_cons] at hl h2
          rw [textsX_mk, if_neg (by decide), textsL_cons] at ht
          have hx := hpart 0 (by simp)
          have fx := hfp 0 (by simp)
          change locX loc x ≤ L at hx
          change flatX caps (cloV fl) loc x = true at fx
          have hrp : ∀ y ∈ r, flatX caps (cloV fl) (loc + 1) y = true ∧ locX (loc + 1) y ≤ L := fun y hy => by
            obtain ⟨i, hi, rfl⟩ := List.mem_iff_getElem.1 hy
            have a1 := hfp (i + 1) (by simp; omega)
            have a2 := hpart (i + 1) (by simp; omega)
            rw [show (x :: r).getD (i + 1) default = r[i] by simp [List.getD, hi], show lo 9 loc (i + 1) = loc + 1 from by unfold lo bump; rw [if_pos (by omega), if_pos (by omega)]] at a1 a2
            exact ⟨a1, a2⟩
          have hb := right_B (loc + 1) (p + clenX x + clenL r + 2 * r.length) (by omega) (by omega) r _ _ (fun y hy => ih y (by simp [hy])) hrp c3 (by omega) (fun s hs => ht s (List.mem_append_right _ hs))
          obtain ⟨y0, hy0⟩ := List.exists_mem_of_length_pos (show 0 < r.length by omega)
          have hlY := loc_ge y0 (loc + 1)
          have hlY2 := (hrp y0 hy0).2
          by_cases hk1 : k < p + clenX x
          · exact ih x (by simp) loc p fx c1 (by omega) h0 hx (fun s hs => ht s (List.mem_append_left _ hs)) k h1 hk1
          · by_cases hk2 : k = p + clenX x
            · subst hk2
              unfold Rt
              rw [getD_of c2]
              exact switch_right h0 (by omega) hr1.1 hr1.2 (by omega) (fun j j1 j2 => (hb.1 j (by omega) (by omega)).2)
            · by_cases hk3 : k < p + clenX x + 1 + r.length
              · exact (hb.1 k (by omega) (by omega)).1
              · exact hb.2 k (by omega) (by omega)
      · unfold CodeX at hc
        rw [if_neg h11, if_neg h9] at hc
        rw [clen_node h9] at hl h2
        have hrp : ∀ y ∈ l, flatX caps (cloV fl) loc y = true ∧ locX loc y ≤ L := fun y hy => by
          obtain ⟨i, hi, rfl⟩ := List.mem_iff_getElem.1 hy
          have a1 := hfp i hi
          have a2 := hpart i hi
          rw [show l.getD i default = l[i] by simp [List.getD, hi], lo_plain h11 h9] at a1 a2
          exact ⟨a1, a2⟩
        have hL2 := loc_ge (.mk op n s lv l) loc
        by_cases hk1 : k < p + clenL l
        · have hts : ∀ t ∈ textsL l, 0 ≤ T t ∧ T t < nt := by
            by_cases h3 : op = 3
            · subst h3
              have := (form_3 hfm).1
              simp at this
              rw [this.1, clenL_nil] at hk1
              omega
            · rw [textsX_mk, if_neg h3] at ht; exact ht
          exact right_S loc l p ih hrp hc.1 (by omega) h0 hts k h1 hk1
        · have hk2 : k = p + clenL l := by omega
          subst hk2
          unfold Rt
          rw [getD_of hc.2]
          exact last_right hfs hfc hfm h9 h11 (by omega) (fun e => by subst e; rw [textsX_mk, if_pos rfl] at ht; exact ht s (by simp))
end
theorem texts_in {fl : List FlatD} {f : FlatD} (hf : f ∈ fl) {s : ByteArray} (hs : s ∈ textsX f.body) : s ∈ allT fl := by
  unfold allT
  have : ∀ l : List FlatD, f ∈ l → s ∈ textsL (l.map FlatD.body) := fun l => by
    induction l with
    | nil => intro h; cases h
    | cons x r ih =>
      intro h
      rw [List.map_cons, textsL_cons]
      rcases List.mem_cons.1 h with rfl | h
      · exact List.mem_append_left _ hs
      · exact List.mem_append_right _ (ih h)
  exact this fl hf
/-- The program that is made is valid. -/
theorem prog_valid {fl : List FlatD} {main : Int} {funs : List FunD} (hv : validF fl main = true) (hsz : ∀ f ∈ fl, sizeX f.body ≤ 600 ∧ heightX f.body ≤ 211) (hq : (allT fl).any notQ = false) (hlen : (dedup (allT fl)).length ≤ 1000) (hl : funs.length = fl.length) (hf : ∀ i, i < fl.length → FunOf (dedup (allT fl)) (fl.getD i default) (funs.getD i default)) : validB ⟨funs, dedup (allT fl), main⟩ = true := by
  obtain ⟨hl4, hl0, hm0, hm1, hcm, hfun⟩ := valid_all hv
  have each : ∀ g ∈ funs, ∃ f ∈ fl, FunOf (dedup (allT fl)) f g := fun g hg => by
    obtain ⟨i, hi, rfl⟩ := List.mem_iff_getElem.1 hg
    have := hf i (by omega)
    rw [show funs.getD i default = funs[i] by simp [List.getD, hi]] at this
    exact ⟨_, getD_mem default fl i (by omega), this⟩
  have hcs : ∀ i, i < fl.length → (funs.getD i default).c = (fl.getD i default).caps := fun i hi => (hf i hi).1
  refine valid_end _ (by show inB ((funs.length : Nat) : Int) 1 4096 = true; unfold inB; simp; omega) hlen (by show (dedup (allT fl)).any notQ = false; rw [dedup_any]; exact hq) ?_ ?_ ?_
  · rw [List.any_eq_false]
    intro g hg
    obtain ⟨f, hff, h1, h2, h3, h4⟩ := each g hg
    obtain ⟨s1, s2⟩ := hsz f hff
    have hfb := hfun f hff
    have hca := fun_caps hfb
    have hfx : flatX f.caps (cloV fl) 1 f.body = true := by unfold funB at hfb; rw [Bool.and_eq_true] at hfb; exact hfb.2
    obtain ⟨_, d0, d1⟩ := code_depth hfx h3 h4
    have lg := loc_ge f.body 1
    have ll := loc_le f.body 1
    have hcl := clen_le f.body
    have hcode := h3.2.1
    unfold badHead
    rw [show headB g = true from by
      unfold headB inB
      rw [h1, h2]
      simp
      omega]
    simp
  · rw [List.any_eq_false]
    intro g hg
    obtain ⟨f, hff, h1, h2, h3, h4⟩ := each g hg
    have hfb := hfun f hff
    have hfx : flatX f.caps (cloV fl) 1 f.body = true := by unfold funB at hfb; rw [Bool.and_eq_true] at hfb; exact hfb.2
    have hcode := h3.2.1
    unfold badRights
    rw [show rightsB ⟨funs, dedup (allT fl), main⟩ g = true from by
      unfold rightsB
      rw [List.all_eq_true]
      intro k hk
      rw [List.mem_range] at hk
      rw [rightB_eq]
      by_cases hkl : k < clenX f.body
      · have := right_all (C := g.code) (T := textT (dedup (allT fl))) (nt := (dedup (allT fl)).length) (fl := fl) (fs := funs) (caps := g.c) (L := g.l) hl hcs f.body 1 0 (by rw [h1]; exact hfx) h3.1 (by omega) (by omega) (by rw [h2]; exact Int.le_refl _) (fun s hs => textT_lt (mem_dedup (texts_in hff hs))) k (Nat.zero_le _) (by omega)
        exact this
      · have hk2 : k = clenX f.body := by omega
        subst hk2
        rw [getD_of h3.2.2]
        rfl]
    simp
  · show mainB ⟨funs, dedup (allT fl), main⟩ = true
    unfold mainB
    have h1 : inB main 0 ((funs.length : Int) - 1) = true := by unfold inB; simp; omega
    have h2 : (funs.getD main.toNat default).c = 0 := by rw [hcs _ (by omega)]; exact hcm
    simp only
    rw [h1, h2]; rfl
end Go.Proofs.YtidolpcbbbakmaaGreat
namespace Go.Proofs.YtidolpcbbbakmaaGreat
open Go Go.RowKit
def rowV (op n : Int) (s : ByteArray) (l : Value) : Array Value := #[.int .i64 op, .int .i64 n, .string s, .slice none 0 0, l]
theorem infoV : (Tryz.prog.info? 48).map (·.size) = some 5 := by kernel_rfl
theorem observe15_flat (op n left depth : Int) (s : ByteArray) (w : World) (h7 : op ≠ 7) (hl : 0 < left) (hl2 : left ≤ 20000) (hd : 0 < depth) (hd2 : depth ≤ 400) :
    Calls Tryz.prog 94 #[.agg (row15 op n s (.slice none 0 0)), .int .i64 left, .int .i64 depth] w fun e w' => e = .returned (.tuple #[.agg (rowV op n s (.slice none 0 0)), .int .i64 (left - 1)]) ∧ w.grownBy w' none := by
  have g0 := grown_alloc w (.cells (row15 op n s (.slice none 0 0)) 149)
  have n0 := heap_alloc_new w (.cells (row15 op n s (.slice none 0 0)) 149)
  have e0 : (w.alloc (.cells (row15 op n s (.slice none 0 0)) 149)).heap.size = w.heap.size + 1 := by simp
  have w1 : IntKind.i64.wrap (left - 1) = left - 1 := wrap_ok _ (by omega) (by omega)
  go_enter Tryz.func94, Tryz.ntmps94
  go_upto_region 1 with fail
  change Code.wp _ _ _ _ ((w.alloc (.cells (row15 op n s (.slice none 0 0)) 149)).alloc (.cells (rowV 0 0 ⟨#[]⟩ (.slice none 0 0)) 48))
  generalize w.alloc (.cells (row15 op n s (.slice none 0 0)) 149) = W at *
  have g1 := grown_alloc W (.cells (rowV 0 0 ⟨#[]⟩ (.slice none 0 0)) 48)
  have n1 := heap_alloc_at e0 (.cells (rowV 0 0 ⟨#[]⟩ (.slice none 0 0)) 48)
  have e1 : (W.alloc (.cells (rowV 0 0 ⟨#[]⟩ (.slice none 0 0)) 48)).heap.size = w.heap.size + 1 + 1 := by simp [e0]
  generalize W.alloc (.cells (rowV 0 0 ⟨#[]⟩ (.slice none 0 0)) 48) = A at *
  have n2 := (g1.block _ (heap_lt n0) (by nofun)).trans n0
  have c0 := (cell_of_row _ _ 0 _ _ _ n2).trans (show _ = some (Value.int .i64 op) from rfl)
  have c1 := (cell_of_row _ _ 1 _ _ _ n2).trans (show _ = some (Value.int .i64 n) from rfl)
  have c2 := (cell_of_row _ _ 2 _ _ _ n2).trans (show _ = some (Value.string s) from rfl)
  have c3 := (cell_of_row _ _ 3 _ _ _ n2).trans (show _ = some (Value.slice none 0 0) from rfl)
  have c4 := (cell_of_row _ _ 4 _ _ _ n2).trans (show _ = some (Value.slice none 0 0) from rfl)
  have gg := both g0 g1
  go_wp2_with fail
  refine wp_loop_rounds 1 ?_
  rw [rounds_succ]
  go_wp2_with (refine wpList_store_row rfl 48 _ _ rfl (w.heap.size + 1) (rowV op n s (.slice none 0 0)) rfl rfl 48 _ (((grown_alloc A _).block _ (heap_lt n1) (by nofun)).trans n1) infoV rfl (all_one _ rfl) ?_)
  have ga := both gg (grown_alloc A (.cells (rowV op n s (.slice none 0 0)) 48))
  have q2 := setRow_heap _ _ _ (rowV op n s (.slice none 0 0)) _ _ (((grown_alloc A (.cells (rowV op n s (.slice none 0 0)) 48)).block _ (heap_lt n1) (by nofun)).trans n1)
  exact bodyPost_ret (results_row_tmp rfl _ _ (w.heap.size + 1) 48 _ (0, 0) _ rfl q2 Tryz.underlying48 infoV) rfl ⟨rfl, grown_setRow ga (by omega) _⟩
theorem info_val : (Tryz.prog.info? 48).map (fun i => (i.zero, i.size, i.bytes)) = some (some (.agg #[.int .i64 0, .int .i64 0, .string ⟨#[]⟩, .slice none 0 0, .slice none 0 0]), 5, 80) := by kernel_rfl
theorem parts_info {o : Option TypeInfo} {z : Value} {s b : Nat} (h : o.map (fun i => (i.zero, i.size, i.bytes)) = some (some z, s, b)) : ∃ i, o = some i ∧ i.zero = some z ∧ i.size = s ∧ i.bytes = b := by
  cases o with
  | none => simp at h
  | some i => simp at h; exact ⟨i, rfl, h.1, h.2.1, h.2.2⟩
theorem grown_new {a b c : World} {k : Nat} (h : a.grownBy b none) (g : b.grownBy c (some k)) (hk : a.heap.size ≤ k) : a.grownBy c none :=
  ⟨g.os.trans h.os, g.tape.trans h.tape, g.output.trans h.output, Nat.le_trans h.size g.size, fun q hq _ => (g.block q (Nat.lt_of_lt_of_le hq h.size) (fun e => by have := Option.some.inj e; omega)).trans (h.block q hq (by nofun))⟩
set_option maxRecDepth 100000 in
set_option maxHeartbeats 2000000 in
theorem observe15_one (op n left depth l2 op' n' : Int) (s s' : ByteArray) (lv : Value) (cb : Nat) (ch : Array Value) (w : World) (h7 : op ≠ 7) (hl : 0 < left) (hl2 : left ≤ 20000) (hd : 0 < depth) (hd2 : depth ≤ 400)
    (hcb : w.heap[cb]? = some (.cells ch 149 (0, 0))) (hch : ch.size = 25) (hll : 0 ≤ l2)
    (HC : ∀ wx, w.grownBy wx none → Calls Tryz.prog 94 #[.agg ch, .int .i64 (left - 1), .int .i64 (depth - 1)] wx fun e w' => (∃ al ll cl, e = .returned (.tuple #[.agg #[.int .i64 op', .int .i64 n', .string s', .slice none 0 0, .slice al ll cl], .int .i64 l2])) ∧ wx.grownBy w' none) :
    Calls Tryz.prog 94 #[.agg (row15 op n s (.slice (some ⟨cb, 0, none⟩) 1 1)), .int .i64 left, .int .i64 depth] w fun e w' => ∃ q c, e = .returned (.tuple #[.agg (rowV op n s (.slice (some ⟨q, 0, none⟩) 1 c)), .int .i64 l2]) ∧ w.grownBy w' none ∧ w'.cell? ⟨q, 2, none⟩ = some (.string s') ∧ w.heap.size ≤ q := by
  have HC' := Lib.hid HC
  clear HC
  have g0 := grown_alloc w (.cells (row15 op n s (.slice (some ⟨cb, 0, none⟩) 1 1)) 149)
  have n0 := heap_alloc_new w (.cells (row15 op n s (.slice (some ⟨cb, 0, none⟩) 1 1)) 149)
  have e0 : (w.alloc (.cells (row15 op n s (.slice (some ⟨cb, 0, none⟩) 1 1)) 149)).heap.size = w.heap.size + 1 := by simp
  have w1 : IntKind.i64.wrap (left - 1) = left - 1 := wrap_ok _ (by omega) (by omega)
  have w2 : IntKind.i64.wrap (depth - 1) = depth - 1 := wrap_ok _ (by omega) (by omega)
  obtain ⟨ii0, hii, hiz0, hiz1, hiz2⟩ := parts_info info_val
  go_enter Tryz.func94, Tryz.ntmps94
  go_upto_region 1 with fail
  change Code.wp _ _ _ _ ((w.alloc (.cells (row15 op n s (.slice (some ⟨cb, 0, none⟩) 1 1)) 149)).alloc (.cells (rowV 0 0 ⟨#[]⟩ (.slice none 0 0)) 48))
  generalize w.alloc (.cells (row15 op n s (.slice (some ⟨cb, 0, none⟩) 1 1)) 149) = W at *
  have g1 := grown_alloc W (.cells (rowV 0 0 ⟨#[]⟩ (.slice none 0 0)) 48)
  have n1 := heap_alloc_at e0 (.cells (rowV 0 0 ⟨#[]⟩ (.slice none 0 0)) 48)
  have e1 : (W.alloc (.cells (rowV 0 0 ⟨#[]⟩ (.slice none 0 0)) 48)).heap.size = w.heap.size + 1 + 1 := by simp [e0]
  generalize W.alloc (.cells (rowV 0 0 ⟨#[]⟩ (.slice none 0 0)) 48) = A at *
  have n2 := (g1.block _ (heap_lt n0) (by nofun)).trans n0
  have c0 := (cell_of_row _ _ 0 _ _ _ n2).trans (show _ = some (Value.int .i64 op) from rfl)
  have c1 := (cell_of_row _ _ 1 _ _ _ n2).trans (show _ = some (Value.int .i64 n) from rfl)
  have c2 := (cell_of_row _ _ 2 _ _ _ n2).trans (show _ = some (Value.string s) from rfl)
  have c3 := (cell_of_row _ _ 3 _ _ _ n2).trans (show _ = some (Value.slice none 0 0) from rfl)
  have c4 := (cell_of_row _ _ 4 _ _ _ n2).trans (show _ = some (Value.slice (some ⟨cb, 0, none⟩) 1 1) from rfl)
  have gg := both g0 g1
  have k1 := (gg.block _ (heap_lt hcb) (by nofun)).trans hcb
  go_upto_region 7 with fail
  have n3 := heap_alloc_at e1 (.cells (rowV op n s (.slice none 0 0)) 48)
  have e3 : (A.alloc (.cells (rowV op n s (.slice none 0 0)) 48)).heap.size = w.heap.size + 1 + 1 + 1 := by simp [e1]
  have g3 := grown_alloc A (.cells (rowV op n s (.slice none 0 0)) 48)
  change Code.wp _ _ _ _ (A.alloc (.cells (rowV op n s (.slice none 0 0)) 48))
  generalize A.alloc (.cells (rowV op n s (.slice none 0 0)) 48) = B at *
  have d4 := (cell_of_row _ _ 4 _ _ _ ((g3.block _ (heap_lt n2) (by nofun)).trans n2)).trans (show _ = some (Value.slice (some ⟨cb, 0, none⟩) 1 1) from rfl)
  have k3 := (g3.block _ (heap_lt k1) (by nofun)).trans k1
  have n13 := (g3.block _ (heap_lt n1) (by nofun)).trans n1
  have n23 := (g3.block _ (heap_lt n2) (by nofun)).trans n2
  have hi : (Tryz.prog.info? 149).map (·.size) = some ch.size := by rw [hch]; exact info15
  clear c0 c1 c2 c3 c4 n0 k1
  go_wp2_with fail
  refine wp_loop_rounds 2 ?_
  rw [rounds_succ]
  go_upto_region 11 with (first
    | (refine wpList_load_row rfl 149 _ rfl cb rfl 149 ch (0, 0) _ k3 Tryz.underlying149 rfl hi ?_)
    | (go_at_call 94; refine (HC'.out _ (both gg g3)).mono ?_; rintro e w4 ⟨⟨al, ll, cl, rfl⟩, g4⟩; clear d4))
  have n5 := heap_alloc_new w4 (.cells #[.int .i64 op', .int .i64 n', .string s', .slice none 0 0, .slice al ll cl] 48)
  have g5 := both g4 (grown_alloc w4 (.cells #[.int .i64 op', .int .i64 n', .string s', .slice none 0 0, .slice al ll cl] 48))
  have z5 := (heap_lt n3)
  have z6 := g4.size
  generalize w4.alloc (.cells #[.int .i64 op', .int .i64 n', .string s', .slice none 0 0, .slice al ll cl] 48) = D at *
  have m1 := (g5.block _ (heap_lt n13) (by nofun)).trans n13
  have m2 := (g5.block _ (heap_lt n23) (by nofun)).trans n23
  have m3 := (g5.block _ (heap_lt n3) (by nofun)).trans n3
  obtain ⟨q0, q1, q2, q3, q4⟩ := val_cells n5
  have p1 := (cell_of_row _ _ 4 _ _ _ m2).trans (show _ = some (Value.slice (some ⟨cb, 0, none⟩) 1 1) from rfl)
  have p4 := (cell_of_row _ _ 4 _ _ _ m3).trans (show _ = some (Value.slice none 0 0) from rfl)
  have p5 := Lib.frozen_of_heap m3 4
  have gD := both (both gg g3) g5
  have sD := heap_lt n5
  clear n23 n13 n3 g5 g4 z6 HC' k3 hi
  go_upto_region 13 with fail
  go_wp2_with (at_builtin; refine wpList_append_lies _ rfl _ _ 46 rfl D.heap.size 48 ii0 (.agg #[.int .i64 0, .int .i64 0, .string ⟨#[]⟩, .slice none 0 0, .slice none 0 0]) 5 80 Tryz.underlying46 hii hiz0 hiz1 hiz2 rfl (by decide) (.slice none 0 0) 0 [] rfl ⟨rfl, .inl ⟨rfl, rfl⟩⟩ ⟨D.heap.size, 0, none⟩ 1 1 [.int .i64 op', .int .i64 n', .string s', .slice none 0 0, .slice al ll cl] rfl rfl ?c1 ?c2 (by decide) ?c3 ?c4 ?c5 _ rfl ?_)
  case c1 => exact World.news_of_block (cs := #[.int .i64 op', .int .i64 n', .string s', .slice none 0 0, .slice al ll cl]) (new_heap D _)
  case c2 => intro u hu; simp at hu; rcases hu with rfl | rfl | rfl | rfl | rfl <;> rfl
  case c3 => unfold maxLen; omega
  case c4 => omega
  case c5 => simp
  intro g cap w6 hown6 hgrow6 hat6 hlt6
  have g6 := both (grown_alloc D _) hgrow6
  have r1 := (g6.block _ (heap_lt m1) (by nofun)).trans m1
  have r2 := (g6.block _ (heap_lt m2) (by nofun)).trans m2
  have r3 := (g6.block _ (heap_lt m3) (by nofun)).trans m3
  have x1 := (cell_of_row _ _ 4 _ _ _ r2).trans (show _ = some (Value.slice (some ⟨cb, 0, none⟩) 1 1) from rfl)
  have x4 := (cell_of_row _ _ 4 _ _ _ r3).trans (show _ = some (Value.slice none 0 0) from rfl)
  have x5 := Lib.frozen_of_heap r3 4
  clear p1 p4 p5 q0 q1 q2 q3 q4
  go_wp2_with fail
  have hgD := (owns_lt hown6 g rfl).1
  have zz := heap_lt m3
  have hcg := (owns_cell (i := 2) hown6 rfl).1
  have gs := grown_set w6 (w.heap.size + 1 + 1) 4 (.slice (some ⟨g, 0, none⟩) 1 cap)
  have t8 : (w6.setCell ⟨w.heap.size + 1 + 1, 4, none⟩ (.slice (some ⟨g, 0, none⟩) 1 cap)).heap[w.heap.size + 1 + 1]? = some (.cells (rowV op n s (.slice (some ⟨g, 0, none⟩) 1 cap)) 48 (0, 0)) := heap_set_same (i := 4) r3 (.slice (some ⟨g, 0, none⟩) 1 cap)
  have t1 := (gs.block _ (heap_lt r1) (fun e => by have := Option.some.inj e; omega)).trans r1
  have t2 := (gs.block _ (heap_lt r2) (fun e => by have := Option.some.inj e; omega)).trans r2
  have tg : (w6.setCell ⟨w.heap.size + 1 + 1, 4, none⟩ (.slice (some ⟨g, 0, none⟩) 1 cap)).heap[g]? = w6.heap[g]? := gs.block _ hlt6 (fun e => by have := Option.some.inj e; omega)
  have y1 := (cell_of_row _ _ 4 _ _ _ t2).trans (show _ = some (Value.slice (some ⟨cb, 0, none⟩) 1 1) from rfl)
  clear x1 x4 x5
  rw [rounds_succ]
  go_wp2_with (first
    | (refine wpList_load_row rfl 48 _ rfl (w.heap.size + 1 + 1) rfl 48 _ (0, 0) _ t8 Tryz.underlying48 rfl infoV ?_)
    | (refine wpList_store_row rfl 48 _ _ rfl (w.heap.size + 1) (rowV op n s (.slice (some ⟨g, 0, none⟩) 1 cap)) rfl rfl 48 _ t1 infoV rfl (all_one _ rfl) ?_))
  have gE := grown_setRow (grown_new (both gD g6) gs (by omega)) (Nat.le_succ _) (rowV op n s (.slice (some ⟨g, 0, none⟩) 1 cap))
  have q2 := setRow_heap _ _ _ (rowV op n s (.slice (some ⟨g, 0, none⟩) 1 cap)) _ _ t1
  refine bodyPost_ret (results_row_tmp rfl _ _ (w.heap.size + 1) 48 _ (0, 0) _ rfl q2 Tryz.underlying48 infoV) rfl ⟨g, cap, rfl, gE, ?_, by omega⟩
  rw [cell_setRow_other _ _ _ _ (show g ≠ w.heap.size + 1 by omega), ← hcg]
  unfold World.cell?
  rw [tg]
end Go.Proofs.YtidolpcbbbakmaaGreat
