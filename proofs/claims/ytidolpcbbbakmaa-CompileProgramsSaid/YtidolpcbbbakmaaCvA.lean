/- Plain law: the program that is made is a valid one. The walk of CompilePrograms. -/
import Derived.Test.YtidolpcbbbakmaaCuC
import Derived.Test.YtidolpcbbbakmaaDp4
import Derived.Test.YtidolpcbbbakmaaAw8
namespace Go.Proofs.Ytidolpcbbbakmaa
open Go Go.RowKit
open Go.Maps

theorem add_mem {acc : List ByteArray} {s x : ByteArray} (h : s ∈ acc) : s ∈ addT acc x := by
  unfold addT; split
  · exact h
  · exact List.mem_append_left _ h
theorem add_self (acc : List ByteArray) (x : ByteArray) : x ∈ addT acc x := by
  unfold addT
  split
  · rename_i h
    cases hf : findT acc x with
    | none => rw [hf] at h; cases h
    | some i =>
      obtain ⟨h1, h2, _⟩ := findT_some hf
      rw [← h2, show acc.getD i default = acc[i] by simp [List.getD, h1]]; exact List.getElem_mem h1
  · exact List.mem_append_right _ (by simp)
theorem mem_dedup {l : List ByteArray} {s : ByteArray} (h : s ∈ l) : s ∈ dedup l := by
  have : ∀ (l acc : List ByteArray), s ∈ acc ∨ s ∈ l → s ∈ l.foldl addT acc := fun l => by
    induction l with
    | nil => intro acc h; rcases h with h | h; exact h; cases h
    | cons x r ih =>
      intro acc h
      rw [List.foldl_cons]
      rcases h with h | h
      · exact ih _ (.inl (add_mem h))
      · rcases List.mem_cons.1 h with rfl | h
        · exact ih _ (.inl (add_self acc _))
        · exact ih _ (.inr h)
  exact this l [] (.inr h)
theorem dedup_any (l : List ByteArray) (p : ByteArray → Bool) : (dedup l).any p = l.any p := by
  rw [Bool.eq_iff_iff, List.any_eq_true, List.any_eq_true]
  exact ⟨fun ⟨s, hs, hp⟩ => ⟨s, dedup_mem hs, hp⟩, fun ⟨s, hs, hp⟩ => ⟨s, mem_dedup hs, hp⟩⟩
theorem textT_lt {ts : List ByteArray} {s : ByteArray} (h : s ∈ ts) : 0 ≤ textT ts s ∧ textT ts s < ts.length := by
  unfold textT
  cases hf : findT ts s with
  | none => exact absurd h (findT_none.1 hf)
  | some i => have := (findT_some hf).1; simp; omega
theorem locL_part : ∀ (l : List ExpD) (m a b : Int) (i : Nat), i < l.length → locX (if 0 < i then b else a) (l.getD i default) ≤ locL m a b l
  | [], _, _, _, _, h => by simp at h
  | x :: r, m, a, b, 0, _ => by
    rw [locL_cons]
    have := locL_ge r (max m (locX a x)) b b
    have h : locX (if 0 < 0 then b else a) ((x :: r).getD 0 default) = locX a x := rfl
    rw [h]; omega
  | x :: r, m, a, b, i + 1, h => by
    rw [locL_cons]
    have := locL_part r (max m (locX a x)) b b i (by simpa using h)
    have h2 : locX (if 0 < i + 1 then b else a) ((x :: r).getD (i + 1) default) = locX (if 0 < i then b else b) (r.getD i default) := by
      rw [if_pos (by omega)]; simp
    rw [h2]; exact this
theorem loc_part (loc op n : Int) (s : ByteArray) (v : Value) (l : List ExpD) (i : Nat) (h : i < l.length) : locX (lo op loc i) (l.getD i default) ≤ locX loc (.mk op n s v l) := by
  rw [locX_mk]
  exact locL_part l _ _ _ i h
section
variable {C : List Ins} {T : ByteArray → Int} {nt : Nat} {fl : List FlatD} {fs : List FunD} {caps L : Int}
/-- The instruction at this place is right. -/
def Rt (nt : Nat) (fs : List FunD) (caps L : Int) (C : List Ins) (k : Nat) : Prop := rightI nt fs caps L C k (C.getD k default) = true
def RtAll (C : List Ins) (T : ByteArray → Int) (nt : Nat) (fl : List FlatD) (fs : List FunD) (caps L : Int) (x : ExpD) : Prop :=
  ∀ (loc : Int) (p : Nat), flatX caps (cloV fl) loc x = true → CodeX C T loc x p → p + clenX x < C.length → 0 ≤ loc → locX loc x ≤ L → (∀ s ∈ textsX x, 0 ≤ T s ∧ T s < nt) → ∀ k, p ≤ k → k < p + clenX x → Rt nt fs caps L C k
theorem right_S (loc : Int) : ∀ (l : List ExpD) (p : Nat), (∀ y ∈ l, RtAll C T nt fl fs caps L y) → (∀ y ∈ l, flatX caps (cloV fl) loc y = true ∧ locX loc y ≤ L) → CodeS C T loc l p → p + clenL l < C.length → 0 ≤ loc → (∀ s ∈ textsL l, 0 ≤ T s ∧ T s < nt) → ∀ k, p ≤ k → k < p + clenL l → Rt nt fs caps L C k
  | [], p, _, _, _, _, _, _, k, h1, h2 => by rw [clenL_nil] at h2; omega
  | x :: r, p, ih, hf, hc, hl, h0, ht, k, h1, h2 => by
    rw [codeS_cons] at hc
    rw [clenL_cons] at hl h2
    rw [textsL_cons] at ht
    by_cases hk : k < p + clenX x
    · exact ih x (by simp) loc p (hf x (by simp)).1 hc.1 (by omega) h0 (hf x (by simp)).2 (fun s hs => ht s (List.mem_append_left _ hs)) k h1 hk
    · exact right_S loc r _ (fun y hy => ih y (by simp [hy])) (fun y hy => hf y (by simp [hy])) hc.2 (by omega) h0 (fun s hs => ht s (List.mem_append_right _ hs)) k (by omega) (by omega)
theorem rt_jump {k p : Nat} (h : C[k]? = some ⟨14, (p : Int), 0⟩) (hp : p < C.length) : Rt nt fs caps L C k := by
  unfold Rt
  rw [getD_of h]
  unfold rightI
  have h1 : inB (p : Int) 0 ((C.length : Int) - 1) = true := by unfold inB; simp; omega
  have h2 : knownB 14 = true := by decide
  simp [h2, opnds, h1]
theorem right_B (loc : Int) (e : Nat) (he : e < C.length) (h0 : 0 ≤ loc) : ∀ (l : List ExpD) (tab p : Nat), (∀ y ∈ l, RtAll C T nt fl fs caps L y) → (∀ y ∈ l, flatX caps (cloV fl) loc y = true ∧ locX loc y ≤ L) → CodeB C T loc l tab p e → p + clenL l + (l.length - 1) ≤ e → (∀ s ∈ textsL l, 0 ≤ T s ∧ T s < nt) →
    (∀ k, tab ≤ k → k < tab + l.length → Rt nt fs caps L C k ∧ (C.getD k default).op = 14) ∧ (∀ k, p ≤ k → k < p + clenL l + (l.length - 1) → Rt nt fs caps L C k)
  | [], tab, p, _, _, _, _, _ => ⟨fun k h1 h2 => by simp at h2; omega, fun k h1 h2 => by rw [clenL_nil] at h2; simp at h2; omega⟩
  | x :: r, tab, p, ih, hf, hc, hp, ht => by
    unfold CodeB at hc
    obtain ⟨c1, c2, c3, c4⟩ := hc
    rw [clenL_cons, List.length_cons] at hp
    rw [textsL_cons] at ht
    have hx := ih x (by simp) loc p (hf x (by simp)).1 c2 (by omega) h0 (hf x (by simp)).2 (fun s hs => ht s (List.mem_append_left _ hs))
    have htab : Rt nt fs caps L C tab ∧ (C.getD tab default).op = 14 := ⟨rt_jump c1 (by omega), by rw [getD_of c1]⟩
    by_cases hr : r = []
    · subst hr
      refine ⟨fun k h1 h2 => ?_, fun k h1 h2 => ?_⟩
      · have : k = tab := by simp at h2; omega
        subst this; exact htab
      · rw [clenL_cons, clenL_nil] at h2
        exact hx k h1 (by simp at h2; omega)
    · have hrl := List.length_pos_iff.2 hr
      obtain ⟨b1, b2⟩ := right_B loc e he h0 r (tab + 1) (p + clenX x + 1) (fun y hy => ih y (by simp [hy])) (fun y hy => hf y (by simp [hy])) c4 (by omega) (fun s hs => ht s (List.mem_append_right _ hs))
      refine ⟨fun k h1 h2 => ?_, fun k h1 h2 => ?_⟩
      · by_cases hk : k = tab
        · subst hk; exact htab
        · exact b1 k (by omega) (by rw [List.length_cons] at h2; omega)
      · rw [clenL_cons, List.length_cons] at h2
        by_cases hk : k < p + clenX x
        · exact hx k h1 hk
        · by_cases hk2 : k = p + clenX x
          · subst hk2; exact rt_jump (c3 hr) he
          · exact b2 k (by omega) (by omega)
theorem last_right {loc op n : Int} {s : ByteArray} {k m : Nat} (hfs : fs.length = fl.length) (hfc : ∀ i, i < fl.length → (fs.getD i default).c = (fl.getD i default).caps) (hf : formB caps (cloV fl) loc op n s k = true) (h9 : op ≠ 9) (h11 : op ≠ 11) (hL : loc ≤ L) (ht : op = 3 → 0 ≤ T s ∧ T s < nt) : rightI nt fs caps L C m (lastI T op n s k) = true := by
  have k1 : knownB 1 = true := by decide
  have k2 : knownB 2 = true := by decide
  have k3 : knownB 3 = true := by decide
  have k5 : knownB 5 = true := by decide
  have k6 : knownB 6 = true := by decide
  have k7 : knownB 7 = true := by decide
  have k8 : knownB 8 = true := by decide
  have k10 : knownB 10 = true := by decide
  have k11 : knownB 11 = true := by decide
  have k12 : knownB 12 = true := by decide
  have k15 : knownB 15 = true := by decide
  have k16 : knownB 16 = true := by decide
  rcases form_ops hf with rfl | rfl | rfl | rfl | rfl | rfl | rfl | rfl | rfl | rfl | rfl | rfl | rfl | rfl
  · have h := (form_2 hf).1
    simp at h
    show rightI nt fs caps L C m ⟨1, n, 0⟩ = true
    unfold rightI; simp [k1, opnds, h.2]
  · have h := ht rfl
    show rightI nt fs caps L C m ⟨2, T s, 0⟩ = true
    have h2 : inB (T s) 0 ((nt : Int) - 1) = true := by unfold inB; simp; omega
    unfold rightI; simp [k2, opnds, h2]
  · have h := (form_6 hf).1
    simp at h
    show rightI nt fs caps L C m ⟨10, k, 0⟩ = true
    have h2 : inB (k : Int) 0 1000 = true := by unfold inB; simp; omega
    unfold rightI; simp [k10, opnds, h2]
  · have h := (form_7 hf).1
    simp at h
    show rightI nt fs caps L C m ⟨11, n, 0⟩ = true
    unfold rightI; simp [k11, opnds, h.2]
  · have h := (form_8 hf).1
    simp at h
    show rightI nt fs caps L C m ⟨12, n, 0⟩ = true
    unfold rightI; simp [k12, opnds, h.2]
  · exact absurd rfl h9
  · exact absurd rfl h11
  · have h := (form_12 hf).1
    simp at h
    show rightI nt fs caps L C m ⟨15, n, 0⟩ = true
    unfold rightI; simp [k15, opnds, h.1]
  · have h := (form_13 hf).1
    simp at h
    show rightI nt fs caps L C m ⟨16, n, 0⟩ = true
    unfold rightI; simp [k16, opnds, h.2]
  · have h := (form_21 hf).1
    simp at h
    show rightI nt fs caps L C m ⟨3, n, 0⟩ = true
    have h2 : inB n 0 (L - 1) = true := by have := h.2; unfold inB at this ⊢; simp at this ⊢; omega
    unfold rightI; simp [k3, opnds, h2]
  · show rightI nt fs caps L C m ⟨6, 0, 0⟩ = true
    unfold rightI; simp [k6, opnds]
  · have h := (form_23 hf).1
    simp at h
    show rightI nt fs caps L C m ⟨5, n, 0⟩ = true
    unfold rightI; simp [k5, opnds, h.2]
  · have h := (form_24 hf).1
    rw [Bool.and_eq_true] at h
    have hc := h.2
    unfold cloV at hc
    rw [Bool.and_eq_true] at hc
    obtain ⟨hc1, hc2⟩ := hc
    show rightI nt fs caps L C m ⟨7, n, k⟩ = true
    have h1 : inB n 0 ((fs.length : Int) - 1) = true := by rw [hfs]; exact hc1
    have hn : n.toNat < fl.length := by unfold inB at hc1; simp at hc1; omega
    have h2 : (k : Int) = (fs.getD n.toNat default).c := by rw [hfc _ hn]; exact (of_decide_eq_true hc2).symm
    have h3 : decide ((k : Int) = (fs.getD n.toNat default).c) = true := decide_eq_true h2
    unfold rightI
    rw [if_neg (by rw [k7]; decide), if_neg (by simp [opnds]), if_neg (by simp), if_neg (by simp), if_neg (by simp), if_neg (by simp), if_pos rfl, h1, h3]; rfl
  · show rightI nt fs caps L C m ⟨8, 0, 0⟩ = true
    unfold rightI; simp [k8, opnds]
theorem store_right {loc : Int} {m : Nat} (h0 : 0 ≤ loc) (hL : loc + 1 ≤ L) : rightI nt fs caps L C m ⟨4, loc, 0⟩ = true := by
  have k4 : knownB 4 = true := by decide
  have h2 : inB loc 0 (L - 1) = true := by unfold inB; simp; omega
  unfold rightI; simp [k4, opnds, h2]
theorem switch_right {loc : Int} {m n : Nat} (h0 : 0 ≤ loc) (hL : loc + 1 ≤ L) (hn0 : 1 ≤ n) (hn1 : n ≤ 1000) (hm : m + n < C.length) (ht : ∀ k, m + 1 ≤ k → k < m + 1 + n → (C.getD k default).op = 14) : rightI nt fs caps L C m ⟨13, loc, n⟩ = true := by
  have k13 : knownB 13 = true := by decide
  have h1 : inB loc 0 (L - 1) = true := by unfold inB; simp; omega
  have h2 : inB (n : Int) 1 1000 = true := by unfold inB; simp; omega
  have h3 : decide ((m : Int) + (n : Int) < C.length) = true := decide_eq_true (by omega)
  have h4 : ((C.drop (m + 1)).take (n : Int).toNat).all (·.op == 14) = true := by
    rw [List.all_eq_true]
    intro i hi
    obtain ⟨j, hj, rfl⟩ := List.mem_iff_getElem.1 hi
    rw [List.length_take, List.length_drop] at hj
    have := ht (m + 1 + j) (by omega) (by omega)
    rw [show C.getD (m + 1 + j) default = C[m + 1 + j]'(by omega) by simp [List.getD, show m + 1 + j < C.length by omega]] at this
    rw [List.getElem_take, List.getElem_drop]
    simpa using this
  unfold rightI
  rw [if_neg (by rw [k13]; decide), if_neg (by simp [opnds]), if_neg (by simp), if_neg (by simp), if_neg (by simp), if_neg (by simp), if_neg (by simp), if_neg (by simp), if_neg (by simp), if_pos rfl, h1, h2, h3, h4]; rfl
set_option maxRecDepth 100000 in
theorem right_all (hfs : fs.length = fl.length) (hfc : ∀ i, i < fl.length → (fs.getD i default).c = (fl.getD i default).caps) (x : ExpD) : RtAll C T nt fl fs caps L x := by
  induction x using ExpD.induct with
  | h op n s lv l ih =>
    intro loc p hf hc hl h0 hL ht k h1 h2
    obtain ⟨hfm, hfp⟩ := flat_parts hf
    have hpart : ∀ i, i < l.length → locX (lo op loc i) (l.getD i default) ≤ L := fun i hi => by have := loc_part loc op n s lv l i hi; omega
    by_cases h11 : op = 11
    · subst h11
      have hk := form_let hfm
      match l, hk with
      | [x, y], _ =>
        unfold CodeX at hc
        rw [if_pos rfl] at hc
        unfold CodeLet at hc
        obtain ⟨c1, c2, c3⟩ := hc
        rw [codeS_cons] at c3
        rw [clen_let] at hl h2
        rw [textsX_mk, if_neg (by decide), textsL_cons, textsL_cons, textsL_nil, List.append_nil] at ht
        have hx := hpart 0 (by simp)
        have hy := hpart 1 (by simp)
        have fx := hfp 0 (by simp)
        have fy := hfp 1 (by simp)
        change locX (loc + 1) y ≤ L at hy
        change locX loc x ≤ L at hx
        change flatX caps (cloV fl) loc x = true at fx
        change flatX caps (cloV fl) (loc + 1) y = true at fy
        have hly := loc_ge y (loc + 1)
        by_cases hk1 : k < p + clenX x
        · exact ih x (by simp) loc p fx c1 (by omega) h0 hx (fun s hs => ht s (List.mem_append_left _ hs)) k h1 hk1
        · by_cases hk2 : k = p + clenX x
          · subst hk2
            unfold Rt
            rw [getD_of c2]
            exact store_right h0 (by omega)
          · exact ih y (by simp) (loc + 1) _ fy c3.1 (by omega) (by omega) hy (fun s hs => ht s (List.mem_append_right _ hs)) k (by omega) (by omega)
    · by_cases h9 : op = 9
      · subst h9
        cases l with
        | nil => have := (form_9 hfm).1; unfold inB at this; simp at this
        | cons x r =>
          have hn2 := (form_9 hfm).1
          unfold inB at hn2
          simp at hn2
          have hr1 : 1 ≤ r.length ∧ r.length ≤ 1000 := by omega
          unfold CodeX at hc
          rw [if_neg (by decide), if_pos rfl] at hc
          unfold CodeSw at hc
          obtain ⟨c1, c2, c3⟩ := hc
          rw [clenX_mk, if_pos rfl, clenL_cons, List.length_cons] at hl h2
          rw [textsX_mk, if_neg (by decide), textsL_cons] at ht
          have hx := hpart 0 (by simp)
          have fx := hfp 0 (by simp)
          change locX loc x ≤ L at hx
          change flatX caps (cloV fl) loc x = true at fx
          have hrp : ∀ y ∈ r, flatX caps (cloV fl) (loc + 1) y = true ∧ locX (loc + 1) y ≤ L := fun y hy => by
            obtain ⟨i, hi, rfl⟩ := List.mem_iff_getElem.1 hy
            have a1 := hfp (i + 1) (by simp; omega)
            have a2 := hpart (i + 1) (by simp; omega)
            rw [show (x :: r).getD (i + 1) default = r[i] by simp [List.getD, hi], show lo 9 loc (i + 1) = loc + 1 from by unfold lo bump; rw [if_pos (by omega), if_pos (by omega)]] at a1 a2
            exact ⟨a1, a2⟩
          have hb := right_B (loc + 1) (p + clenX x + clenL r + 2 * r.length) (by omega) (by omega) r _ _ (fun y hy => ih y (by simp [hy])) hrp c3 (by omega) (fun s hs => ht s (List.mem_append_right _ hs))
          obtain ⟨y0, hy0⟩ := List.exists_mem_of_length_pos (show 0 < r.length by omega)
          have hlY := loc_ge y0 (loc + 1)
          have hlY2 := (hrp y0 hy0).2
          by_cases hk1 : k < p + clenX x
          · exact ih x (by simp) loc p fx c1 (by omega) h0 hx (fun s hs => ht s (List.mem_append_left _ hs)) k h1 hk1
          · by_cases hk2 : k = p + clenX x
            · subst hk2
              unfold Rt
              rw [getD_of c2]
              exact switch_right h0 (by omega) hr1.1 hr1.2 (by omega) (fun j j1 j2 => (hb.1 j (by omega) (by omega)).2)
            · by_cases hk3 : k < p + clenX x + 1 + r.length
              · exact (hb.1 k (by omega) (by omega)).1
              · exact hb.2 k (by omega) (by omega)
      · unfold CodeX at hc
        rw [if_neg h11, if_neg h9] at hc
        rw [clen_node h9] at hl h2
        have hrp : ∀ y ∈ l, flatX caps (cloV fl) loc y = true ∧ locX loc y ≤ L := fun y hy => by
          obtain ⟨i, hi, rfl⟩ := List.mem_iff_getElem.1 hy
          have a1 := hfp i hi
          have a2 := hpart i hi
          rw [show l.getD i default = l[i] by simp [List.getD, hi], lo_plain h11 h9] at a1 a2
          exact ⟨a1, a2⟩
        have hL2 := loc_ge (.mk op n s lv l) loc
        by_cases hk1 : k < p + clenL l
        · have hts : ∀ t ∈ textsL l, 0 ≤ T t ∧ T t < nt := by
            by_cases h3 : op = 3
            · subst h3
              have := (form_3 hfm).1
              simp at this
              rw [this.1, clenL_nil] at hk1
              omega
            · rw [textsX_mk, if_neg h3] at ht; exact ht
          exact right_S loc l p ih hrp hc.1 (by omega) h0 hts k h1 hk1
        · have hk2 : k = p + clenL l := by omega
          subst hk2
          unfold Rt
          rw [getD_of hc.2]
          exact last_right hfs hfc hfm h9 h11 (by omega) (fun e => by subst e; rw [textsX_mk, if_pos rfl] at ht; exact ht s (by simp))
end
theorem texts_in {fl : List FlatD} {f : FlatD} (hf : f ∈ fl) {s : ByteArray} (hs : s ∈ textsX f.body) : s ∈ allT fl := by
  unfold allT
  have : ∀ l : List FlatD, f ∈ l → s ∈ textsL (l.map FlatD.body) := fun l => by
    induction l with
    | nil => intro h; cases h
    | cons x r ih =>
      intro h
      rw [List.map_cons, textsL_cons]
      rcases List.mem_cons.1 h with rfl | h
      · exact List.mem_append_left _ hs
      · exact List.mem_append_right _ (ih h)
  exact this fl hf
/-- The program that is made is valid. -/
theorem prog_valid {fl : List FlatD} {main : Int} {funs : List FunD} (hv : validF fl main = true) (hsz : ∀ f ∈ fl, sizeX f.body ≤ 600 ∧ heightX f.body ≤ 211) (hq : (allT fl).any notQ = false) (hlen : (dedup (allT fl)).length ≤ 1000) (hl : funs.length = fl.length) (hf : ∀ i, i < fl.length → FunOf (dedup (allT fl)) (fl.getD i default) (funs.getD i default)) : validB ⟨funs, dedup (allT fl), main⟩ = true := by
  obtain ⟨hl4, hl0, hm0, hm1, hcm, hfun⟩ := valid_all hv
  have each : ∀ g ∈ funs, ∃ f ∈ fl, FunOf (dedup (allT fl)) f g := fun g hg => by
    obtain ⟨i, hi, rfl⟩ := List.mem_iff_getElem.1 hg
    have := hf i (by omega)
    rw [show funs.getD i default = funs[i] by simp [List.getD, hi]] at this
    exact ⟨_, getD_mem default fl i (by omega), this⟩
  have hcs : ∀ i, i < fl.length → (funs.getD i default).c = (fl.getD i default).caps := fun i hi => (hf i hi).1
  refine valid_end _ (by show inB ((funs.length : Nat) : Int) 1 4096 = true; unfold inB; simp; omega) hlen (by show (dedup (allT fl)).any notQ = false; rw [dedup_any]; exact hq) ?_ ?_ ?_
  · rw [List.any_eq_false]
    intro g hg
    obtain ⟨f, hff, h1, h2, h3, h4⟩ := each g hg
    obtain ⟨s1, s2⟩ := hsz f hff
    have hfb := hfun f hff
    have hca := fun_caps hfb
    have hfx : flatX f.caps (cloV fl) 1 f.body = true := by unfold funB at hfb; rw [Bool.and_eq_true] at hfb; exact hfb.2
    obtain ⟨_, d0, d1⟩ := code_depth hfx h3 h4
    have lg := loc_ge f.body 1
    have ll := loc_le f.body 1
    have hcl := clen_le f.body
    have hcode := h3.2.1
    unfold badHead
    rw [show headB g = true from by
      unfold headB inB
      rw [h1, h2]
      simp
      omega]
    simp
  · rw [List.any_eq_false]
    intro g hg
    obtain ⟨f, hff, h1, h2, h3, h4⟩ := each g hg
    have hfb := hfun f hff
    have hfx : flatX f.caps (cloV fl) 1 f.body = true := by unfold funB at hfb; rw [Bool.and_eq_true] at hfb; exact hfb.2
    have hcode := h3.2.1
    unfold badRights
    rw [show rightsB ⟨funs, dedup (allT fl), main⟩ g = true from by
      unfold rightsB
      rw [List.all_eq_true]
      intro k hk
      rw [List.mem_range] at hk
      rw [rightB_eq]
      by_cases hkl : k < clenX f.body
      · have := right_all (C := g.code) (T := textT (dedup (allT fl))) (nt := (dedup (allT fl)).length) (fl := fl) (fs := funs) (caps := g.c) (L := g.l) hl hcs f.body 1 0 (by rw [h1]; exact hfx) h3.1 (by omega) (by omega) (by rw [h2]; exact Int.le_refl _) (fun s hs => textT_lt (mem_dedup (texts_in hff hs))) k (Nat.zero_le _) (by omega)
        exact this
      · have hk2 : k = clenX f.body := by omega
        subst hk2
        rw [getD_of h3.2.2]
        rfl]
    simp
  · show mainB ⟨funs, dedup (allT fl), main⟩ = true
    unfold mainB
    have h1 : inB main 0 ((funs.length : Int) - 1) = true := by unfold inB; simp; omega
    have h2 : (funs.getD main.toNat default).c = 0 := by rw [hcs _ (by omega)]; exact hcm
    simp only
    rw [h1, h2]; rfl
end Go.Proofs.Ytidolpcbbbakmaa
namespace Go.Proofs.Ytidolpcbbbakmaa
open Go Go.RowKit
open Go.Maps

set_option maxHeartbeats 8000000 in
set_option maxRecDepth 100000 in
theorem programs_walk (fv : Value) (main : Int) (fl : List FlatD) (w : World) (hF : IsFlats w.heap.size w fv fl) : Calls Try.prog 3 #[fv, .int .i64 main] w fun e w' => e = .returned (.bool true) ∧ Below w.heap.size w w' := by
  have HF := Lib.hid hF
  have hm' : fl.length ≤ 9223372036854775807 := by have := hF.2.1; unfold maxLen at this; omega
  obtain ⟨⟨fa, fc, rfl, hfc, _⟩, _⟩ := hF
  go_enter Try.func3, Try.ntmps3
  go_wp2_with fail
  refine (awake47_any w).mono ?_
  rintro e w2 ⟨rfl, hb2⟩
  have HB2 := Lib.hid hb2
  have HFI := Lib.hid (fits_any w.heap.size _ fl w2 (HF.out.under hb2) hb2.size)
  clear hb2
  go_wp2_with fail
  refine HFI.out.mono ?_
  rintro e w3 ⟨bf, rfl, hb3, hfit⟩
  have HB3 := Lib.hid (HB2.out.trans (hb3.mono HB2.out.size))
  clear hb3 HFI
  cases bf
  · go_wp2_with fail
    go_ret
    exact ⟨rfl, HB3.out⟩
  · have hfit := hfit rfl
    have HFIT := Lib.hid hfit
    have HP := Lib.hid (program_any w.heap.size _ fl main w3 (HF.out.under HB3.out) HB3.out.size hfit)
    clear hfit
    go_wp2_with fail
    refine HP.out.mono ?_
    rintro e w4 ⟨hb4, hcase⟩
    have HB4 := Lib.hid (HB3.out.trans (hb4.mono HB3.out.size))
    clear hb4 HP
    rcases hcase with ⟨hv, rfl⟩ | ⟨hv, hq, rfl⟩ | ⟨hv, hq, hlen, rfl⟩ | ⟨hv, hq, hlen, pv, tv, funs, rfl, hP, hfl, hfo⟩
    · have hfa : faultA fl main = 1 := by unfold faultA; rw [hv]; rfl
      have hbx := (Below.refl w4.heap.size w4).alloc (o := .cells #[.slice none 0 0, .slice none 0 0, .int .i64 0] 28) (Nat.le_refl _)
      have gP := new_heap w4 (.cells #[.slice none 0 0, .slice none 0 0, .int .i64 0] 28)
      have HB5 := Lib.hid (HB4.out.trans (hbx.mono HB4.out.size))
      have HFA := Lib.hid (faultall_any w.heap.size _ fl main (w4.alloc (.cells #[.slice none 0 0, .slice none 0 0, .int .i64 0] 28)) (HF.out.under HB5.out) HB5.out.size HFIT.out)
      rw [hfa] at HFA
      have HGP := Lib.hid gP
      clear hbx gP hfa
      go_wp2_with fail
      refine HFA.out.mono ?_
      rintro e w6 ⟨rfl, hb6⟩
      have HB6 := Lib.hid (HB5.out.trans (hb6.mono HB5.out.size))
      have gP6 := (hb6.block _ (heap_lt HGP.out)).trans HGP.out
      have p0 : w6.cell? ⟨w4.heap.size, 0, none⟩ = some (.slice none 0 0) := by simp [World.cell?, gP6]
      clear hb6 HFA gP6
      go_wp2_with fail
      go_ret
      exact ⟨rfl, HB6.out⟩
    · have hfa : faultA fl main = 3 := by unfold faultA faultT; rw [hv, if_pos rfl, dedup_any, hq]; rfl
      have hbx := (Below.refl w4.heap.size w4).alloc (o := .cells #[.slice none 0 0, .slice none 0 0, .int .i64 0] 28) (Nat.le_refl _)
      have gP := new_heap w4 (.cells #[.slice none 0 0, .slice none 0 0, .int .i64 0] 28)
      have HB5 := Lib.hid (HB4.out.trans (hbx.mono HB4.out.size))
      have HFA := Lib.hid (faultall_any w.heap.size _ fl main (w4.alloc (.cells #[.slice none 0 0, .slice none 0 0, .int .i64 0] 28)) (HF.out.under HB5.out) HB5.out.size HFIT.out)
      rw [hfa] at HFA
      have HGP := Lib.hid gP
      clear hbx gP hfa
      go_wp2_with fail
      refine HFA.out.mono ?_
      rintro e w6 ⟨rfl, hb6⟩
      have HB6 := Lib.hid (HB5.out.trans (hb6.mono HB5.out.size))
      have gP6 := (hb6.block _ (heap_lt HGP.out)).trans HGP.out
      have p0 : w6.cell? ⟨w4.heap.size, 0, none⟩ = some (.slice none 0 0) := by simp [World.cell?, gP6]
      clear hb6 HFA gP6
      go_wp2_with fail
      go_ret
      exact ⟨rfl, HB6.out⟩
    · have hfa : faultA fl main = 5 := by unfold faultA faultT; rw [hv, if_pos rfl, dedup_any, hq, if_neg (by decide), if_pos hlen]
      have hbx := (Below.refl w4.heap.size w4).alloc (o := .cells #[.slice none 0 0, .slice none 0 0, .int .i64 0] 28) (Nat.le_refl _)
      have gP := new_heap w4 (.cells #[.slice none 0 0, .slice none 0 0, .int .i64 0] 28)
      have HB5 := Lib.hid (HB4.out.trans (hbx.mono HB4.out.size))
      have HFA := Lib.hid (faultall_any w.heap.size _ fl main (w4.alloc (.cells #[.slice none 0 0, .slice none 0 0, .int .i64 0] 28)) (HF.out.under HB5.out) HB5.out.size HFIT.out)
      rw [hfa] at HFA
      have HGP := Lib.hid gP
      clear hbx gP hfa
      go_wp2_with fail
      refine HFA.out.mono ?_
      rintro e w6 ⟨rfl, hb6⟩
      have HB6 := Lib.hid (HB5.out.trans (hb6.mono HB5.out.size))
      have gP6 := (hb6.block _ (heap_lt HGP.out)).trans HGP.out
      have p0 : w6.cell? ⟨w4.heap.size, 0, none⟩ = some (.slice none 0 0) := by simp [World.cell?, gP6]
      clear hb6 HFA gP6
      go_wp2_with fail
      go_ret
      exact ⟨rfl, HB6.out⟩
    · have hfa : faultA fl main = 0 := by unfold faultA faultT; rw [hv, if_pos rfl, dedup_any, hq, if_neg (by decide), if_neg (by omega)]
      have hsz : ∀ f ∈ fl, sizeX f.body ≤ 600 ∧ heightX f.body ≤ 211 := fun f hf => ⟨by
        have h1 : sizeX f.body ≤ sizeL (fl.map FlatD.body) := sizeL_mem (List.mem_map_of_mem hf)
        have h2 := HFIT.out.2.1
        unfold sizeF at h2; omega, HFIT.out.2.2 f hf⟩
      have hpv := prog_valid hv hsz hq hlen hfl hfo
      obtain ⟨hl4, hl0, hm0, hm1, hcm, hfun⟩ := valid_all hv
      have HFUN := Lib.hid hfun
      have HPV := Lib.hid hpv
      have HFO := Lib.hid hfo
      have HSZ := Lib.hid hsz
      have HPR := Lib.hid hP
      have hfl60 := HFIT.out.1
      obtain ⟨⟨⟨pa, pc, rfl, hpc, _⟩, _⟩, ⟨ta, tc, rfl, htc, _⟩⟩ := hP
      obtain ⟨ts, hts⟩ : ∃ ts, dedup (allT fl) = ts := ⟨_, rfl⟩
      have HTS := Lib.hid hts
      have HND : Hid (NodupT ts) := hts ▸ nodup_dedup _
      rw [hts] at HPR HPV hlen htc HFO
      change ts.length ≤ tc at htc
      simp only [hts, hfl]
      rw [show (Value.slice pa ({ funs := funs, texts := ts, main := main } : ProgD).funs.length pc) = .slice pa fl.length pc from by show Value.slice pa funs.length pc = _; rw [hfl]] at HPR
      have hbx := (Below.refl w4.heap.size w4).alloc (o := .cells #[.slice pa fl.length pc, .slice ta ts.length tc, .int .i64 main] 28) (Nat.le_refl _)
      have gP := new_heap w4 (.cells #[.slice pa fl.length pc, .slice ta ts.length tc, .int .i64 main] 28)
      have HB5 := Lib.hid (HB4.out.trans (hbx.mono HB4.out.size))
      have HPR5 := Lib.hid (HPR.out.below hbx)
      have HFA := Lib.hid (faultall_any w.heap.size _ fl main (w4.alloc (.cells #[.slice pa fl.length pc, .slice ta ts.length tc, .int .i64 main] 28)) (HF.out.under HB5.out) HB5.out.size HFIT.out)
      rw [hfa] at HFA
      have HGP := Lib.hid gP
      clear hbx gP hfa hfun hpv hfo hsz hts hv hq HPR
      go_wp2_with fail
      refine HFA.out.mono ?_
      rintro e w6 ⟨rfl, hb6⟩
      have HB6 := Lib.hid (HB5.out.trans (hb6.mono HB5.out.size))
      have HPR6 := Lib.hid (HPR5.out.below hb6)
      have gP6 := (hb6.block _ (heap_lt HGP.out)).trans HGP.out
      have HGP6 := Lib.hid gP6
      have p0 : w6.cell? ⟨w4.heap.size, 0, none⟩ = some (.slice pa fl.length pc) := by simp only [World.cell?, gP6]; rfl
      have p1 : w6.cell? ⟨w4.heap.size, 1, none⟩ = some (.slice ta ts.length tc) := by simp only [World.cell?, gP6]; rfl
      have p2 : w6.cell? ⟨w4.heap.size, 2, none⟩ = some (.int .i64 main) := by simp only [World.cell?, gP6]; rfl
      have hp6 := heap_lt gP6
      clear hb6 HFA gP6
      have HVA := Lib.hid (rvalid_any _ _ ⟨funs, ts, main⟩ w6.drew (HPR6.out.below (Below.refl _ _).drew) (by show funs.length ≤ 1000000; omega) (by show ts.length ≤ 1000000; omega))
      unfold ValidOk at HVA
      rw [HPV.out] at HVA
      have HALL := Lib.hid (fun (w7 : World) (hb : Below w.heap.size w w7) => alltexts_any w.heap.size _ fl w7 (HF.out.under hb) hb.size HFUN.out HFIT.out.2.1)
      have HSA := Lib.hid (fun (w8 : World) (va vb : Value) (ha : IsTexts w8 va ts) (hb : IsTexts w8 vb ts) => same_any va vb ts w8 ha hb (by omega) HND.out)
      have HT6 : Hid (IsTexts w6 (.slice ta ts.length tc) ts) := HPR6.out.2
      go_upto_region 11 with fail
      go_region_held3 (fun w' => w'.cell? ⟨w4.heap.size, 0, none⟩ = some (.slice pa fl.length pc) ∧ w'.cell? ⟨w4.heap.size, 1, none⟩ = some (.slice ta ts.length tc) ∧ w'.cell? ⟨w4.heap.size, 2, none⟩ = some (.int .i64 main)) (first | exact ⟨z0, z1, z2⟩ | exact ⟨y0, y1, y2⟩ | exact ⟨x0, x1, x2⟩ | exact ⟨p0, p1, p2⟩)
        (first
          | (have guard9 := y0; clear guard9; go_at_call 11; refine (HSA.out w8 _ _ HT8.out hT8').mono ?_; rintro e w9 ⟨rfl, hb9'⟩; have hb9 := hb8.trans (hb9'.mono hb8.size); have z0 := (hb9.cell (p := ⟨w4.heap.size, 0, none⟩) hp6).trans p0; have z1 := (hb9.cell (p := ⟨w4.heap.size, 1, none⟩) hp6).trans p1; have z2 := (hb9.cell (p := ⟨w4.heap.size, 2, none⟩) hp6).trans p2)
          | (have guard9 := x0; clear guard9; go_at_call 12; refine (HALL.out w7 (HB6.out.trans (hb7.mono HB6.out.size))).mono ?_; rintro e w8 ⟨v8, rfl, hT8, hb8'⟩; have hb8 := hb7.trans (hb8'.mono hb7.size); have HT8 := Lib.hid (IsRow.below HT6.out hb8); have hT8' : IsTexts w8 v8 ts := HTS.out ▸ hT8.1; have y0 := (hb8.cell (p := ⟨w4.heap.size, 0, none⟩) hp6).trans p0; have y1 := (hb8.cell (p := ⟨w4.heap.size, 1, none⟩) hp6).trans p1; have y2 := (hb8.cell (p := ⟨w4.heap.size, 2, none⟩) hp6).trans p2)
          | (go_at_call 10; refine HVA.out.mono ?_; rintro e w7 ⟨rfl, hb7'⟩; have hb7 := (Below.refl w6.heap.size w6).drew.trans hb7'; have x0 := (hb7.cell (p := ⟨w4.heap.size, 0, none⟩) hp6).trans p0; have x1 := (hb7.cell (p := ⟨w4.heap.size, 1, none⟩) hp6).trans p1; have x2 := (hb7.cell (p := ⟨w4.heap.size, 2, none⟩) hp6).trans p2))
      all_goals
        have HB9 := Lib.hid (HB6.out.trans (hb9.mono HB6.out.size))
        have HPR9 := Lib.hid (HPR6.out.below hb9)
        have HR9 := Lib.hid (Below.refl w9.heap.size w9)
        clear hb7' hb7 hb8' hb8 hb9' hb9 hT8 hT8' x0 x1 x2 y0 y1 y2 p0 p1 p2 z1 z2
        go_wp2_with fail
        go_loopw [79] (fun i wr => ∃ k : Nat, k ≤ fl.length ∧ i = .int .i64 k ∧ Hid (Below w9.heap.size w9 wr)) (fun i _ => fl.length - (intOf i).toNat)
        case atStart => exact ⟨0, Nat.zero_le _, rfl, HR9⟩
        case round =>
          obtain ⟨k, hk, rfl, HBK⟩ := hrel
          clear z0
          have HBW := Lib.hid (HB9.out.trans (HBK.out.mono HB9.out.size))
          by_cases hkl : k < fl.length
          · have hPk := HPR9.out.below HBK.out
            obtain ⟨b, off, c', ha, _, hbw, c0, c1, c2, c3⟩ := hPk.1.at' k (by show k < funs.length; omega)
            rw [show ({ funs := funs, texts := ts, main := main } : ProgD).funs = funs from rfl] at c0 c1 c2 c3 ha
            obtain rfl : pa = some ⟨b, off, none⟩ := (Value.slice.inj ha).1
            have hmem := getD_mem default funs k (by omega)
            have hIC := hPk.1.2 _ hmem
            rw [show ({ funs := funs, texts := ts, main := main } : ProgD).funs.getD k default = funs.getD k default from rfl] at *
            obtain ⟨f1, f2, f3, f4⟩ := HFO.out k hkl
            have hFk := HF.out.under HBW.out
            obtain ⟨b2, off2, c2', ha2, _, _, d0, _⟩ := flats_at hFk.1 k hkl
            obtain rfl : fa = some ⟨b2, off2, none⟩ := (Value.slice.inj ha2).1
            have hsk := HSZ.out _ (getD_mem default fl k hkl)
            have hcl := clen_le (fl.getD k default).body
            have hcd := f3.2.1
            have hle : (funs.getD k default).code.length ≤ 20000 := by omega
            have hD0 := fun (w10 : World) (hb : Below w.heap.size w w10) => flats_at (HF.out.under hb).1 k hkl
            clear hmem ha ha2 f2 f3 hsk hcl hcd hPk hFk
            generalize fl.getD k default = f at *
            generalize funs.getD k default = g at *
            obtain ⟨gc, gl, gd, gv, gcode⟩ := g
            change gc = f.caps at f1
            subst f1
            change DepOk gcode gd 0 at f4
            have HIC := Lib.hid hIC
            obtain ⟨ca, cc, hv, _⟩ := hIC
            change gv = .slice ca gcode.length cc at hv
            subst hv
            have HF4 := Lib.hid f4
            have hbx := (Below.refl wr.heap.size wr).alloc (o := .cells #[.int .i64 f.caps, .int .i64 gl, .int .i64 gd, .slice ca gcode.length cc] 45) (Nat.le_refl _)
            have gX := new_heap wr (.cells #[.int .i64 f.caps, .int .i64 gl, .int .i64 gd, .slice ca gcode.length cc] 45)
            obtain ⟨e0, e1, e2, e3⟩ := fun_cells gX
            have HRD := Lib.hid (rdepth_any (.slice ca gcode.length cc) gcode (wr.alloc (.cells #[.int .i64 f.caps, .int .i64 gl, .int .i64 gd, .slice ca gcode.length cc] 45)) (IsRow.below HIC.out hbx) hle)
            have HGX := Lib.hid gX
            have HBX := Lib.hid hbx
            have HDD := Lib.hid hD0
            clear hbx gX hle f4 hD0
            go_wp2_with fail
            refine HRD.out.mono ?_
            rintro e w10 ⟨r, er, rfl, hdep, hb10⟩
            obtain ⟨rfl, rfl⟩ := dep_one _ _ _ _ _ HF4.out hdep
            have hbk := HBX.out.trans (hb10.mono HBX.out.size)
            have HBK2 := Lib.hid (HBK.out.trans (hbk.mono HBK.out.size))
            obtain ⟨b3, off3, c3', ha3, _, _, g0, _⟩ := HDD.out w10 (HB9.out.trans (HBK2.out.mono HB9.out.size))
            obtain ⟨rfl, rfl⟩ : b3 = b2 ∧ off3 = off2 := by
              have h1 := Option.some.inj (Value.slice.inj ha3).1
              injection h1 with h2 h3
              exact ⟨h2.symm, h3.symm⟩
            have gX10 := (hb10.block _ (heap_lt HGX.out)).trans HGX.out
            clear hdep hb10 hbk HRD ha3 e0 e1 e2 e3 c0 c1 c2 c3 d0
            obtain ⟨e0, e1, e2, e3⟩ := fun_cells gX10
            clear gX10
            go_wp2_with fail
            go_quiet (fail)
            have HBQ := Lib.hid (bdrewN HBK2.out nq)
            clear e0 e1 e2 e3 g0
            go_wp2_with fail
            go_roundw
            case rel => exact ⟨k + 1, by omega, by go_num, HBQ⟩
            case measure => simp [intOf]; omega
          · go_wp2_with fail
            go_ret
            exact ⟨rfl, HBW.out⟩
end Go.Proofs.Ytidolpcbbbakmaa
