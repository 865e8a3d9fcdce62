/- Locals: the number of local variables of a valid function. The writer in general: what is kept, emit. -/
import Derived.Test.YtidolpcbbbakmaaGreatM16
import Derived.Test.YtidolpcbbbakmaaGreatM13
import Derived.Maps.OwnSet
import Derived.StringKeys
namespace Go.Proofs.YtidolpcbbbakmaaGreat
open Go Go.RowKit
open Go.Maps

theorem keyed_int : Keyed Tryz.prog 3 := int_keyed Tryz.underlying3
theorem zero_int (w : World) : (zeroValue 3).run Tryz.prog w = .ok (.int .i64 0) w := by kernel_rfl
/-- What is known of the functions: each one that the map holds captures as many values as the list says. -/
def KnownJ (fl : List FlatD) (kb mb : Nat) (w : World) : Prop :=
  w.heap[kb]? = some (.cells #[.map (some mb)] 108 (0, 0)) ∧ kb ≠ mb ∧ ∃ D : DataW Unit, w.ownsMap Tryz.prog 3 (plainElem Tryz.prog 3) mb (Maps.size D) D ∧ Maps.size D ≤ (List.range 4096).countP (fun i : Nat => Maps.has D (.int .i64 (i : Int))) ∧
    ∀ n : Nat, Maps.has D (.int .i64 (n : Int)) = true → D.atKey (.int .i64 (n : Int)) (.lit (.int .i64 0)) = .lit (.int .i64 (fl.getD n default).caps)
theorem count_up {p q : Nat → Bool} (k : Nat) (hpk : p k = false) (hqk : q k = true) (h : ∀ i, p i = true → q i = true) : ∀ l : List Nat, k ∈ l → l.countP p + 1 ≤ l.countP q
  | [], hm => by cases hm
  | x :: r, hm => by
    have mono : ∀ r : List Nat, r.countP p ≤ r.countP q := fun r => List.countP_mono_left fun i _ hi => h i hi
    by_cases e : x = k
    · subst e
      rw [List.countP_cons_of_neg (by simp [hpk]), List.countP_cons_of_pos hqk]
      have := mono r; omega
    · have hm2 : k ∈ r := by
        rcases List.mem_cons.1 hm with e2 | e2
        · exact absurd e2.symm e
        · exact e2
      have ih := count_up k hpk hqk h r hm2
      rw [List.countP_cons, List.countP_cons]
      by_cases hx : p x = true
      · rw [if_pos hx, if_pos (h x hx)]; omega
      · rw [if_neg hx]; split <;> omega
theorem wf_nat (n : Nat) (h : n ≤ 4096) : (Lit.int .i64 (n : Int)).wf = true := WalkArith.wf_i64 (by omega)
theorem own_size {w : World} {b n : Nat} {D : DataW Unit} {k : TypeId} {R : Value → Option (DataW Unit × List MemPlace)} (h : w.ownsMap Tryz.prog k R b n D) : w.ownsMap Tryz.prog k R b (Maps.size D) D := by
  obtain ⟨es, clock, hb, F, hs, hD⟩ := h
  refine ⟨es, clock, hb, F, ?_, hD⟩
  subst hD
  rw [show Maps.size (DataW.map ((es.toList.map (WideElems.rg Tryz.prog k R)).foldr DataW.insert [])) = ((es.toList.map (WideElems.rg Tryz.prog k R)).foldr DataW.insert []).length from rfl, length_read]
  exact Nat.le_refl _
theorem nat_key (n : Nat) : WideAt.IsKeyLit (.int .i64 (n : Int)) := trivial
theorem known_put {fl : List FlatD} {D : DataW Unit} (hT : Tidy D) (m : Nat) (hm : m < 4096) (hs : Maps.size D ≤ (List.range 4096).countP (fun i : Nat => Maps.has D (.int .i64 (i : Int)))) (ha : ∀ n : Nat, Maps.has D (.int .i64 (n : Int)) = true → D.atKey (.int .i64 (n : Int)) (.lit (.int .i64 0)) = .lit (.int .i64 (fl.getD n default).caps)) :
    Maps.size (D.put (.int .i64 (m : Int)) (.lit (.int .i64 (fl.getD m default).caps))) ≤ (List.range 4096).countP (fun i : Nat => Maps.has (D.put (.int .i64 (m : Int)) (.lit (.int .i64 (fl.getD m default).caps))) (.int .i64 (i : Int))) ∧
    ∀ n : Nat, Maps.has (D.put (.int .i64 (m : Int)) (.lit (.int .i64 (fl.getD m default).caps))) (.int .i64 (n : Int)) = true → (D.put (.int .i64 (m : Int)) (.lit (.int .i64 (fl.getD m default).caps))).atKey (.int .i64 (n : Int)) (.lit (.int .i64 0)) = .lit (.int .i64 (fl.getD n default).caps) := by
  have other : ∀ n : Nat, n ≠ m → (Lit.int .i64 (n : Int)) ≠ (Lit.int .i64 (m : Int)) := fun n hn e => hn (by injection e with _ e2; omega)
  constructor
  · rw [size_put hT]
    have up : ∀ i : Nat, Maps.has D (.int .i64 (i : Int)) = true → Maps.has (D.put (.int .i64 (m : Int)) (.lit (.int .i64 (fl.getD m default).caps))) (.int .i64 (i : Int)) = true := fun i hi => by
      by_cases e : i = m
      · subst e; exact has_put_same hT.isMap (nat_key i) _
      · rw [has_put_other (other i e)]; exact hi
    split
    · exact Nat.le_trans hs (List.countP_mono_left fun i _ hi => up i hi)
    · rename_i hno
      have := count_up (p := fun i : Nat => Maps.has D (.int .i64 (i : Int))) (q := fun i : Nat => Maps.has (D.put (.int .i64 (m : Int)) (.lit (.int .i64 (fl.getD m default).caps))) (.int .i64 (i : Int))) m (by simpa using hno) (has_put_same hT.isMap (nat_key m) _) up (List.range 4096) (List.mem_range.2 hm)
      omega
  · intro n hn
    by_cases e : n = m
    · subst e; exact atKey_put_same hT.isMap (nat_key n) _ _
    · rw [atKey_put_other (other n e)]
      rw [has_put_other (other n e)] at hn
      exact ha n hn
theorem known_look {w : World} {mb n : Nat} {D : DataW Unit} (h : w.ownsMap Tryz.prog 3 (plainElem Tryz.prog 3) mb n D) (m : Nat) (hm : m < 4096) :
    ∃ c, (Instr.lookup 108 (.map (some mb)) (.int .i64 (m : Int)) true).run Tryz.prog w = .ok (.tuple #[.int .i64 c, .bool (Maps.has D (.int .i64 (m : Int)))]) w ∧ D.atKey (.int .i64 (m : Int)) (.lit (.int .i64 0)) = .lit (.int .i64 c) := by
  obtain ⟨v, ps, hrun, hv⟩ := h.look_ok keyed_int Tryz.underlying108 (zero_int w) (plainElem_int Tryz.underlying3 (by decide)) (keyOf_int_mk Tryz.underlying3 (wf_nat m (by omega)))
  obtain ⟨c, rfl, hc, _⟩ := plainElem_int_inv Tryz.underlying3 hv
  exact ⟨c, hrun, congrArg Prod.fst hc⟩
def KnownOk (fl : List FlatD) (kb mb : Nat) (w : World) (e : Ending) (w' : World) : Prop := e = .returned (.bool true) ∧ KnownJ fl kb mb w' ∧ w.grownBy w' (some mb)
set_option maxHeartbeats 1000000 in
set_option maxRecDepth 100000 in
theorem caps_any (fl : List FlatD) (kb mb m : Nat) (w : World) (h : KnownJ fl kb mb w) (hm : m < 4096) (hc0 : 0 ≤ (fl.getD m default).caps) (hc1 : (fl.getD m default).caps ≤ 1000) :
    Calls Tryz.prog 56 #[.int .i64 m, .int .i64 (fl.getD m default).caps, .pointer (some ⟨kb, 0, none⟩)] w (KnownOk fl kb mb w) := by
  obtain ⟨hk, hne, D, hown, hsz, hat⟩ := h
  obtain ⟨c, hrun, hc⟩ := known_look hown m hm
  have hcnt : (List.range 4096).countP (fun i : Nat => Maps.has D (.int .i64 (i : Int))) ≤ 4096 := by
    have := List.countP_le_length (p := fun i : Nat => Maps.has D (.int .i64 (i : Int))) (l := List.range 4096)
    rwa [List.length_range] at this
  obtain ⟨w1, hput, hown1, hg⟩ := hown.update (n := Maps.size D) keyed_int Tryz.underlying108 (by unfold maxLen; omega) (keyOf_int_mk Tryz.underlying3 (wf_nat m (by omega))) (plainElem_int Tryz.underlying3 (a := (fl.getD m default).caps) (WalkArith.wf_i64 (by omega)))
  obtain ⟨s1, s2⟩ := known_put (hown.tidy keyed_int) m hm hsz hat
  have HR : Hid (KnownJ fl kb mb w1 ∧ w.grownBy w1 (some mb)) := ⟨⟨(hg.block _ (heap_lt hk) (fun e => hne (Option.some.inj e))).trans hk, hne, _, own_size hown1, s1, s2⟩, hg⟩
  have hh := hat m
  have k0 := (one_cell hk).1
  have hin : inB (m : Int) 0 4095 = true := by unfold inB; simp; omega
  clear hat s1 s2 hg hown1 hcnt hsz hown
  generalize (fl.getD m default).caps = x at *
  obtain ⟨bb, hbb⟩ : ∃ bb, Maps.has D (.int .i64 (m : Int)) = bb := ⟨_, rfl⟩
  rw [hbb] at hrun hh
  clear hbb
  cases bb
  · clear hh hc
    go_enter Tryz.func56, Tryz.ntmps56
    go_wp2_with fail
    refine (cwithin_any _ _ _ _).mono ?_
    rintro e w' ⟨rfl, rfl⟩
    rw [hin]
    go_wp2_with fail
    go_ret
    exact ⟨rfl, HR.out⟩
  · have hcx : c = x := by have := hc.symm.trans (hh rfl); injection this with e; injection e
    subst hcx
    clear hh hc
    go_enter Tryz.func56, Tryz.ntmps56
    go_wp2_with fail
    refine (cwithin_any _ _ _ _).mono ?_
    rintro e w' ⟨rfl, rfl⟩
    rw [hin]
    go_wp2_with fail
    go_ret
    exact ⟨rfl, HR.out⟩
/-- A closure of a function that the list holds. -/
def okL (fl : List FlatD) (n parts : Int) : Prop := cloV fl n parts = true
theorem known_clo (fl : List FlatD) (hl : fl.length ≤ 4096) (hcaps : ∀ f ∈ fl, 0 ≤ f.caps ∧ f.caps ≤ 1000) (kb mb : Nat) : Clo 56 (.pointer (some ⟨kb, 0, none⟩)) (KnownJ fl kb mb) (some mb) (cloV fl) (okL fl) where
  call w n parts h hok := by
    have ho := hok
    unfold okL cloV at ho
    rw [Bool.and_eq_true] at ho
    obtain ⟨h1, h2⟩ := ho
    obtain ⟨m, rfl⟩ : ∃ m : Nat, n = m := ⟨n.toNat, by unfold inB at h1; simp at h1; omega⟩
    have hml : m < fl.length := by unfold inB at h1; simp at h1; omega
    have hp : (fl.getD m default).caps = parts := by simpa using h2
    subst hp
    have hc := hcaps _ (getD_mem default fl m hml)
    refine (caps_any fl kb mb m w h (by omega) hc.1 hc.2).mono ?_
    rintro e w' ⟨rfl, hJ, hg⟩
    exact ⟨by rw [show cloV fl (m : Int) (fl.getD m default).caps = true from hok], hJ, hg⟩
  kept w w' h hg := by
    obtain ⟨hk, hne, D, hown, hsz, hat⟩ := h
    exact ⟨(hg.block _ (heap_lt hk) (by nofun)).trans hk, hne, D, hown.kept hg (by nofun), hsz, hat⟩
  low w h k hk := by cases hk; obtain ⟨_, _, D, hown, _⟩ := h; exact hown.lt
theorem known_24 (fl : List FlatD) (hl : fl.length ≤ 4096) (hcaps : ∀ f ∈ fl, 0 ≤ f.caps ∧ f.caps ≤ 1000) (kb mb cb : Nat) (caps : Int) : F24 56 (.pointer (some ⟨kb, 0, none⟩)) (KnownJ fl kb mb) (some mb) (cloV fl) (okL fl) cb caps :=
  fun n loc s a k c w hs hC hJ hok hr => form_24L _ _ (some mb) (cloV fl) _ (known_clo fl hl hcaps kb mb) cb caps n loc s a k c w hs hC hJ hok hr
theorem flatL_at {caps : Int} {clo : Int → Int → Bool} {a b : Int} {l : List ExpD} (h : flatL caps clo a b l = true) (i : Nat) (hi : i < l.length) : flatX caps clo (if 0 < i then b else a) (l.getD i default) = true := by
  cases hx : flatX caps clo (if 0 < i then b else a) (l.getD i default)
  · rw [flatL_none a b l i hi hx] at h; cases h
  · rfl
theorem flat_parts {caps : Int} {clo : Int → Int → Bool} {loc op n : Int} {s : ByteArray} {v : Value} {l : List ExpD} (h : flatX caps clo loc (.mk op n s v l) = true) : formB caps clo loc op n s l.length = true ∧ ∀ i, i < l.length → flatX caps clo (lo op loc i) (l.getD i default) = true := by
  unfold flatX at h
  rw [Bool.and_eq_true] at h
  exact ⟨h.1, fun i hi => flatL_at h.2 i hi⟩
theorem cloL_of {ok : Int → Int → Prop} : ∀ {l : List ExpD}, (∀ y ∈ l, cloX ok y) → cloL ok l
  | [], _ => by unfold cloL; trivial
  | x :: r, h => by unfold cloL; exact ⟨h x (List.mem_cons_self ..), cloL_of fun y hy => h y (List.mem_cons_of_mem _ hy)⟩
theorem clo_of_flat {caps : Int} {clo : Int → Int → Bool} (x : ExpD) : ∀ loc, flatX caps clo loc x = true → cloX (fun n p => clo n p = true) x := by
  induction x using ExpD.induct with
  | h op n s lv l ih =>
    intro loc h
    obtain ⟨h1, h2⟩ := flat_parts h
    unfold cloX
    refine ⟨fun e => ?_, cloL_of fun y hy => ?_⟩
    · subst e
      have := (form_24 h1).1
      rw [Bool.and_eq_true] at this
      exact this.2
    · obtain ⟨k, hk, rfl⟩ := List.mem_iff_getElem.1 hy
      have := h2 k hk
      rw [show l.getD k default = l[k] by simp [List.getD, hk]] at this
      exact ih _ hy _ this
def CLocOk (r : Int) (w : World) (e : Ending) (w' : World) : Prop := e = .returned (.tuple #[.int .i64 r, .int .i64 0]) ∧ Below w.heap.size w w'
set_option maxHeartbeats 2000000 in
set_option maxRecDepth 100000 in
theorem cLocals_all (B : Nat) (fl : List FlatD) (hl : fl.length ≤ 4096) (hcaps : ∀ f ∈ fl, 0 ≤ f.caps ∧ f.caps ≤ 1000) (f : FlatD) (w : World) (hBw : B ≤ w.heap.size) (hx : IsExp B w f.body) (hf : funB (cloV fl) f = true) (hs : sizeX f.body ≤ 600) (hh : heightX f.body ≤ 211) :
    Calls Tryz.prog 28 #[flatDV f] w (CLocOk (locX 1 f.body) w) := by
  have HCF := Lib.hid (fun (kb mb : Nat) (hmb : B ≤ mb) (V : World) (hBV : B ≤ V.heap.size) (hxV : IsExp B V f.body) (hJ : KnownJ fl kb mb V) => cfun_all B (known_clo fl hl hcaps kb mb) f (fun cb => known_24 fl hl hcaps kb mb cb f.caps) (by intro k hk; cases hk; exact hmb) V hBV hxV (clo_of_flat f.body 1 (by have := hf; unfold funB at this; rw [Bool.and_eq_true] at this; exact this.2)) hJ hs hh)
  rw [hf] at HCF
  have HLO := Lib.hid (fun (V : World) (hBV : B ≤ V.heap.size) (hxV : IsExp B V f.body) => clocals_any B f.body 1 V hBV hxV (by omega) (by omega))
  clear hf hs hh hcaps
  obtain ⟨caps, ⟨op, n, s, lv, l⟩⟩ := f
  rw [show flatDV ⟨caps, .mk op n s lv l⟩ = .agg #[.int .i64 caps, .int .i64 op, .int .i64 n, .string s, lv] from rfl] at *
  have HX := Lib.hid hx
  have hmm := @run_makeMap Tryz.prog
  have g1 := grown_alloc w (.cells #[.int .i64 caps, .int .i64 op, .int .i64 n, .string s, lv] 31)
  have gF := new_heap w (.cells #[.int .i64 caps, .int .i64 op, .int .i64 n, .string s, lv] 31)
  have hb1 := grown_under g1 (Nat.le_refl _) (by nofun)
  clear g1 hx
  go_enter Tryz.func28, Tryz.ntmps28
  go_upto_region 1 with fail
  generalize w.alloc (.cells #[.int .i64 caps, .int .i64 op, .int .i64 n, .string s, lv] 31) = W at *
  have g2 := grown_alloc W (.map #[] 0)
  have g3 := grown_alloc (W.alloc (.map #[] 0)) (.cells #[.map (some W.heap.size)] 108)
  have hltF := heap_lt gF
  have gF3 := (g3.block _ (by simp; omega) (by nofun)).trans ((g2.block _ hltF (by nofun)).trans gF)
  have hb3 := (hb1.trans ((grown_under (B := w.heap.size) g2 (by omega) (by nofun)))).trans (grown_under (B := w.heap.size) g3 (by simp; omega) (by nofun))
  have hJ3 : KnownJ fl (W.heap.size + 1) W.heap.size ((W.alloc (.map #[] 0)).alloc (.cells #[.map (some W.heap.size)] 108)) := by
    refine ⟨(congrArg _ (by simp)).trans (new_heap (W.alloc (.map #[] 0)) _), by omega, .map [], ((World.ownsMap_made W Tryz.prog 3 _).kept g3 (by nofun)), Nat.zero_le _, fun n h => ?_⟩
    rw [show Maps.has (DataW.map (H := Unit) []) (.int .i64 (n : Int)) = false from rfl] at h; cases h
  have hx3 := HX.out.under (hb3.mono hBw)
  have HM := Lib.hid (HCF.out (W.heap.size + 1) W.heap.size (by omega) _ (by have := hb3.size; omega) hx3 hJ3)
  have HB3 := Lib.hid hb3
  have HGF := Lib.hid gF3
  obtain ⟨p0, p1, p2, p3, p4⟩ := five_cells gF3
  clear g2 g3 hJ3 hx3 hb3 gF3 HCF
  go_wp2_with fail
  refine HM.out.mono ?_
  rintro e w4 ⟨rfl, hJ4, hg4⟩
  have hb4 : Below w.heap.size w w4 := HB3.out.trans (grown_under hg4 HB3.out.size (by intro k hk; cases hk; omega))
  have gF4 := (hg4.block _ (heap_lt HGF.out) (by intro e; have := Option.some.inj e; omega)).trans HGF.out
  have HL := Lib.hid (HLO.out w4 (by have := hb4.size; omega) (HX.out.under (hb4.mono hBw)))
  have HB4 := Lib.hid hb4
  rw [expV_mk] at HL
  clear p0 p1 p2 p3 p4 hJ4 hg4 HM hb4
  obtain ⟨p0, p1, p2, p3, p4⟩ := five_cells gF4
  go_wp2_with fail
  refine HL.out.mono ?_
  rintro e w5 ⟨rfl, hb6⟩
  have HBE := Lib.hid (HB4.out.trans (hb6.mono HB4.out.size))
  clear hb6 HL p0 p1 p2 p3 p4
  go_wp2_with fail
  go_ret2
  exact ⟨rfl, HBE.out⟩

theorem owns_set {V : World} {B : Nat} {e : TypeId} {s n : Nat} {g c : Nat} {xs : List Value} (h : V.ownsRow B e s (.slice (some ⟨g, 0, none⟩) n c) n xs) (i : Nat) (u : Value) : (V.setCell ⟨g, i, none⟩ u).ownsRow B e s (.slice (some ⟨g, 0, none⟩) n c) n (xs.set i u) := by
  obtain ⟨h1, h2⟩ := h
  refine ⟨by rw [List.length_set]; exact h1, ?_⟩
  rcases h2 with ⟨h2, _⟩ | ⟨g', cap, cur, hv, hb, hh, hn, hc, hs, ht⟩
  · cases h2
  · injection hv with ha _ hcap
    injection ha with ha
    injection ha with hg _ _
    subst hg
    subst hcap
    exact .inr ⟨_, _, _, rfl, hb, heap_set_same hh u, hn, hc, by simp [hs], by rw [Array.toList_setIfInBounds, List.take_set, ht]⟩
/-! ### The code of an expression stays where its places stay -/
theorem clenL_snoc (l : List ExpD) (x : ExpD) : clenL (l ++ [x]) = clenL l + clenX x := by
  induction l with
  | nil => rw [List.nil_append, clenL_cons, clenL_nil]; omega
  | cons y l ih => rw [List.cons_append, clenL_cons, clenL_cons, ih]; omega
theorem codeS_nil (C : List Ins) (T : ByteArray → Int) (loc : Int) (p : Nat) : CodeS C T loc [] p := by unfold CodeS; trivial
theorem codeS_cons {C : List Ins} {T : ByteArray → Int} {loc : Int} {x : ExpD} {r : List ExpD} {p : Nat} : CodeS C T loc (x :: r) p ↔ CodeX C T loc x p ∧ CodeS C T loc r (p + clenX x) := by rw [CodeS]
theorem codeS_snoc {C : List Ins} {T : ByteArray → Int} {loc : Int} {x : ExpD} : ∀ {r : List ExpD} {p : Nat}, CodeS C T loc r p → CodeX C T loc x (p + clenL r) → CodeS C T loc (r ++ [x]) p
  | [], p, _, h => by rw [List.nil_append, codeS_cons]; rw [clenL_nil] at h; exact ⟨h, codeS_nil ..⟩
  | y :: r, p, h1, h2 => by
    rw [List.cons_append, codeS_cons]
    rw [codeS_cons] at h1
    rw [clenL_cons, ← Nat.add_assoc] at h2
    exact ⟨h1.1, codeS_snoc h1.2 h2⟩
mutual
/-- Each choice has two parts, at least. -/
def wideX : ExpD → Prop
  | .mk op _ _ _ l => (op = 9 → 2 ≤ l.length) ∧ wideL l
def wideL : List ExpD → Prop
  | [] => True
  | x :: r => wideX x ∧ wideL r
end
theorem wideL_mem : ∀ {l : List ExpD}, wideL l → ∀ y ∈ l, wideX y
  | [], _, _, h => by cases h
  | x :: r, h, y, hy => by
    unfold wideL at h
    rcases List.mem_cons.1 hy with rfl | hy
    · exact h.1
    · exact wideL_mem h.2 y hy
theorem wideL_of : ∀ {l : List ExpD}, (∀ y ∈ l, wideX y) → wideL l
  | [], _ => by unfold wideL; trivial
  | x :: r, h => by unfold wideL; exact ⟨h x (List.mem_cons_self ..), wideL_of fun y hy => h y (List.mem_cons_of_mem _ hy)⟩
theorem wide_of_flat {caps : Int} {clo : Int → Int → Bool} (x : ExpD) : ∀ loc, flatX caps clo loc x = true → wideX x := by
  induction x using ExpD.induct with
  | h op n s lv l ih =>
    intro loc h
    obtain ⟨h1, h2⟩ := flat_parts h
    unfold wideX
    refine ⟨fun e => ?_, wideL_of fun y hy => ?_⟩
    · subst e
      have := (form_9 h1).1
      unfold inB at this
      simp at this; omega
    · obtain ⟨k, hk, rfl⟩ := List.mem_iff_getElem.1 hy
      have := h2 k hk
      rw [show l.getD k default = l[k] by simp [List.getD, hk]] at this
      exact ih _ hy _ this
section
variable {C C' : List Ins} {T : ByteArray → Int}
def Stays (C C' : List Ins) (T : ByteArray → Int) (x : ExpD) : Prop := wideX x → ∀ loc p, CodeX C T loc x p → (∀ i, p ≤ i → i < p + clenX x → C'[i]? = C[i]?) → CodeX C' T loc x p
theorem codeS_stays {loc : Int} : ∀ {l : List ExpD} {p : Nat}, (∀ y ∈ l, Stays C C' T y) → wideL l → CodeS C T loc l p → (∀ i, p ≤ i → i < p + clenL l → C'[i]? = C[i]?) → CodeS C' T loc l p
  | [], p, _, _, _, _ => codeS_nil ..
  | x :: r, p, ih, hw, h, hs => by
    unfold wideL at hw
    rw [codeS_cons] at h ⊢
    rw [clenL_cons] at hs
    exact ⟨ih x (List.mem_cons_self ..) hw.1 _ _ h.1 fun i h1 h2 => hs i h1 (by omega), codeS_stays (fun y hy => ih y (List.mem_cons_of_mem _ hy)) hw.2 h.2 fun i h1 h2 => hs i (by omega) (by omega)⟩
theorem codeB_stays {loc : Int} {e : Nat} : ∀ {l : List ExpD} {tab p : Nat}, (∀ y ∈ l, Stays C C' T y) → wideL l → CodeB C T loc l tab p e → (∀ i, tab ≤ i → i < tab + l.length → C'[i]? = C[i]?) → (∀ i, p ≤ i → i < p + clenL l + (l.length - 1) → C'[i]? = C[i]?) → CodeB C' T loc l tab p e
  | [], tab, p, _, _, _, _, _ => by unfold CodeB; trivial
  | x :: r, tab, p, ih, hw, h, ht, hs => by
    unfold wideL at hw
    unfold CodeB at h ⊢
    rw [clenL_cons, List.length_cons] at hs
    rw [List.length_cons] at ht
    obtain ⟨h1, h2, h3, h4⟩ := h
    refine ⟨by rw [ht tab (Nat.le_refl _) (by omega)]; exact h1, ih x (List.mem_cons_self ..) hw.1 _ _ h2 fun i a b => hs i a (by omega), fun hne => ?_, ?_⟩
    · have : 0 < r.length := List.length_pos_iff.2 hne
      rw [hs _ (by omega) (by omega)]; exact h3 hne
    · by_cases hr : r = []
      · subst hr; unfold CodeB; trivial
      · have : 0 < r.length := List.length_pos_iff.2 hr
        exact codeB_stays (fun y hy => ih y (List.mem_cons_of_mem _ hy)) hw.2 h4 (fun i a b => ht i (by omega) (by omega)) (fun i a b => hs i (by omega) (by omega))
theorem code_stays (x : ExpD) : Stays C C' T x := by
  induction x using ExpD.induct with
  | h op n s lv l ih =>
    intro hw loc p h hs
    unfold wideX at hw
    obtain ⟨hw9, hwl⟩ := hw
    rw [clenX_mk] at hs
    unfold CodeX at h ⊢
    by_cases h11 : op = 11
    · rw [if_pos h11] at h ⊢
      rw [if_neg (by omega)] at hs
      cases l with
      | nil => unfold CodeLet at h; exact h.elim
      | cons x r =>
        unfold CodeLet at h ⊢
        unfold wideL at hwl
        rw [clenL_cons] at hs
        exact ⟨ih x (List.mem_cons_self ..) hwl.1 _ _ h.1 fun i a b => hs i a (by omega), by rw [hs _ (by omega) (by omega)]; exact h.2.1, codeS_stays (fun y hy => ih y (List.mem_cons_of_mem _ hy)) hwl.2 h.2.2 fun i a b => hs i (by omega) (by omega)⟩
    · rw [if_neg h11] at h ⊢
      by_cases h9 : op = 9
      · rw [if_pos h9] at h hs ⊢
        cases l with
        | nil => unfold CodeSw at h; exact h.elim
        | cons x r =>
          unfold CodeSw at h ⊢
          rw [clenL_cons, List.length_cons] at hs
          obtain ⟨h1, h2, h3⟩ := h
          unfold wideL at hwl
          have hr : 0 < r.length := by have := hw9 h9; rw [List.length_cons] at this; omega
          exact ⟨ih x (List.mem_cons_self ..) hwl.1 _ _ h1 fun i a b => hs i a (by omega), by rw [hs _ (by omega) (by omega)]; exact h2, codeB_stays (fun y hy => ih y (List.mem_cons_of_mem _ hy)) hwl.2 h3 (fun i a b => hs i (by omega) (by omega)) (fun i a b => hs i (by omega) (by omega))⟩
      · rw [if_neg h9] at h hs ⊢
        exact ⟨codeS_stays ih hwl h.1 fun i a b => hs i a (by omega), by rw [hs _ (by omega) (by omega)]; exact h.2⟩
end
/-! ### The map of texts -/
theorem keyed_str : Keyed Tryz.prog 9 := string_keyed Tryz.underlying9
/-- The map of texts says which number each text has (0: none). -/
def TextMap (V : World) (mb : Nat) (T : ByteArray → Int) : Prop :=
  ∃ (n : Nat) (D : DataW Unit), V.ownsMap Tryz.prog 9 (plainElem Tryz.prog 3) mb n D ∧ ∀ s : ByteArray, s.size ≤ maxLen → D.atKey (.string s.data.toList) (.lit (.int .i64 0)) = .lit (.int .i64 (T s))
set_option maxRecDepth 100000 in
theorem TextMap.look {V : World} {mb : Nat} {T : ByteArray → Int} (h : TextMap V mb T) (s : ByteArray) (hs : s.size ≤ maxLen) : (Instr.lookup 100 (.map (some mb)) (.string s) false).run Tryz.prog V = .ok (.int .i64 (T s)) V := by
  obtain ⟨n, D, hown, hat⟩ := h
  obtain ⟨c, hrun, hc, _⟩ := hown.lookup_int keyed_str Tryz.underlying100 Tryz.underlying3 (zero_int V) (WideMaps.keyOf_string_mk Tryz.underlying9 hs)
  rw [hrun]
  have := hc.symm.trans (hat s hs)
  injection this with e
  injection e with _ e2
  rw [e2]
theorem TextMap.lt {V : World} {mb : Nat} {T : ByteArray → Int} (h : TextMap V mb T) : mb < V.heap.size := by obtain ⟨n, D, hown, _⟩ := h; exact hown.lt
theorem TextMap.stays {V V' : World} {mb : Nat} {T : ByteArray → Int} (h : TextMap V mb T) (e : V'.heap[mb]? = V.heap[mb]?) : TextMap V' mb T := by
  obtain ⟨n, D, ⟨es, clock, hb, hr⟩, hat⟩ := h
  exact ⟨n, D, ⟨es, clock, e.trans hb, hr⟩, hat⟩
/-! ### emit -/
set_option maxHeartbeats 1000000 in
set_option maxRecDepth 100000 in
theorem emit2_any (wb mb B : Nat) (cv : Value) (L : List Ins) (op a b : Int) (V : World) (h : WSt V wb mb B cv L) (hB : B ≤ V.heap.size) (hL : L.length ≤ 1000000) :
    Calls Tryz.prog 51 #[.pointer (some ⟨wb, 0, none⟩), .int .i64 op, .int .i64 a, .int .i64 b] V fun e V' => e = .returned (.int .i64 L.length) ∧ WrOk wb mb B cv (L ++ [⟨op, a, b⟩]) V V' := by
  have H := Lib.hid h
  obtain ⟨ca, cn, cc, rfl⟩ := owns_slice h.own
  obtain ⟨ii0, hii, hiz0, hiz1, hiz2⟩ := info_parts info_instr
  obtain ⟨c0, c1⟩ := w_cells h.blk
  have hwlt := h.lt
  clear h
  go_enter Tryz.func51, Tryz.ntmps51
  go_wp2_with (at_builtin; refine wpList_append_lies _ rfl _ _ 41 rfl B 57 ii0 (.agg #[.int .i64 0, .int .i64 0, .int .i64 0]) 3 24 Tryz.underlying41 hii hiz0 hiz1 hiz2 rfl (by decide) _ L.length (insCells L) rfl (H.out.own.alloc _) ⟨V.heap.size, 0, none⟩ 1 1 [.int .i64 op, .int .i64 a, .int .i64 b] rfl rfl ?c1 ?c2 (by decide) ?c3 ?c4 ?c5 _ rfl ?_)
  case c1 => exact World.news_of_block (cs := #[.int .i64 op, .int .i64 a, .int .i64 b]) (new_heap V _)
  case c2 => intro u hu; simp at hu; rcases hu with rfl | rfl | rfl <;> rfl
  case c3 => unfold maxLen; omega
  case c4 => omega
  case c5 => simp; omega
  intro g cap w4 hown4 hgrow4 hat4 hlt4
  have hg3 := grown_alloc V (.cells #[.int .i64 op, .int .i64 a, .int .i64 b] 57)
  have hown0 := owns_lt H.out.own
  have hlt0 := heap_lt H.out.blk
  have gW := (hgrow4.block wb (by simp; omega) (fun e => by have := (hown0 wb e.symm).1; omega)).trans ((hg3.block wb hlt0 (by nofun)).trans H.out.blk)
  obtain ⟨d0, d1⟩ := w_cells gW
  have fz : w4.frozen? ⟨wb, 0, none⟩ = false := Lib.frozen_of_heap gW 0
  have hE := ((Em.free (wb := wb) (r := (Value.slice ca cn cc).ownBlock) hg3).trans (Em.grown hgrow4 (r' := some g) (by
    rcases hat4 with e | e
    · exact .inl e.symm
    · exact .inr ⟨g, rfl, by simp; omega⟩))).trans (Em.set w4 0 (.slice (some ⟨g, 0, none⟩) (L.length + 1) cap) (some g))
  have gW2 := heap_set_same (i := 0) gW (.slice (some ⟨g, 0, none⟩) (L.length + 1) cap)
  have hown5 : w4.ownsRow B 57 3 (.slice (some ⟨g, 0, none⟩) (L.length + 1) cap) (L ++ [(⟨op, a, b⟩ : Ins)]).length (insCells (L ++ [(⟨op, a, b⟩ : Ins)])) := by rw [insCells_app, List.length_append]; exact hown4
  have hown6 := owns_grown hown5 (grown_set w4 wb 0 (.slice (some ⟨g, 0, none⟩) (L.length + 1) cap)) (fun k hk e => by cases hk; have := (owns_lt hown5 _ e).1; omega)
  have HR : Hid (WrOk wb mb B (.slice ca cn cc) (L ++ [⟨op, a, b⟩]) V (w4.setCell ⟨wb, 0, none⟩ (.slice (some ⟨g, 0, none⟩) (L.length + 1) cap))) := ⟨_, ⟨gW2, hown6, hwlt⟩, hE⟩
  have s0 := (w_cells gW2).1
  clear hE hown4 hown5 hown6 hgrow4 hat4 hg3 hown0 gW c0 c1
  go_wp2_with fail
  go_ret
  exact ⟨rfl, HR.out⟩
end Go.Proofs.YtidolpcbbbakmaaGreat
