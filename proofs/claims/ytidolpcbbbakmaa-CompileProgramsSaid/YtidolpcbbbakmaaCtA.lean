/- locals: the number of local variables. Locals: the number of local variables of a valid function. -/
import Derived.Test.YtidolpcbbbakmaaCs8
import Derived.Maps.OwnSet
namespace Go.Proofs.Ytidolpcbbbakmaa
open Go Go.RowKit

theorem locX_mk (loc op n : Int) (s : ByteArray) (v : Value) (l : List ExpD) : locX loc (.mk op n s v l) = locL loc loc (loc + bump op) l := by rw [locX]
theorem locL_cons (m a b : Int) (x : ExpD) (r : List ExpD) : locL m a b (x :: r) = locL (max m (locX a x)) b b r := by rw [locL]
theorem locL_nil (m a b : Int) : locL m a b [] = m := by rw [locL]
theorem locL_snoc (x : ExpD) : ∀ (l : List ExpD) (m a b : Int), locL m a b (l ++ [x]) = max (locL m a b l) (locX (if l.length = 0 then a else b) x)
  | [], m, a, b => by rw [List.nil_append, locL_cons, locL_nil, locL_nil]; rfl
  | y :: r, m, a, b => by
    rw [List.cons_append, locL_cons, locL_cons, locL_snoc x r]
    congr 2
    rw [if_neg (show ¬ (y :: r).length = 0 by simp)]
    split <;> rfl
theorem loc_take (op loc : Int) (l : List ExpD) (k : Nat) (hk : k < l.length) : locL loc loc (loc + bump op) (l.take (k + 1)) = max (locL loc loc (loc + bump op) (l.take k)) (locX (lo op loc k) (l.getD k default)) := by
  rw [take_one default l k hk, locL_snoc]
  congr 2
  unfold lo
  rw [List.length_take]
  by_cases h : 0 < k
  · rw [if_neg (by omega), if_pos h]
  · rw [if_pos (by omega), if_neg h]
theorem locL_le {M : Int} : ∀ (l : List ExpD) (m a b : Int), m ≤ M → (∀ y ∈ l, locX a y ≤ M ∧ locX b y ≤ M) → locL m a b l ≤ M
  | [], m, a, b, h, _ => by rw [locL_nil]; exact h
  | x :: r, m, a, b, h, hy => by
    rw [locL_cons]
    refine locL_le r _ _ _ (by have := (hy x (List.mem_cons_self ..)).1; omega) fun y h2 => ?_
    have := (hy y (List.mem_cons_of_mem _ h2)).2
    exact ⟨this, this⟩
theorem locL_ge : ∀ (l : List ExpD) (m a b : Int), m ≤ locL m a b l
  | [], m, a, b => by rw [locL_nil]; omega
  | x :: r, m, a, b => by rw [locL_cons]; have := locL_ge r (max m (locX a x)) b b; omega
theorem bump_le (op : Int) : 0 ≤ bump op ∧ bump op ≤ 1 := by unfold bump; split <;> omega
theorem loc_le (x : ExpD) : ∀ loc, locX loc x ≤ loc + heightX x := by
  induction x using ExpD.induct with
  | h op n s lv l ih =>
    intro loc
    rw [locX_mk, heightX_mk]
    have hb := bump_le op
    refine locL_le l _ _ _ (by omega) fun y hy => ?_
    have h1 := ih y hy loc
    have h2 := ih y hy (loc + bump op)
    have h3 := heightL_mem hy
    omega
theorem loc_ge (x : ExpD) (loc : Int) : loc ≤ locX loc x := by
  obtain ⟨op, n, s, lv, l⟩ := x
  rw [locX_mk]; exact locL_ge _ _ _ _
def LocOk (loc : Int) (x : ExpD) (w : World) (e : Ending) (w' : World) : Prop := e = .returned (.int .i64 (locX loc x)) ∧ Below w.heap.size w w'
set_option maxHeartbeats 4000000 in
set_option maxRecDepth 100000 in
theorem clocals_any (B : Nat) (x : ExpD) : ∀ (loc : Int) (w : World), B ≤ w.heap.size → IsExp B w x → 0 ≤ loc → loc + heightX x ≤ 1000000 →
    Calls Try.prog 56 #[expV x, .int .i64 loc] w (LocOk loc x w) := by
  induction x using ExpD.induct with
  | h op n s lv l ih =>
    intro loc w hBw hx hl0 hl1
    rw [expV_mk]
    have HIH := Lib.hid ih
    obtain ⟨hr, hm, hy⟩ := hx.parts
    have HY := Lib.hid hy
    have HR := Lib.hid hr
    have hm' : l.length ≤ 9223372036854775807 := by unfold maxLen at hm; omega
    have HLE := Lib.hid (fun (k : Nat) => show loc ≤ locL loc loc (loc + bump op) (l.take k) ∧ locL loc loc (loc + bump op) (l.take k) ≤ 1000000 from ⟨locL_ge _ _ _ _, locL_le _ _ _ _ (by omega) fun y hy => by
      have hy2 := List.mem_of_mem_take hy
      have h1 := loc_le y loc
      have h2 := loc_le y (loc + bump op)
      have h3 := heightL_mem hy2
      have hb := bump_le op
      rw [heightX_mk] at hl1
      omega⟩)
    rw [heightX_mk] at hl1
    obtain ⟨a, c, rfl, hlc, _⟩ := hr
    have hb1 := box_exp op n s (.slice a l.length c) w
    have gP := new_heap w (.cells #[.int .i64 op, .int .i64 n, .string s, .slice a l.length c] 36)
    obtain ⟨p0, p1, p2, p3⟩ := exp_box gP
    have HGP := Lib.hid gP
    clear ih hx hy gP hm
    go_enter Try.func56, Try.ntmps56
    go_wp2_with fail
    generalize w.alloc (.cells #[.int .i64 op, .int .i64 n, .string s, .slice a l.length c] 36) = W at *
    go_loopw [5, 12] (fun m i wr => ∃ (k : Nat) (ms : Int), k ≤ l.length ∧ i = .int .i64 k ∧ m = .int .i64 ms ∧ Hid (ms = locL loc loc (loc + bump op) (l.take k)) ∧ Below w.heap.size w wr ∧ Below W.heap.size W wr) (fun _ i _ => l.length - (intOf i).toNat)
    case atStart => exact ⟨0, loc, Nat.zero_le _, rfl, rfl, show loc = locL loc loc (loc + bump op) (l.take 0) from by rw [List.take_zero, locL_nil], hb1, Below.refl _ _⟩
    case round =>
      obtain ⟨k, ms, hk, rfl, rfl, HS, hbr, hbW⟩ := hrel
      have hms : loc ≤ ms ∧ ms ≤ 1000000 := by have := HLE.out k; have := HS.out; omega
      have gPr := (hbW.block _ (heap_lt HGP.out)).trans HGP.out
      obtain ⟨p0, p1, p2, p3⟩ := exp_box gPr
      by_cases hkl : k < l.length
      · obtain ⟨b, off, rfl, hbB, c0, c1, c2, c3⟩ := parts_at HR.out (hbr.mono hBw) k hkl
        have hmem := getD_mem default l k hkl
        have hhm := heightL_mem hmem
        have HT := Lib.hid (loc_take op loc l k hkl)
        have hyk := HY.out _ hmem
        have hih := HIH.out _ hmem
        clear hmem p0 p1 p2 p3
        generalize l.getD k default = x at *
        obtain ⟨xo, xn, xs, xv, xl⟩ := x
        obtain ⟨xa, xc, rfl, _⟩ := hyk.parts.1
        simp only [ExpD.op, ExpD.n, ExpD.s, ExpD.lv] at c0 c1 c2 c3
        have hb3 := box_exp xo xn xs (.slice xa xl.length xc) wr
        have gX := new_heap wr (.cells #[.int .i64 xo, .int .i64 xn, .string xs, .slice xa xl.length xc] 36)
        have gP3 := (hb3.block _ (heap_lt gPr)).trans gPr
        obtain ⟨e0, e1, e2, e3⟩ := exp_box gX
        obtain ⟨p0, p1, p2, p3⟩ := exp_box gP3
        have hbx := hbr.trans (hb3.mono hbr.size)
        have hbx2 := hbW.trans (hb3.mono hbW.size)
        have HM := Lib.hid (fun (lc : Int) (h0 : 0 ≤ lc) (h1 : lc + heightX (.mk xo xn xs (.slice xa xl.length xc) xl) ≤ 1000000) => hih lc _ (by have := hbx.size; omega) (hyk.under (hbx.mono hBw)) h0 h1)
        rw [expV_mk] at HM
        have hlw : lo op loc k = loc ∨ lo op loc k = loc + 1 := by unfold lo bump; split <;> (try split) <;> omega
        have hxge := loc_ge (.mk xo xn xs (.slice xa xl.length xc) xl) (lo op loc k)
        have hxle := loc_le (.mk xo xn xs (.slice xa xl.length xc) xl) (lo op loc k)
        clear hih hyk gX hb3 gPr gP3
        go_wp2_with fail
        refine (cbinds_any _ _ _).mono ?_
        rintro e w' ⟨rfl, rfl⟩
        obtain ⟨bk, hbk⟩ : ∃ bk, bindB op k = bk := ⟨_, rfl⟩
        have Hbk := Lib.hid hbk
        rw [hbk]
        clear hbk
        cases bk
        · have HM2 := Lib.hid (HM.out loc hl0 (by omega))
          have hlo := lo_f (loc := loc) Hbk.out
          rw [hlo] at HT hxge hxle
          clear hlo HM
          go_wp2_with fail
          refine HM2.out.mono ?_
          rintro e w3 ⟨rfl, hb4⟩
          have hbe := hbx.trans (hb4.mono hbx.size)
          have hbe2 := hbx2.trans (hb4.mono hbx2.size)
          generalize locX loc (.mk xo xn xs (.slice xa xl.length xc) xl) = lx at *
          have HS2 : Hid (max ms lx = locL loc loc (loc + bump op) (l.take (k + 1))) := by rw [HT.out, HS.out]; rfl
          clear hb4 e0 e1 e2 e3 c0 c1 c2 c3 p0 p1 p2 p3 HM2 hbx hbx2
          by_cases hmx : ms < lx
          · have hmm : max ms lx = lx := by omega
            go_wp2_with fail
            go_round
            case rel => exact ⟨k + 1, lx, by omega, by go_num, rfl, by rw [← hmm]; exact HS2.out, hbe, hbe2⟩
            case measure => simp [intOf]; omega
          · have hmm : max ms lx = ms := by omega
            go_wp2_with fail
            go_round
            case rel => exact ⟨k + 1, ms, by omega, by go_num, rfl, by rw [← hmm]; exact HS2.out, hbe, hbe2⟩
            case measure => simp [intOf]; omega
        · have HM2 := Lib.hid (HM.out (loc + 1) (by omega) (by omega))
          have hlo := lo_t (loc := loc) Hbk.out
          rw [hlo] at HT hxge hxle
          clear hlo HM
          go_wp2_with fail
          refine HM2.out.mono ?_
          rintro e w3 ⟨rfl, hb4⟩
          have hbe := hbx.trans (hb4.mono hbx.size)
          have hbe2 := hbx2.trans (hb4.mono hbx2.size)
          generalize locX (loc + 1) (.mk xo xn xs (.slice xa xl.length xc) xl) = lx at *
          have HS2 : Hid (max ms lx = locL loc loc (loc + bump op) (l.take (k + 1))) := by rw [HT.out, HS.out]; rfl
          clear hb4 e0 e1 e2 e3 c0 c1 c2 c3 p0 p1 p2 p3 HM2 hbx hbx2
          by_cases hmx : ms < lx
          · have hmm : max ms lx = lx := by omega
            go_wp2_with fail
            go_round
            case rel => exact ⟨k + 1, lx, by omega, by go_num, rfl, by rw [← hmm]; exact HS2.out, hbe, hbe2⟩
            case measure => simp [intOf]; omega
          · have hmm : max ms lx = ms := by omega
            go_wp2_with fail
            go_round
            case rel => exact ⟨k + 1, ms, by omega, by go_num, rfl, by rw [← hmm]; exact HS2.out, hbe, hbe2⟩
            case measure => simp [intOf]; omega
      · have HE : Hid (ms = locL loc loc (loc + bump op) l) := by have := HS.out; rw [List.take_of_length_le (by omega)] at this; exact this
        go_wp2_with fail
        go_ret
        exact ⟨by rw [locX_mk, ← HE.out]; rfl, hbr⟩
end Go.Proofs.Ytidolpcbbbakmaa
namespace Go.Proofs.Ytidolpcbbbakmaa
open Go Go.RowKit
open Go.Maps

theorem keyed_int : Keyed Try.prog 3 := int_keyed Try.underlying3
theorem zero_int (w : World) : (zeroValue 3).run Try.prog w = .ok (.int .i64 0) w := by kernel_rfl
/-- What is known of the functions: each one that the map holds captures as many values as the list says. -/
def KnownJ (fl : List FlatD) (kb mb : Nat) (w : World) : Prop :=
  w.heap[kb]? = some (.cells #[.map (some mb)] 98 (0, 0)) ∧ kb ≠ mb ∧ ∃ D : DataW Unit, w.ownsMap Try.prog 3 (plainElem Try.prog 3) mb (Maps.size D) D ∧ Maps.size D ≤ (List.range 4096).countP (fun i : Nat => Maps.has D (.int .i64 (i : Int))) ∧
    ∀ n : Nat, Maps.has D (.int .i64 (n : Int)) = true → D.atKey (.int .i64 (n : Int)) (.lit (.int .i64 0)) = .lit (.int .i64 (fl.getD n default).caps)
theorem count_up {p q : Nat → Bool} (k : Nat) (hpk : p k = false) (hqk : q k = true) (h : ∀ i, p i = true → q i = true) : ∀ l : List Nat, k ∈ l → l.countP p + 1 ≤ l.countP q
  | [], hm => by cases hm
  | x :: r, hm => by
    have mono : ∀ r : List Nat, r.countP p ≤ r.countP q := fun r => List.countP_mono_left fun i _ hi => h i hi
    by_cases e : x = k
    · subst e
      rw [List.countP_cons_of_neg (by simp [hpk]), List.countP_cons_of_pos hqk]
      have := mono r; omega
    · have hm2 : k ∈ r := by
        rcases List.mem_cons.1 hm with e2 | e2
        · exact absurd e2.symm e
        · exact e2
      have ih := count_up k hpk hqk h r hm2
      rw [List.countP_cons, List.countP_cons]
      by_cases hx : p x = true
      · rw [if_pos hx, if_pos (h x hx)]; omega
      · rw [if_neg hx]; split <;> omega
theorem wf_nat (n : Nat) (h : n ≤ 4096) : (Lit.int .i64 (n : Int)).wf = true := WalkArith.wf_i64 (by omega)
theorem own_size {w : World} {b n : Nat} {D : DataW Unit} {k : TypeId} {R : Value → Option (DataW Unit × List MemPlace)} (h : w.ownsMap Try.prog k R b n D) : w.ownsMap Try.prog k R b (Maps.size D) D := by
  obtain ⟨es, clock, hb, F, hs, hD⟩ := h
  refine ⟨es, clock, hb, F, ?_, hD⟩
  subst hD
  rw [show Maps.size (DataW.map ((es.toList.map (WideElems.rg Try.prog k R)).foldr DataW.insert [])) = ((es.toList.map (WideElems.rg Try.prog k R)).foldr DataW.insert []).length from rfl, length_read]
  exact Nat.le_refl _
theorem nat_key (n : Nat) : WideAt.IsKeyLit (.int .i64 (n : Int)) := trivial
theorem known_put {fl : List FlatD} {D : DataW Unit} (hT : Tidy D) (m : Nat) (hm : m < 4096) (hs : Maps.size D ≤ (List.range 4096).countP (fun i : Nat => Maps.has D (.int .i64 (i : Int)))) (ha : ∀ n : Nat, Maps.has D (.int .i64 (n : Int)) = true → D.atKey (.int .i64 (n : Int)) (.lit (.int .i64 0)) = .lit (.int .i64 (fl.getD n default).caps)) :
    Maps.size (D.put (.int .i64 (m : Int)) (.lit (.int .i64 (fl.getD m default).caps))) ≤ (List.range 4096).countP (fun i : Nat => Maps.has (D.put (.int .i64 (m : Int)) (.lit (.int .i64 (fl.getD m default).caps))) (.int .i64 (i : Int))) ∧
    ∀ n : Nat, Maps.has (D.put (.int .i64 (m : Int)) (.lit (.int .i64 (fl.getD m default).caps))) (.int .i64 (n : Int)) = true → (D.put (.int .i64 (m : Int)) (.lit (.int .i64 (fl.getD m default).caps))).atKey (.int .i64 (n : Int)) (.lit (.int .i64 0)) = .lit (.int .i64 (fl.getD n default).caps) := by
  have other : ∀ n : Nat, n ≠ m → (Lit.int .i64 (n : Int)) ≠ (Lit.int .i64 (m : Int)) := fun n hn e => hn (by injection e with _ e2; omega)
  constructor
  · rw [size_put hT]
    have up : ∀ i : Nat, Maps.has D (.int .i64 (i : Int)) = true → Maps.has (D.put (.int .i64 (m : Int)) (.lit (.int .i64 (fl.getD m default).caps))) (.int .i64 (i : Int)) = true := fun i hi => by
      by_cases e : i = m
      · subst e; exact has_put_same hT.isMap (nat_key i) _
      · rw [has_put_other (other i e)]; exact hi
    split
    · exact Nat.le_trans hs (List.countP_mono_left fun i _ hi => up i hi)
    · rename_i hno
      have := count_up (p := fun i : Nat => Maps.has D (.int .i64 (i : Int))) (q := fun i : Nat => Maps.has (D.put (.int .i64 (m : Int)) (.lit (.int .i64 (fl.getD m default).caps))) (.int .i64 (i : Int))) m (by simpa using hno) (has_put_same hT.isMap (nat_key m) _) up (List.range 4096) (List.mem_range.2 hm)
      omega
  · intro n hn
    by_cases e : n = m
    · subst e; exact atKey_put_same hT.isMap (nat_key n) _ _
    · rw [atKey_put_other (other n e)]
      rw [has_put_other (other n e)] at hn
      exact ha n hn
theorem known_look {w : World} {mb n : Nat} {D : DataW Unit} (h : w.ownsMap Try.prog 3 (plainElem Try.prog 3) mb n D) (m : Nat) (hm : m < 4096) :
    ∃ c, (Instr.lookup 98 (.map (some mb)) (.int .i64 (m : Int)) true).run Try.prog w = .ok (.tuple #[.int .i64 c, .bool (Maps.has D (.int .i64 (m : Int)))]) w ∧ D.atKey (.int .i64 (m : Int)) (.lit (.int .i64 0)) = .lit (.int .i64 c) := by
  obtain ⟨v, ps, hrun, hv⟩ := h.look_ok keyed_int Try.underlying98 (zero_int w) (plainElem_int Try.underlying3 (by decide)) (keyOf_int_mk Try.underlying3 (wf_nat m (by omega)))
  obtain ⟨c, rfl, hc, _⟩ := plainElem_int_inv Try.underlying3 hv
  exact ⟨c, hrun, congrArg Prod.fst hc⟩
def KnownOk (fl : List FlatD) (kb mb : Nat) (w : World) (e : Ending) (w' : World) : Prop := e = .returned (.bool true) ∧ KnownJ fl kb mb w' ∧ w.grownBy w' (some mb)
set_option maxHeartbeats 1000000 in
set_option maxRecDepth 100000 in
theorem caps_any (fl : List FlatD) (kb mb m : Nat) (w : World) (h : KnownJ fl kb mb w) (hm : m < 4096) (hc0 : 0 ≤ (fl.getD m default).caps) (hc1 : (fl.getD m default).caps ≤ 1000) :
    Calls Try.prog 55 #[.int .i64 m, .int .i64 (fl.getD m default).caps, .pointer (some ⟨kb, 0, none⟩)] w (KnownOk fl kb mb w) := by
  obtain ⟨hk, hne, D, hown, hsz, hat⟩ := h
  obtain ⟨c, hrun, hc⟩ := known_look hown m hm
  have hcnt : (List.range 4096).countP (fun i : Nat => Maps.has D (.int .i64 (i : Int))) ≤ 4096 := by
    have := List.countP_le_length (p := fun i : Nat => Maps.has D (.int .i64 (i : Int))) (l := List.range 4096)
    rwa [List.length_range] at this
  obtain ⟨w1, hput, hown1, hg⟩ := hown.update (n := Maps.size D) keyed_int Try.underlying98 (by unfold maxLen; omega) (keyOf_int_mk Try.underlying3 (wf_nat m (by omega))) (plainElem_int Try.underlying3 (a := (fl.getD m default).caps) (WalkArith.wf_i64 (by omega)))
  obtain ⟨s1, s2⟩ := known_put (hown.tidy keyed_int) m hm hsz hat
  have HR : Hid (KnownJ fl kb mb w1 ∧ w.grownBy w1 (some mb)) := ⟨⟨(hg.block _ (heap_lt hk) (fun e => hne (Option.some.inj e))).trans hk, hne, _, own_size hown1, s1, s2⟩, hg⟩
  have hh := hat m
  have k0 := (one_cell hk).1
  have hin : inB (m : Int) 0 4095 = true := by unfold inB; simp; omega
  clear hat s1 s2 hg hown1 hcnt hsz hown
  generalize (fl.getD m default).caps = x at *
  obtain ⟨bb, hbb⟩ : ∃ bb, Maps.has D (.int .i64 (m : Int)) = bb := ⟨_, rfl⟩
  rw [hbb] at hrun hh
  clear hbb
  cases bb
  · clear hh hc
    go_enter Try.func55, Try.ntmps55
    go_wp2_with fail
    refine (cwithin_any _ _ _ _).mono ?_
    rintro e w' ⟨rfl, rfl⟩
    rw [hin]
    go_wp2_with fail
    go_ret
    exact ⟨rfl, HR.out⟩
  · have hcx : c = x := by have := hc.symm.trans (hh rfl); injection this with e; injection e
    subst hcx
    clear hh hc
    go_enter Try.func55, Try.ntmps55
    go_wp2_with fail
    refine (cwithin_any _ _ _ _).mono ?_
    rintro e w' ⟨rfl, rfl⟩
    rw [hin]
    go_wp2_with fail
    go_ret
    exact ⟨rfl, HR.out⟩
/-- A closure of a function that the list holds. -/
def okL (fl : List FlatD) (n parts : Int) : Prop := cloV fl n parts = true
theorem known_clo (fl : List FlatD) (hl : fl.length ≤ 4096) (hcaps : ∀ f ∈ fl, 0 ≤ f.caps ∧ f.caps ≤ 1000) (kb mb : Nat) : Clo 55 (.pointer (some ⟨kb, 0, none⟩)) (KnownJ fl kb mb) (some mb) (cloV fl) (okL fl) where
  call w n parts h hok := by
    have ho := hok
    unfold okL cloV at ho
    rw [Bool.and_eq_true] at ho
    obtain ⟨h1, h2⟩ := ho
    obtain ⟨m, rfl⟩ : ∃ m : Nat, n = m := ⟨n.toNat, by unfold inB at h1; simp at h1; omega⟩
    have hml : m < fl.length := by unfold inB at h1; simp at h1; omega
    have hp : (fl.getD m default).caps = parts := by simpa using h2
    subst hp
    have hc := hcaps _ (getD_mem default fl m hml)
    refine (caps_any fl kb mb m w h (by omega) hc.1 hc.2).mono ?_
    rintro e w' ⟨rfl, hJ, hg⟩
    exact ⟨by rw [show cloV fl (m : Int) (fl.getD m default).caps = true from hok], hJ, hg⟩
  kept w w' h hg := by
    obtain ⟨hk, hne, D, hown, hsz, hat⟩ := h
    exact ⟨(hg.block _ (heap_lt hk) (by nofun)).trans hk, hne, D, hown.kept hg (by nofun), hsz, hat⟩
  low w h k hk := by cases hk; obtain ⟨_, _, D, hown, _⟩ := h; exact hown.lt
theorem known_24 (fl : List FlatD) (hl : fl.length ≤ 4096) (hcaps : ∀ f ∈ fl, 0 ≤ f.caps ∧ f.caps ≤ 1000) (kb mb cb : Nat) (caps : Int) : F24 55 (.pointer (some ⟨kb, 0, none⟩)) (KnownJ fl kb mb) (some mb) (cloV fl) (okL fl) cb caps :=
  fun n loc s a k c w hs hC hJ hok hr => form_24L _ _ (some mb) (cloV fl) _ (known_clo fl hl hcaps kb mb) cb caps n loc s a k c w hs hC hJ hok hr
theorem flatL_at {caps : Int} {clo : Int → Int → Bool} {a b : Int} {l : List ExpD} (h : flatL caps clo a b l = true) (i : Nat) (hi : i < l.length) : flatX caps clo (if 0 < i then b else a) (l.getD i default) = true := by
  cases hx : flatX caps clo (if 0 < i then b else a) (l.getD i default)
  · rw [flatL_none a b l i hi hx] at h; cases h
  · rfl
theorem flat_parts {caps : Int} {clo : Int → Int → Bool} {loc op n : Int} {s : ByteArray} {v : Value} {l : List ExpD} (h : flatX caps clo loc (.mk op n s v l) = true) : formB caps clo loc op n s l.length = true ∧ ∀ i, i < l.length → flatX caps clo (lo op loc i) (l.getD i default) = true := by
  unfold flatX at h
  rw [Bool.and_eq_true] at h
  exact ⟨h.1, fun i hi => flatL_at h.2 i hi⟩
theorem cloL_of {ok : Int → Int → Prop} : ∀ {l : List ExpD}, (∀ y ∈ l, cloX ok y) → cloL ok l
  | [], _ => by unfold cloL; trivial
  | x :: r, h => by unfold cloL; exact ⟨h x (List.mem_cons_self ..), cloL_of fun y hy => h y (List.mem_cons_of_mem _ hy)⟩
theorem clo_of_flat {caps : Int} {clo : Int → Int → Bool} (x : ExpD) : ∀ loc, flatX caps clo loc x = true → cloX (fun n p => clo n p = true) x := by
  induction x using ExpD.induct with
  | h op n s lv l ih =>
    intro loc h
    obtain ⟨h1, h2⟩ := flat_parts h
    unfold cloX
    refine ⟨fun e => ?_, cloL_of fun y hy => ?_⟩
    · subst e
      have := (form_24 h1).1
      rw [Bool.and_eq_true] at this
      exact this.2
    · obtain ⟨k, hk, rfl⟩ := List.mem_iff_getElem.1 hy
      have := h2 k hk
      rw [show l.getD k default = l[k] by simp [List.getD, hk]] at this
      exact ih _ hy _ this
def CLocOk (r : Int) (w : World) (e : Ending) (w' : World) : Prop := e = .returned (.tuple #[.int .i64 r, .int .i64 0]) ∧ Below w.heap.size w w'
set_option maxHeartbeats 2000000 in
set_option maxRecDepth 100000 in
theorem cLocals_all (B : Nat) (fl : List FlatD) (hl : fl.length ≤ 4096) (hcaps : ∀ f ∈ fl, 0 ≤ f.caps ∧ f.caps ≤ 1000) (f : FlatD) (w : World) (hBw : B ≤ w.heap.size) (hx : IsExp B w f.body) (hf : funB (cloV fl) f = true) (hs : sizeX f.body ≤ 600) (hh : heightX f.body ≤ 211) :
    Calls Try.prog 32 #[flatDV f] w (CLocOk (locX 1 f.body) w) := by
  have HCF := Lib.hid (fun (kb mb : Nat) (hmb : B ≤ mb) (V : World) (hBV : B ≤ V.heap.size) (hxV : IsExp B V f.body) (hJ : KnownJ fl kb mb V) => cfun_all B (known_clo fl hl hcaps kb mb) f (fun cb => known_24 fl hl hcaps kb mb cb f.caps) (by intro k hk; cases hk; exact hmb) V hBV hxV (clo_of_flat f.body 1 (by have := hf; unfold funB at this; rw [Bool.and_eq_true] at this; exact this.2)) hJ hs hh)
  rw [hf] at HCF
  have HLO := Lib.hid (fun (V : World) (hBV : B ≤ V.heap.size) (hxV : IsExp B V f.body) => clocals_any B f.body 1 V hBV hxV (by omega) (by omega))
  clear hf hs hh hcaps
  obtain ⟨caps, ⟨op, n, s, lv, l⟩⟩ := f
  rw [show flatDV ⟨caps, .mk op n s lv l⟩ = .agg #[.int .i64 caps, .int .i64 op, .int .i64 n, .string s, lv] from rfl] at *
  have HX := Lib.hid hx
  have hmm := @run_makeMap Try.prog
  have g1 := grown_alloc w (.cells #[.int .i64 caps, .int .i64 op, .int .i64 n, .string s, lv] 38)
  have gF := new_heap w (.cells #[.int .i64 caps, .int .i64 op, .int .i64 n, .string s, lv] 38)
  have hb1 := grown_under g1 (Nat.le_refl _) (by nofun)
  clear g1 hx
  go_enter Try.func32, Try.ntmps32
  go_upto_region 1 with fail
  generalize w.alloc (.cells #[.int .i64 caps, .int .i64 op, .int .i64 n, .string s, lv] 38) = W at *
  have g2 := grown_alloc W (.map #[] 0)
  have g3 := grown_alloc (W.alloc (.map #[] 0)) (.cells #[.map (some W.heap.size)] 98)
  have hltF := heap_lt gF
  have gF3 := (g3.block _ (by simp; omega) (by nofun)).trans ((g2.block _ hltF (by nofun)).trans gF)
  have hb3 := (hb1.trans ((grown_under (B := w.heap.size) g2 (by omega) (by nofun)))).trans (grown_under (B := w.heap.size) g3 (by simp; omega) (by nofun))
  have hJ3 : KnownJ fl (W.heap.size + 1) W.heap.size ((W.alloc (.map #[] 0)).alloc (.cells #[.map (some W.heap.size)] 98)) := by
    refine ⟨(congrArg _ (by simp)).trans (new_heap (W.alloc (.map #[] 0)) _), by omega, .map [], ((World.ownsMap_made W Try.prog 3 _).kept g3 (by nofun)), Nat.zero_le _, fun n h => ?_⟩
    rw [show Maps.has (DataW.map (H := Unit) []) (.int .i64 (n : Int)) = false from rfl] at h; cases h
  have hx3 := HX.out.under (hb3.mono hBw)
  have HM := Lib.hid (HCF.out (W.heap.size + 1) W.heap.size (by omega) _ (by have := hb3.size; omega) hx3 hJ3)
  have HB3 := Lib.hid hb3
  have HGF := Lib.hid gF3
  obtain ⟨p0, p1, p2, p3, p4⟩ := five_cells gF3
  clear g2 g3 hJ3 hx3 hb3 gF3 HCF
  go_wp2_with fail
  refine HM.out.mono ?_
  rintro e w4 ⟨rfl, hJ4, hg4⟩
  have hb4 : Below w.heap.size w w4 := HB3.out.trans (grown_under hg4 HB3.out.size (by intro k hk; cases hk; omega))
  have gF4 := (hg4.block _ (heap_lt HGF.out) (by intro e; have := Option.some.inj e; omega)).trans HGF.out
  have HL := Lib.hid (HLO.out w4 (by have := hb4.size; omega) (HX.out.under (hb4.mono hBw)))
  have HB4 := Lib.hid hb4
  rw [expV_mk] at HL
  clear p0 p1 p2 p3 p4 hJ4 hg4 HM hb4
  obtain ⟨p0, p1, p2, p3, p4⟩ := five_cells gF4
  go_wp2_with fail
  refine HL.out.mono ?_
  rintro e w5 ⟨rfl, hb6⟩
  have HBE := Lib.hid (HB4.out.trans (hb6.mono HB4.out.size))
  clear hb6 HL p0 p1 p2 p3 p4
  go_wp2_with fail
  go_ret2
  exact ⟨rfl, HBE.out⟩
end Go.Proofs.Ytidolpcbbbakmaa
