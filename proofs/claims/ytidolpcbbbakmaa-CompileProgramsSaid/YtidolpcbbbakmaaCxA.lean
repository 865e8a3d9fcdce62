/- The map of texts while it is filled. compile.function: the function of byte code of a valid function. -/
import Derived.Test.YtidolpcbbbakmaaCwB
import Derived.Test.YtidolpcbbbakmaaCr4
namespace Go.Proofs.Ytidolpcbbbakmaa
open Go Go.RowKit
open Go.Maps

/-- The first place of a text. -/
def findT : List ByteArray → ByteArray → Option Nat
  | [], _ => none
  | x :: r, s => if x = s then some 0 else (findT r s).map (· + 1)
theorem findT_none : ∀ {l : List ByteArray} {s : ByteArray}, findT l s = none ↔ s ∉ l
  | [], s => by simp [findT]
  | x :: r, s => by
    unfold findT
    by_cases e : x = s
    · rw [if_pos e]; simp [e]
    · rw [if_neg e]
      have ih := findT_none (l := r) (s := s)
      cases h : findT r s with
      | none => simp [ih.1 h, Ne.symm e]
      | some i =>
        have h2 : ¬ (s ∉ r) := fun hn => by rw [ih.2 hn] at h; cases h
        have h3 : s ∈ r := by simpa using h2
        simp [h3]
theorem findT_some : ∀ {l : List ByteArray} {s : ByteArray} {i : Nat}, findT l s = some i → i < l.length ∧ l.getD i default = s ∧ ∀ j, j < i → l.getD j default ≠ s
  | [], s, i, h => by cases h
  | x :: r, s, i, h => by
    unfold findT at h
    by_cases e : x = s
    · rw [if_pos e] at h; cases h
      exact ⟨by simp, by simpa using e, fun j hj => by omega⟩
    · rw [if_neg e] at h
      cases hr : findT r s with
      | none => rw [hr] at h; cases h
      | some k =>
        rw [hr] at h
        simp at h
        subst h
        obtain ⟨h1, h2, h3⟩ := findT_some hr
        refine ⟨by simp; omega, by simpa using h2, fun j hj => ?_⟩
        cases j with
        | zero => simpa using e
        | succ j => simpa using h3 j (by omega)
theorem findT_of {l : List ByteArray} {s : ByteArray} {i : Nat} (h1 : i < l.length) (h2 : l.getD i default = s) (h3 : ∀ j, j < i → l.getD j default ≠ s) : findT l s = some i := by
  cases h : findT l s with
  | none => exact absurd (h2 ▸ (by rw [show l.getD i default = l[i] by simp [List.getD, h1]]; exact List.getElem_mem h1)) (findT_none.1 h)
  | some k =>
    obtain ⟨k1, k2, k3⟩ := findT_some h
    rcases (by omega : k < i ∨ k = i ∨ i < k) with g | g | g
    · exact absurd k2 (h3 k g)
    · rw [g]
    · exact absurd h2 (k3 i g)
theorem findT_snoc (l : List ByteArray) (x s : ByteArray) : findT (l ++ [x]) s = (findT l s).or (if x = s then some l.length else none) := by
  induction l with
  | nil => simp [findT]
  | cons y r ih =>
    rw [List.cons_append]
    unfold findT
    by_cases e : y = s
    · simp [e]
    · rw [if_neg e, if_neg e, ih]
      cases findT r s with
      | none => by_cases hx : x = s <;> simp [hx]
      | some i => simp
def textT (ts : List ByteArray) (s : ByteArray) : Int := ((findT ts s).getD 0 : Nat)
def keyT (s : ByteArray) : Lit := .string s.data.toList
theorem keyT_key (s : ByteArray) : WideAt.IsKeyLit (keyT s) := trivial
theorem keyT_ne {s t : ByteArray} (h : s ≠ t) : keyT s ≠ keyT t := fun e => h (by
  unfold keyT at e
  injection e with e
  cases s; cases t
  simp at e
  rw [ByteArray.mk.injEq]
  exact e)
/-- The map holds the first k texts, each with its first place. -/
def MapT (V : World) (mb : Nat) (ts : List ByteArray) (k : Nat) : Prop :=
  ∃ (n : Nat) (D : DataW Unit), n ≤ k ∧ V.ownsMap Try.prog 9 (plainElem Try.prog 3) mb n D ∧ ∀ s : ByteArray, Maps.has D (keyT s) = (findT (ts.take k) s).isSome ∧ ∀ i, findT (ts.take k) s = some i → D.atKey (keyT s) (.lit (.int .i64 0)) = .lit (.int .i64 (i : Int))
theorem MapT.start {V : World} (ts : List ByteArray) : MapT (V.alloc (.map #[] 0)) V.heap.size ts 0 :=
  ⟨0, .map [], Nat.le_refl _, World.ownsMap_made V _ _ _, fun s => ⟨by rw [List.take_zero]; rfl, fun i h => by rw [List.take_zero] at h; cases h⟩⟩
theorem MapT.stays {V V' : World} {mb : Nat} {ts : List ByteArray} {k : Nat} (h : MapT V mb ts k) (e : V'.heap[mb]? = V.heap[mb]?) : MapT V' mb ts k := by
  obtain ⟨n, D, hn, ⟨es, clock, hb, hr⟩, hat⟩ := h
  exact ⟨n, D, hn, ⟨es, clock, e.trans hb, hr⟩, hat⟩
theorem MapT.lt {V : World} {mb : Nat} {ts : List ByteArray} {k : Nat} (h : MapT V mb ts k) : mb < V.heap.size := by obtain ⟨n, D, _, hown, _⟩ := h; exact hown.lt
set_option maxRecDepth 100000 in
theorem MapT.look {V : World} {mb : Nat} {ts : List ByteArray} {k : Nat} (h : MapT V mb ts k) (s : ByteArray) (hs : s.size ≤ maxLen) : ∃ c, (Instr.lookup 89 (.map (some mb)) (.string s) true).run Try.prog V = .ok (.tuple #[.int .i64 c, .bool (findT (ts.take k) s).isSome]) V := by
  obtain ⟨n, D, hn, hown, hat⟩ := h
  obtain ⟨v, ps, hrun, hv⟩ := hown.look_ok keyed_str Try.underlying89 (zero_int V) (plainElem_int Try.underlying3 (by decide)) (WideMaps.keyOf_string_mk Try.underlying9 hs)
  obtain ⟨c, rfl, hc, _⟩ := plainElem_int_inv Try.underlying3 hv
  refine ⟨c, hrun.trans ?_⟩
  rw [show Maps.has D (.string s.data.toList) = _ from (hat s).1]
theorem MapT.same {V : World} {mb : Nat} {ts : List ByteArray} {k : Nat} (h : MapT V mb ts k) (hk : k < ts.length) (hm : (findT (ts.take k) (ts.getD k default)).isSome = true) : MapT V mb ts (k + 1) := by
  obtain ⟨n, D, hn, hown, hat⟩ := h
  refine ⟨n, D, by omega, hown, fun s => ?_⟩
  have : findT (ts.take (k + 1)) s = findT (ts.take k) s := by
    rw [take_one default ts k hk, findT_snoc]
    by_cases e : ts.getD k default = s
    · subst e
      cases h : findT (ts.take k) (ts.getD k default) with
      | none => rw [h] at hm; cases hm
      | some i => rfl
    · rw [if_neg e, Option.or_none]
  rw [this]; exact hat s
set_option maxRecDepth 100000 in
theorem MapT.put {V : World} {mb : Nat} {ts : List ByteArray} {k : Nat} (h : MapT V mb ts k) (hk : k < ts.length) (hk2 : k ≤ 1000000) (hm : (findT (ts.take k) (ts.getD k default)).isSome = false) (hs : (ts.getD k default).size ≤ maxLen) :
    ∃ V', (Instr.mapUpdate 89 (.map (some mb)) (.string (ts.getD k default)) (.int .i64 (k : Int))).run Try.prog V = .ok () V' ∧ MapT V' mb ts (k + 1) ∧ V.grownBy V' (some mb) := by
  obtain ⟨n, D, hn, hown, hat⟩ := h
  obtain ⟨V', hrun, hown', hg⟩ := hown.update keyed_str Try.underlying89 (by unfold maxLen; omega) (WideMaps.keyOf_string_mk Try.underlying9 hs) (plainElem_int Try.underlying3 (a := (k : Int)) (WalkArith.wf_i64 (by omega)))
  refine ⟨V', hrun, ⟨n + 1, _, by omega, hown', fun s => ?_⟩, hg⟩
  have hno : ts.getD k default ∉ ts.take k := findT_none.1 (by cases h : findT (ts.take k) (ts.getD k default) with | none => rfl | some i => rw [h] at hm; cases hm)
  have hD := hown.isMap
  have hlen : (ts.take k).length = k := by rw [List.length_take]; omega
  rw [take_one default ts k hk, findT_snoc, hlen]
  by_cases e : ts.getD k default = s
  · subst e
    rw [findT_none.2 hno, if_pos rfl]
    exact ⟨has_put_same hD (keyT_key _) _, fun i hi => by cases hi; exact atKey_put_same hD (keyT_key _) _ _⟩
  · have hne : keyT s ≠ keyT (ts.getD k default) := keyT_ne (Ne.symm e)
    have h1 : Maps.has (D.put (keyT (ts.getD k default)) (.lit (.int .i64 (k : Int)))) (keyT s) = Maps.has D (keyT s) := has_put_other hne _
    have h2 : (D.put (keyT (ts.getD k default)) (.lit (.int .i64 (k : Int)))).atKey (keyT s) (.lit (.int .i64 0)) = D.atKey (keyT s) (.lit (.int .i64 0)) := atKey_put_other hne _ _
    have h3 : (findT (ts.take k) s).or (if ts.getD k default = s then some k else none) = findT (ts.take k) s := by rw [if_neg e, Option.or_none]
    rw [h3]
    exact ⟨h1.trans (hat s).1, fun i hi => h2.trans ((hat s).2 i hi)⟩
theorem MapT.done {V : World} {mb : Nat} {ts : List ByteArray} (h : MapT V mb ts ts.length) : TextMap V mb (textT ts) := by
  obtain ⟨n, D, hn, hown, hat⟩ := h
  refine ⟨n, D, hown, fun s _ => ?_⟩
  obtain ⟨h1, h2⟩ := hat s
  rw [List.take_length] at h1 h2
  cases h : findT ts s with
  | none =>
    rw [h] at h1
    show D.atKey (keyT s) _ = _
    rw [atKey_of_not_has h1]
    unfold textT; rw [h]; rfl
  | some i =>
    show D.atKey (keyT s) _ = _
    rw [h2 i h]
    unfold textT; rw [h]; rfl
end Go.Proofs.Ytidolpcbbbakmaa
namespace Go.Proofs.Ytidolpcbbbakmaa
open Go Go.RowKit
open Go.Maps

/-- What function answers: the function, whose code is that of the body. -/
def FnOk2 (ts : List ByteArray) (f : FlatD) (w : World) (e : Ending) (w' : World) : Prop :=
  ∃ (code : List Ins) (d : Int) (cv : Value), e = .returned (.tuple #[.agg #[.int .i64 f.caps, .int .i64 (locX 1 f.body), .int .i64 d, cv], .int .i64 0]) ∧ IsCode w' cv code ∧ Whole code (textT ts) f.body ∧ DepOk code d 0 ∧ Below w.heap.size w w' ∧ ∀ g, cv.ownBlock = some g → w.heap.size ≤ g
theorem whole_of {M : List Ins} {T : ByteArray → Int} {x : ExpD} (hw : wideX x) (h : CodeX M T 1 x 0) (hl : M.length = clenX x) : Whole (M ++ [⟨9, 0, 0⟩]) T x := by
  refine ⟨code_stays x hw _ _ h fun i _ hi => List.getElem?_append_left (by omega), by simp [hl], ?_⟩
  rw [← hl, List.getElem?_append_right (Nat.le_refl _), Nat.sub_self]; rfl
set_option maxHeartbeats 4000000 in
set_option maxRecDepth 100000 in
theorem cfunF_any (B : Nat) (fl : List FlatD) (hl : fl.length ≤ 4096) (hcaps : ∀ f ∈ fl, 0 ≤ f.caps ∧ f.caps ≤ 1000) (f : FlatD) (tv : Value) (ts : List ByteArray) (w : World) (hBw : B ≤ w.heap.size) (hx : IsExp B w f.body) (hf : funB (cloV fl) f = true) (hs : sizeX f.body ≤ 600) (hh : heightX f.body ≤ 211) (ht : IsTexts w tv ts) (htl : ts.length ≤ 1000000) (hts : ∀ s ∈ ts, s.size ≤ maxLen) :
    Calls Try.prog 20 #[flatDV f, tv] w (FnOk2 ts f w) := by
  have hmm := @run_makeMap Try.prog
  have hfx : flatX f.caps (cloV fl) 1 f.body = true := by have := hf; unfold funB at this; rw [Bool.and_eq_true] at this; exact this.2
  have HFX := Lib.hid hfx
  have HWX := Lib.hid (wide_of_flat _ _ hfx)
  have hcl := clen_le f.body
  have hlg := loc_ge f.body 1
  have hll := loc_le f.body 1
  have hlocx : 1 ≤ locX 1 f.body ∧ locX 1 f.body ≤ 300 := ⟨hlg, by omega⟩
  have hcl2 : clenX f.body ≤ 1800 := by omega
  have HLO := Lib.hid (fun (V : World) (hBV : B ≤ V.heap.size) (hxV : IsExp B V f.body) => cLocals_all B fl hl hcaps f V hBV hxV hf hs hh)
  have HEX := Lib.hid (fun (mb : Nat) (hmb : B ≤ mb) => exp_all f.caps (cloV fl) (textT ts) (mb + 1) mb (mb + 1 + 1) B f.body)
  have HT := Lib.hid ht
  have HTS := Lib.hid hts
  have HX := Lib.hid hx
  obtain ⟨ta, tc, rfl, htc, _⟩ := ht
  obtain ⟨caps, ⟨op, n, s, lv, l⟩⟩ := f
  obtain ⟨la, lc, hlv, _⟩ := hx.parts.1
  subst hlv
  rw [show flatDV ⟨caps, .mk op n s (.slice la l.length lc) l⟩ = .agg #[.int .i64 caps, .int .i64 op, .int .i64 n, .string s, .slice la l.length lc] from rfl] at *
  have hb : Below w.heap.size w ((w.alloc (.cells #[.int .i64 caps, .int .i64 op, .int .i64 n, .string s, .slice la l.length lc] 38)).alloc (.cells #[.int .i64 0, .int .i64 0, .int .i64 0, .slice none 0 0] 45)) := ((Below.refl _ _).alloc (Nat.le_refl _) _).alloc (by simp) _
  have gP : ((w.alloc (.cells #[.int .i64 caps, .int .i64 op, .int .i64 n, .string s, .slice la l.length lc] 38)).alloc (.cells #[.int .i64 0, .int .i64 0, .int .i64 0, .slice none 0 0] 45)).heap[w.heap.size]? = some (.cells #[.int .i64 caps, .int .i64 op, .int .i64 n, .string s, .slice la l.length lc] 38 (0, 0)) := (Below.heap_alloc _ _ _ (by simp)).trans (new_heap w _)
  have gR : ((w.alloc (.cells #[.int .i64 caps, .int .i64 op, .int .i64 n, .string s, .slice la l.length lc] 38)).alloc (.cells #[.int .i64 0, .int .i64 0, .int .i64 0, .slice none 0 0] 45)).heap[w.heap.size + 1]? = some (.cells #[.int .i64 0, .int .i64 0, .int .i64 0, .slice none 0 0] 45 (0, 0)) := (congrArg _ (by simp)).trans (new_heap (w.alloc _) _)
  change 1 ≤ locX 1 (.mk op n s (.slice la l.length lc) l) ∧ locX 1 (.mk op n s (.slice la l.length lc) l) ≤ 300 at hlocx
  change clenX (.mk op n s (.slice la l.length lc) l) ≤ 1800 at hcl2
  have HSZ : Hid (sizeX (.mk op n s (.slice la l.length lc) l) ≤ 600 ∧ heightX (.mk op n s (.slice la l.length lc) l) ≤ 211) := ⟨hs, hh⟩
  obtain ⟨lx, hlx⟩ : ∃ lx, locX 1 (.mk op n s (.slice la l.length lc) l) = lx := ⟨_, rfl⟩
  have HLX := Lib.hid hlx
  rw [hlx] at hlocx
  clear hlx hx hf hs hh hts hfx hlg hll hcl hcaps hl
  go_enter Try.func20, Try.ntmps20
  go_upto_region 1 with fail
  generalize ((w.alloc (.cells #[.int .i64 caps, .int .i64 op, .int .i64 n, .string s, .slice la l.length lc] 38)).alloc (.cells #[.int .i64 0, .int .i64 0, .int .i64 0, .slice none 0 0] 45)) = W at *
  obtain ⟨p0, p1, p2, p3, p4⟩ := five_cells gP
  have HL := Lib.hid (HLO.out W (by have := hb.size; omega) (HX.out.under (hb.mono hBw)))
  rw [show (⟨caps, .mk op n s (.slice la l.length lc) l⟩ : FlatD).body = .mk op n s (.slice la l.length lc) l from rfl, HLX.out] at HL
  go_wp2_with fail
  refine HL.out.mono ?_
  rintro e w2 ⟨rfl, hb2⟩
  have gP2 := (hb2.block _ (heap_lt gP)).trans gP
  have gR2 := (hb2.block _ (heap_lt gR)).trans gR
  have hbb := hb.trans (hb2.mono hb.size)
  clear gP gR hb hb2 p0 p1 p2 p3 p4 HL
  go_wp2_with fail
  generalize hw3 : (w2.alloc (.map #[] 0)) = w3
  generalize hw4 : (w3.alloc (.cells #[.slice none 0 0, .map (some w2.heap.size)] 91)) = w4
  have hg1 : w2.grownBy w3 none := hw3 ▸ grown_alloc w2 _
  have hg2 : w3.grownBy w4 none := hw4 ▸ grown_alloc w3 _
  have hz3 : w3.heap.size = w2.heap.size + 1 := by subst hw3; simp
  have hz4 : w4.heap.size = w2.heap.size + 1 + 1 := by subst hw4; simp [hz3]
  have gW4 : w4.heap[w2.heap.size + 1]? = some (.cells #[.slice none 0 0, .map (some w2.heap.size)] 91 (0, 0)) := by subst hw4; rw [← hz3]; exact new_heap w3 _
  have hM3 : MapT w3 w2.heap.size ts 0 := hw3 ▸ MapT.start ts
  have HM4 := Lib.hid (hM3.stays (hg2.block _ (by omega) (by nofun)))
  clear hw3 hw4 hM3
  have hl0 := hbb.size
  have hl1 := heap_lt gP2
  have hl2 := heap_lt gR2
  have hgN := grown_both hg1 hg2
  have gP4 := (hgN.block _ hl1 (by nofun)).trans gP2
  have gR4 := (hgN.block _ hl2 (by nofun)).trans gR2
  have HB4 := Lib.hid (hbb.trans (grown_under (B := w.heap.size) hgN hl0 (by nofun)))
  have hBz : w2.heap.size + 1 + 1 ≤ w4.heap.size := by omega
  have HGP4 := Lib.hid gP4
  have HGR4 := Lib.hid gR4
  have HGW4 := Lib.hid gW4
  clear hg1 hg2 gW4 hgN gP2 gR2 hbb gP4 gR4 HLO
  generalize w2.heap.size = wm at *
  clear hz3 hz4
  go_loopw [27] (fun i wr => ∃ k : Nat, k ≤ ts.length ∧ i = .int .i64 k ∧ Hid (MapT wr wm ts k) ∧ Hid (w4.grownBy wr (some wm))) (fun i _ => ts.length - (intOf i).toNat)
  case atStart => exact ⟨0, Nat.zero_le _, rfl, HM4, ⟨rfl, rfl, rfl, Nat.le_refl _, fun _ _ _ => rfl⟩⟩
  case round =>
    obtain ⟨k, hk, rfl, HM, HG⟩ := hrel
    have hBr : Below w.heap.size w wr := HB4.out.trans (grown_under (B := w.heap.size) HG.out HB4.out.size (fun j hj => by cases hj; omega))
    have gWr := (HG.out.block _ (heap_lt HGW4.out) (by simp)).trans HGW4.out
    have hzr := HG.out.size
    by_cases hkl : k < ts.length
    · obtain ⟨d0, d1⟩ := w_cells gWr
      have ht2 : IsTexts wr (.slice ta ts.length tc) ts := IsRow.below HT.out hBr
      obtain ⟨tb, toff, tc', hta, _, _, t0⟩ := texts_at ht2 k hkl
      obtain rfl := (Value.slice.inj hta).1
      have hsz := HTS.out _ (getD_mem default ts k hkl)
      obtain ⟨c, hlook⟩ := HM.out.look (ts.getD k default) hsz
      have HSAME := Lib.hid (HM.out.same hkl)
      have HPUT := Lib.hid (fun hm => HM.out.put hkl (by omega) hm hsz)
      obtain ⟨bb, hbb⟩ : ∃ bb, (findT (ts.take k) (ts.getD k default)).isSome = bb := ⟨_, rfl⟩
      rw [hbb] at hlook HSAME HPUT
      generalize ts.getD k default = x at *
      clear hta ht2 hbb hsz
      cases bb
      · obtain ⟨V', hput, hM2, hg2⟩ := HPUT.out rfl
        have HM2 := Lib.hid hM2
        have HG2 := Lib.hid (both HG.out hg2)
        clear hM2 hg2
        go_wp2_with fail
        go_roundw
        case rel => exact ⟨k + 1, by omega, by go_num, HM2, HG2⟩
        case measure => simp [intOf]; omega
      · have HM2 := Lib.hid (HSAME.out rfl)
        go_wp2_with fail
        go_roundw
        case rel => exact ⟨k + 1, by omega, by go_num, HM2, HG⟩
        case measure => simp [intOf]; omega
    · obtain rfl : k = ts.length := by omega
      have hT := HM.out.done
      have gPr := (HG.out.block _ (heap_lt HGP4.out) (by simp; omega)).trans HGP4.out
      have gRr := (HG.out.block _ (heap_lt HGR4.out) (by simp; omega)).trans HGR4.out
      have hWg : Wg wr (wm + 1) wm (wm + 1 + 1) B (.slice none 0 0) [] (textT ts) := ⟨⟨gWr, World.ownsRow_nil _ _ _ _, Nat.lt_succ_self _⟩, hT, by omega, Nat.lt_succ_self _, by omega⟩
      have HWg := Lib.hid hWg
      have HXX := Lib.hid (HEX.out wm (by omega) 1 _ [] wr hWg (HX.out.under (hBr.mono hBw)) HFX.out (by omega) (by have h1 := HSZ.out.2; show 1 + (heightX (.mk op n s (.slice la l.length lc) l) : Int) ≤ 100000; omega) (by show 0 + clenX (.mk op n s (.slice la l.length lc) l) ≤ 100000; omega))
      rw [expV_mk] at HXX
      have HBr := Lib.hid hBr
      obtain ⟨p0, p1, p2, p3, p4⟩ := five_cells gPr
      clear hWg hT hBr gWr HEX
      go_wp2_with fail
      refine HXX.out.mono ?_
      rintro e w5 ⟨rfl, cv5, L5, hW5, hE5, hl5, _, hc5⟩
      have gP5 := (hE5.kept _ (heap_lt gPr) (by omega) (by nofun)).trans gPr
      have gR5 := (hE5.kept _ (heap_lt gRr) (by omega) (by nofun)).trans gRr
      have hs5 := hE5.size
      have hb5 := HBr.out.trans (hE5.below (B := w.heap.size) (by omega) (by omega) (by nofun))
      have hcc5 := owns_lt hW5.own
      have HM := Lib.hid (emit2_any (wm + 1) wm (wm + 1 + 1) cv5 L5 9 0 0 w5 hW5 (by omega) (by rw [hl5]; show 0 + _ ≤ _; omega))
      have hl5' : L5.length = clenX (.mk op n s (.slice la l.length lc) l) := by rw [hl5]; show 0 + _ = _; omega
      have HWH := Lib.hid (whole_of HWX.out hc5 hl5')
      clear p0 p1 p2 p3 p4 gPr gRr hE5 hW5 HXX hc5 hl5
      go_wp2_with fail
      refine HM.out.mono ?_
      rintro e w6 ⟨rfl, cv6, hW6, hE6⟩
      have gP6 := (hE6.kept _ (heap_lt gP5) (by omega) (fun e => by have := (hcc5 _ e).1; omega)).trans gP5
      have gR6 := (hE6.kept _ (heap_lt gR5) (by omega) (fun e => by have := (hcc5 _ e).1; omega)).trans gR5
      have hs6 := hE6.size
      have hb6 := hb5.trans (hE6.below (B := w.heap.size) (by omega) (by omega) (fun k e => by have := (hcc5 _ e).1; omega))
      obtain ⟨code, hcode⟩ : ∃ code, L5 ++ [⟨9, 0, 0⟩] = code := ⟨_, rfl⟩
      have hcl6 : code.length ≤ 2000 := by rw [← hcode, List.length_append, hl5']; simp; omega
      rw [hcode] at hW6 HWH
      have hI6 : IsCode w6 cv6 code := isRow_owns hW6.own
      have hd6 := depth_any cv6 code w6 hI6 (by omega)
      have gW6 := hW6.blk
      have HI6 := Lib.hid hI6
      have HO6 := Lib.hid hW6.own
      obtain ⟨ca, cc, rfl, _⟩ := hI6
      have HD := Lib.hid hd6
      obtain ⟨s0, s1⟩ := w_cells gW6
      clear hd6 hE6 hW6 HM gP5 gR5 hb5 hcc5 hcode
      go_wp2_with fail
      refine HD.out.mono ?_
      rintro e w7 ⟨r, er, rfl, hdep, hb7⟩
      obtain ⟨he0, hr0, hr1⟩ := code_depth HFX.out HWH.out hdep
      subst he0
      have hr2 : r ≤ 700 := by
        have := HSZ.out.1
        have h2 : r ≤ (sizeX (.mk op n s (.slice la l.length lc) l) : Int) + 1 := hr1
        omega
      have gP7 := (hb7.block _ (heap_lt gP6)).trans gP6
      have gR7 := (hb7.block _ (heap_lt gR6)).trans gR6
      have gW7 := (hb7.block _ (heap_lt gW6)).trans gW6
      have hbe := hb6.trans (hb7.mono hb6.size)
      have HO7 := Lib.hid (owns_grown HO6.out (grown_below hb7) (by nofun))
      have HDEP := Lib.hid hdep
      clear gP6 gR6 gW6 s0 s1 hb6 hb7 HD hdep hr1
      obtain ⟨p0, p1, p2, p3, p4⟩ := five_cells gP7
      obtain ⟨s0, s1⟩ := w_cells gW7
      have hfz : w7.frozen? ⟨w.heap.size + 1, 0, none⟩ = false := Lib.frozen_of_heap gR7 0
      obtain ⟨q0, q1, q2, q3⟩ := fun_cells gR7
      obtain ⟨cn, hcn⟩ : ∃ cn, code.length = cn := ⟨_, rfl⟩
      rw [hcn] at hcl6
      have HCN := Lib.hid hcn
      go_upto_region 17 with fail
      obtain ⟨gr, hgr⟩ := set4 gR7 (.int .i64 caps) (.int .i64 lx) (.int .i64 r) (.slice ca cn cc)
      have hbf := hbe.trans (grown_under (B := w.heap.size) hgr (by have := hbe.size; omega) (fun k hk => by cases hk; omega))
      have hfz1 : w7.frozen? ⟨w.heap.size + 1, 1, none⟩ = false := Lib.frozen_of_heap gR7 1
      have hfz2 : w7.frozen? ⟨w.heap.size + 1, 2, none⟩ = false := Lib.frozen_of_heap gR7 2
      have hfz3 : w7.frozen? ⟨w.heap.size + 1, 3, none⟩ = false := Lib.frozen_of_heap gR7 3
      have HG := Lib.hid gr
      have HBF := Lib.hid hbf
      have HIF : Hid (IsCode (((((w7.setCell ⟨w.heap.size + 1, 0, none⟩ (.int .i64 caps)).setCell ⟨w.heap.size + 1, 1, none⟩ (.int .i64 lx)).setCell ⟨w.heap.size + 1, 2, none⟩ (.int .i64 r)).setCell ⟨w.heap.size + 1, 3, none⟩ (.slice ca cn cc)).drew) (.slice ca cn cc) code) := IsRow.below (by have h := isRow_owns (owns_grown HO7.out hgr (fun k hk e => by cases hk; have := (owns_lt HO7.out _ e).1; omega)); rw [hcn] at h; rw [hcn]; exact h) (Below.refl _ _).drew
      clear hgr hbe gr hbf
      go_region
      all_goals go_wp2_with fail
      all_goals
        have hg1 := HG.out
        refine bodyPost_ret (v := .tuple #[.agg #[.int .i64 caps, .int .i64 lx, .int .i64 r, .slice ca cn cc], .int .i64 0]) ?_ rfl ⟨code, r, .slice ca cn cc, by rw [← HLX.out], HIF.out, HWH.out, HDEP.out, HBF.out.drew, fun g hg => by have := (owns_lt HO7.out g (by rw [hcn]; exact hg)).1; omega⟩
        rw [results_cell_tmp (p := 4) (u := 5) (ty := 45) rfl]
        simp [asAddr, run_loadVar_row (((((w7.setCell { block := w.heap.size + 1, off := 0 } (Value.int IntKind.i64 caps)).setCell
                      { block := w.heap.size + 1, off := 1 } (Value.int IntKind.i64 lx)).setCell
                  { block := w.heap.size + 1, off := 2 } (Value.int IntKind.i64 r)).setCell
              { block := w.heap.size + 1, off := 3 } (Value.slice ca cn cc)).drew) _ _ _ _ _ _ hg1 Try.underlying45 rfl fun_info, Result.andThen]
        try rfl
end Go.Proofs.Ytidolpcbbbakmaa
