/- a part. -/
import Derived.Test.YtgpohemcfgepeaaGreatT7
import Derived.Test.YtgpohemcfgepeaaGreatT3
import Derived.Test.YtgpohemcfgepeaaGreatT8
import Derived.BigRegion
import Derived.Test.YtgpohemcfgepeaaGreatGB
namespace Go.Proofs.YtgpohemcfgepeaaGreat
open Go.RowKit Go.MapKept
theorem rise_sorted : ∀ (l : List ByteArray) (prev : Option ByteArray), riseFrom prev l = true → KSorted l ∧ ∀ y, prev = some y → ∀ k ∈ l, kLt y k = true
  | [], _, _ => ⟨List.Pairwise.nil, fun _ _ _ h => by cases h⟩
  | x :: l, prev, h => by
    unfold riseFrom at h
    simp only [Bool.and_eq_true] at h
    obtain ⟨⟨_, h2⟩, h3⟩ := h
    obtain ⟨i1, i2⟩ := rise_sorted l (some x) h3
    refine ⟨List.pairwise_cons.2 ⟨fun k hk => i2 x rfl k hk, i1⟩, fun y hy k hk => ?_⟩
    subst hy
    have hyx : kLt y x = true := by
      have h4 : (!strLe x y) = true := h2
      rw [strLe_iff, Bool.not_not] at h4
      exact h4
    rcases List.mem_cons.1 hk with rfl | hk
    · exact hyx
    · exact kLt_trans hyx (i2 x rfl k hk)
theorem riseP_sorted {l : List ByteArray} (h : riseP l = true) : KSorted l := (rise_sorted l none h).1
theorem leafP_sorted {l : List PairD} (h : leafP l = true) : Sorted l := by
  unfold leafP at h
  simp only [Bool.and_eq_true] at h
  have h2 := riseP_sorted h.2
  unfold KSorted at h2
  rw [List.pairwise_map] at h2
  exact h2
structure PgD (p : PageD) (d : Int) : Prop where
  f : PgF p
  kind : p.kind = kindAt d
  pairs : p.pairs.length ≤ 6
  keys : p.keys.length ≤ 12
  one : p.kind = 2 → 1 ≤ p.keys.length
  kinds : p.kind = 1 ∨ p.kind = 2
  ks : p.kind = 2 → KSorted p.keys
  ps : p.kind = 1 → Sorted p.pairs
  pos : p.kind = 1 → 1 ≤ p.pairs.length
theorem pageK_D {T : StD} {n d : Int} (h : (pageK T n d).2 = 0) : PgD (pageK T n d).1 d := by
  obtain ⟨a, b, c, e, f⟩ := pageK_F h
  have h12 : (pageK T n d).1.kind = 1 ∨ (pageK T n d).1.kind = 2 := by
    rw [b]; unfold kindAt; split
    · exact .inl rfl
    · exact .inr rfl
  have hck : (pageK T n d).1.check = true := by
    unfold pageK at h h12 ⊢
    split at h
    · cases h
    · rename_i hc
      rw [if_neg hc] at h12 ⊢
      unfold StD.page pageD at h h12 ⊢
      split at h
      · rename_i hz; exact absurd h hz
      · rename_i hz
        rw [if_neg hz] at h12 ⊢
        split at h
        · cases h
        · rename_i p hp
          split at h
          · cases h
          · rename_i h4
            rw [if_neg h4]
            exact (okAt_parts (dec_some hp).1).1
  refine ⟨a, b, c, e, f, h12, fun hk => ?_, fun hk => ?_, fun hk => ?_⟩
  rotate_left 2
  · unfold PageD.check at hck
    rw [if_pos hk] at hck
    simp only [Bool.and_eq_true] at hck
    have h := hck.1.1.1.1
    unfold leafP at h
    simp only [Bool.and_eq_true, decide_eq_true_eq] at h
    exact h.1.1.2
  · unfold PageD.check at hck
    rw [if_neg (by omega), if_pos hk] at hck
    simp only [Bool.and_eq_true] at hck
    exact riseP_sorted hck.1.1.1.1.1.2
  · unfold PageD.check at hck
    rw [if_pos hk] at hck
    simp only [Bool.and_eq_true] at hck
    exact leafP_sorted hck.1.1.1.1
theorem kidN_at {ks : List ByteArray} {key : ByteArray} (h : KSorted ks) : ∀ j (hj : j < ks.length), (!strLe ks[j] key) = decide (kidN ks key ≤ j) := fun j hj => by
  have hw := takeWhile_at (f := fun k => !kLt key k) ks
  rw [strLe_iff, Bool.not_not]
  by_cases hc : kidN ks key ≤ j
  · rw [decide_eq_true hc]
    have hl : kidN ks key < ks.length := by omega
    have h1 := hw.1 ks[kidN ks key] (List.getElem?_eq_getElem hl)
    have h2 : kLt key ks[kidN ks key] = true := by simpa using h1
    by_cases he : kidN ks key = j
    · subst he; exact h2
    · exact kLt_trans h2 (ksorted_lt h (by omega : kidN ks key < j) (List.getElem?_eq_getElem hl) (List.getElem?_eq_getElem hj))
  · rw [decide_eq_false hc]
    have h1 := hw.2 j ks[j] (by unfold kidN at hc; omega) (List.getElem?_eq_getElem hj)
    simpa using h1
theorem findN_at {l : List PairD} {key : ByteArray} (h : Sorted l) : ∀ i (hi : i < l.length), Op.bytesLess l[i].1.toList key.toList = decide (i < findN l key) := fun i hi => by
  have hw := takeWhile_at (f := fun x : PairD => kLt x.1 key) l
  by_cases hc : i < findN l key
  · rw [decide_eq_true hc]
    exact hw.2 i l[i] hc (List.getElem?_eq_getElem hi)
  · rw [decide_eq_false hc]
    have hl : findN l key < l.length := by omega
    have h1 := hw.1 l[findN l key] (List.getElem?_eq_getElem hl)
    by_cases he : findN l key = i
    · subst he; exact h1
    · cases h2 : Op.bytesLess l[i].1.toList key.toList with
      | false => rfl
      | true =>
        have h3 : kLt l[findN l key].1 l[i].1 = true := (List.pairwise_iff_getElem.1 h) _ _ hl hi (by omega)
        have h4 : kLt l[findN l key].1 key = true := kLt_trans h3 h2
        rw [h4] at h1; cases h1
theorem settleK_F {T : StD} {p c : PageD} {i : Nat} {d : Int} (hp : PgF p) (hk : p.kind = 2) (h12 : p.keys.length ≤ 12) (hi : i ≤ p.keys.length) (h1 : 1 ≤ p.keys.length) (h0 : (settleK T p i d c).2.1 = 0) : PgF (settleK T p i d c).1 ∧ (settleK T p i d c).1.kind = 2 := by
  have hkk : p.kids.length = p.keys.length + 1 := by
    rcases hp.form with h | h
    · omega
    · exact h.2.2
  have key : ∀ (T : StD) (fr tt : Nat) (c : PageD), fr ≤ tt → tt ≤ p.keys.length → (putK T p i fr tt c).2.1 = 0 → PgF (putK T p i fr tt c).1 ∧ (putK T p i fr tt c).1.kind = 2 := fun T fr tt c h2 h3 h0 => by
    unfold putK at h0 ⊢
    split at h0
    · rename_i hz; exact absurd h0 hz
    · rename_i hz
      rw [if_neg hz]
      refine ⟨branchPg_F ?_ ?_, rfl⟩
      · have hl : (layK T (p.kids.getD i 0) c).2.1.length ≤ 1 := by
          unfold layK; split
          · simp
          · split <;> simp
        simp only [List.length_append, List.length_take, List.length_drop]; omega
      · have hl : (layK T (p.kids.getD i 0) c).1.length = (layK T (p.kids.getD i 0) c).2.1.length + 1 := by
          unfold layK at hz ⊢
          split
          · simp
          · rename_i hq
            rw [if_neg hq] at hz
            split
            · rename_i h5
              rw [if_pos h5] at hz
              exact absurd h5 hz
            · simp
        simp only [List.length_append, List.length_take, List.length_drop]; omega
  unfold settleK at h0 ⊢
  split at h0
  · rename_i ha
    rw [if_pos ha]
    split at h0
    · rename_i hz; exact absurd h0 hz
    · rename_i hz
      rw [if_neg hz]
      split at h0
      · cases h0
      · rename_i hy
        rw [if_neg hy]
        exact key _ _ _ _ (by omega) (by omega) h0
  · rename_i ha
    rw [if_neg ha]
    exact key _ _ _ _ (Nat.le_refl _) hi h0
theorem layK_good {T : StD} (h : T.good) (old : Int) (p : PageD) : (layK T old p).2.2.2.good := by
  unfold layK
  split
  · exact h.lay _ _
  · split
    · exact h.lay _ _
    · exact (h.lay _ _).lay _ _
theorem putK_good {T : StD} (h : T.good) (p : PageD) (i fr tt : Nat) (c : PageD) : (putK T p i fr tt c).2.2.good := by
  unfold putK
  split <;> exact layK_good h _ _
theorem settleK_good {T : StD} (h : T.good) (p : PageD) (i : Nat) (d : Int) (c : PageD) : (settleK T p i d c).2.2.good := by
  unfold settleK
  split
  · split
    · exact h
    · split
      · exact (h.drop _).1
      · exact putK_good (h.drop _).1 _ _ _ _ _
  · exact putK_good h _ _ _ _ _
end Go.Proofs.YtgpohemcfgepeaaGreat

namespace Go.Proofs.YtgpohemcfgepeaaGreat
open Go.RowKit Go.MapKept
theorem ok_pool {w : World} {sb b ml mc fm : Nat} {T : StD} (h : StoAt w sb b ml mc fm T) (hg : T.good) : PoolOk T.pool := (hg.ok h.dev.fine.n4).1
theorem TrAt.writtenE {w w' : World} {tb sb b ml mc fm : Nat} {t : TrD} {r d c : Int} (h : TrAt w tb sb b ml mc fm t) (hf : Fr [tb] w w') (hb : w'.heap[tb]? = some (.cells (trL sb r d c) 83 (0, 0))) : TrAt w' tb sb b ml mc fm ⟨t.st, r, d, c⟩ ∧ Fr [tb, sb, fm, b, ml, mc] w w' ∧ ((fm = fm ∨ w.heap.size ≤ fm) ∧ ApK w sb w') := by
  have hne := h.ne
  have hsb : sb ∉ [tb] := fun e => hne (by simp at e; simp [e])
  exact ⟨⟨hb, h.sto.beside h.ap hf (by intro x hx; simp at hx; subst hx; exact noByte_tr h.blk) (by intro x hx; simp at hx; subst hx; exact hne), h.ap.kept hf h.sto.lt.1 hsb⟩, hf.mono (by simp), .inl rfl, .ofFr hf h.sto.lt.1 hsb⟩
theorem TrAt.storedE {w w' : World} {tb sb b ml mc fm fm' : Nat} {t : TrD} {T : StD} (h : TrAt w tb sb b ml mc fm t) (h1 : StoAt w' sb b ml mc fm' T) (h2 : Fr [sb, fm, b, ml, mc] w w') (h4 : ApK w sb w') : TrAt w' tb sb b ml mc fm' { t with st := T } :=
  ⟨h2.heap h.blk h.ne, h1, h4 [tb] (by intro x hx; simp at hx; subst hx; exact h.lt) h.ap⟩
theorem layK_len2 (T : StD) (old : Int) (p : PageD) : (layK T old p).2.2.1 = 0 → (layK T old p).1.length = (layK T old p).2.1.length + 1 := fun h => by
  unfold layK at h ⊢
  split at h
  · rename_i hq; rw [if_pos hq]; rfl
  · rename_i hq
    rw [if_neg hq]
    split at h
    · rename_i h5; exact absurd h h5
    · rename_i h5; rw [if_neg h5]; rfl
set_option maxRecDepth 100000 in
set_option maxHeartbeats 4000000 in
theorem top_a {tb sb b ml mc fm : Nat} {t : TrD} {p : PageD} {v : Value} (w : World) (h : TrAt w tb sb b ml mc fm t) (hg : t.st.good) (hp : PageAt [tb, sb, fm, b, ml, mc] w v p) (_ : PgF p) (hk : p.kind = 1) (hl : p.pairs.length = 0) :
    Calls Tryz.prog 59 #[.pointer (some ⟨tb, 0, none⟩), v] w fun e w' => e = .returned (.int .i64 (t.top p).1) ∧ TrR w tb sb b ml mc fm (t.top p).2 w' := by
  have ht : t.top p = ((t.st.drop t.root).1, { t with st := (t.st.drop t.root).2, root := 0, depth := 0 }) := by unfold TrD.top; rw [if_pos ⟨hk, hl⟩]
  rw [ht]
  obtain ⟨_, _, _, _, rfl, hpi⟩ := hp
  obtain ⟨p1, p2, rfl, _⟩ := Slc.form hpi.pairs
  obtain ⟨p3, p4, rfl, _⟩ := Slc.form hpi.keys
  obtain ⟨p5, p6, rfl, _⟩ := Slc.form hpi.kids
  obtain ⟨p7, p8, rfl, _⟩ := Slc.form hpi.pages
  unfold pageCells
  obtain ⟨W1, hW1, hf1, hs1, b1⟩ := al1 w (.cells #[.int .i64 1, .slice p1 0 p2, .slice p3 p.keys.length p4, .slice p5 p.kids.length p6, .slice p7 p.pages.length p8, .int .i64 p.next, .int .u64 p.epoch, .int .i64 p.root, .int .i64 p.depth, .int .i64 p.count, .int .i64 p.high] 90)
  have ht1 := h.kept hf1
  have HT := Lib.hid h
  have HT1 := Lib.hid ht1
  have HTD := Lib.hid (ht1.kept (Fr.refl _ _).drew)
  have HNE := Lib.hid h.ne
  have HG := Lib.hid hg
  have HF1 := Lib.hid hf1
  have HSB := Lib.hid h.sto.lt.1
  have HG0 : Hid (w.heap.size ∉ [sb, fm, b, ml, mc]) := Lib.hid (h.sto.newN (Nat.le_refl _))
  rw [hk, hl]
  have HDR := Lib.hid (sdrop_k t.root W1.drew HTD.out.sto (ok_pool HTD.out.sto HG.out))
  have HX : Hid (∀ w', Fr [sb, fm, b, ml, mc] W1 w' → Fr [sb, fm, b, ml, mc] W1 w' ∧ w'.cell? ⟨tb, 0, none⟩ = some (.pointer (some ⟨sb, 0, none⟩)) ∧ w'.cell? ⟨tb, 1, none⟩ = some (.int .i64 t.root)) := Lib.hid fun w' hq => ⟨hq, blk_cell (hq.heap HT1.out.blk HNE.out) 0, blk_cell (hq.heap HT1.out.blk HNE.out) 1⟩
  obtain ⟨⟨e1, T1⟩, hD⟩ : ∃ x, t.st.drop t.root = x := ⟨_, rfl⟩
  rw [hD] at HDR ⊢
  dsimp only at HDR ⊢
  have q0 := (c11 b1).1
  have q1 := (c11 b1).2.1
  clear h hg hpi hk hl ht hf1 hs1 b1 ht1 hD
  go_enter Tryz.func59, Tryz.ntmps59
  go_upto_region 2 with fail
  clear hW1
  go_region_held3 (fun w' => Fr [sb, fm, b, ml, mc] W1 w' ∧ w'.cell? ⟨tb, 0, none⟩ = some (.pointer (some ⟨sb, 0, none⟩)) ∧ w'.cell? ⟨tb, 1, none⟩ = some (.int .i64 t.root))
    (first
    | (refine HX.out _ ?_; simp (maxDischargeDepth := 40) only [fr_dr, fr_refl])
    | (refine HX.out _ ?_; simp (maxDischargeDepth := 40) only [H3.out]))
    (first
    | (go_at_call 102
       with_reducible refine HDR.out.mono ?_
       rintro e u ⟨rfl, hr⟩
       have H3 : Hid (Fr [sb, fm, b, ml, mc] W1 u) := by
         obtain ⟨_, _, h2, _⟩ := hr
         refine Lib.hid (Fr.trans (fr_dr fr_refl) h2)
       have HR := Lib.hid (HTD.out.stored hr)
       clear hr))
  obtain ⟨fm1, a1, a2, a3⟩ := HR.out
  have hbk := a1.blk
  have d1 : u.cell? ⟨tb, 1, none⟩ = some (.int .i64 t.root) := blk_cell hbk 1
  have d2 : u.cell? ⟨tb, 2, none⟩ = some (.int .i64 t.depth) := blk_cell hbk 2
  have y1 := blk_free hbk 1
  have y2 := blk_free hbk 2
  have HBK := Lib.hid hbk
  have HA1 := Lib.hid a1
  have hw1 : Fr [] w W1.drew := HF1.out.drew
  have HA2 : Hid (Fr [tb, sb, fm, b, ml, mc] w u ∧ (fm1 = fm ∨ w.heap.size ≤ fm1) ∧ ApK w sb u) := Lib.hid ⟨hw1.nil.trans a2, a3.1.imp id (fun h => by have := hw1.size; omega), (ApK.ofFr hw1 HSB.out (by simp)).trans a3.2 hw1.size⟩
  clear hbk a1 a2 a3 hw1
  go_wp2_with fail
  go_ret
  refine ⟨rfl, TrR.trans HA2.out.1 HA2.out.2 (HA1.out.written ?_ ?_)⟩
  · simp (maxDischargeDepth := 40) only [fr_sc, fr_refl, List.mem_singleton]
  · exact blk_set (blk_set HBK.out 1 _) 2 _
set_option maxRecDepth 100000 in
set_option maxHeartbeats 4000000 in
theorem top_b {tb sb b ml mc fm : Nat} {t : TrD} {p : PageD} {v : Value} (w : World) (h : TrAt w tb sb b ml mc fm t) (hg : t.st.good) (hp : PageAt [tb, sb, fm, b, ml, mc] w v p) (fp : PgF p) (hk : p.kind = 2) (hl : p.keys.length = 0) (hd : 0 ≤ t.depth ∧ t.depth ≤ 1000000) :
    Calls Tryz.prog 59 #[.pointer (some ⟨tb, 0, none⟩), v] w fun e w' => e = .returned (.int .i64 (t.top p).1) ∧ TrR w tb sb b ml mc fm (t.top p).2 w' := by
  have ht : t.top p = ((t.st.drop t.root).1, { t with st := (t.st.drop t.root).2, root := p.kids.getD 0 0, depth := t.depth - 1 }) := by unfold TrD.top; rw [if_neg (by omega), if_pos ⟨hk, hl⟩]
  have hkk : p.kids.length = 1 := by
    rcases fp.form with h | h
    · omega
    · omega
  rw [ht]
  obtain ⟨_, _, _, _, rfl, hpi⟩ := hp
  obtain ⟨p1, p2, rfl, _⟩ := Slc.form hpi.pairs
  obtain ⟨p3, p4, rfl, _⟩ := Slc.form hpi.keys
  obtain ⟨p5, p6, rfl, _⟩ := Slc.form hpi.kids
  obtain ⟨p7, p8, rfl, _⟩ := Slc.form hpi.pages
  obtain ⟨Bk, ok, rfl⟩ : ∃ B off, p5 = some ⟨B, off, none⟩ := by
    rcases hpi.kids with ⟨_, _, _, h0, _⟩ | ⟨B, off, cap, h, _⟩
    · omega
    · cases h; exact ⟨B, off, rfl⟩
  have hkat := Ints.at hpi.kids (i := 0) (by omega)
  obtain ⟨kd, hkd⟩ : ∃ kd, p.kids[0]'(by omega) = kd := ⟨_, rfl⟩
  rw [hkd, Nat.add_zero] at hkat
  have hkg : p.kids.getD 0 0 = kd := by rw [List.getD_eq_getElem?_getD, List.getElem?_eq_getElem (by omega), hkd]; rfl
  have hkn : Bk ∉ [tb, sb, fm, b, ml, mc] := by
    rcases hpi.kids with ⟨_, _, h, h0, _⟩ | ⟨B, off, cap, h, _, hs, _⟩
    · omega
    · cases h
      rcases hs with hs | hs
      · have := congrArg List.length hs; rw [List.length_map] at this; simp only [List.length_nil] at this; omega
      · exact hs
  unfold pageCells
  obtain ⟨W1, hW1, hf1, hs1, b1⟩ := al1 w (.cells #[.int .i64 2, .slice p1 p.pairs.length p2, .slice p3 0 p4, .slice (some ⟨Bk, ok, none⟩) 1 p6, .slice p7 p.pages.length p8, .int .i64 p.next, .int .u64 p.epoch, .int .i64 p.root, .int .i64 p.depth, .int .i64 p.count, .int .i64 p.high] 90)
  have ht1 := h.kept hf1
  have HT := Lib.hid h
  have HT1 := Lib.hid ht1
  have HTD := Lib.hid (ht1.kept (Fr.refl _ _).drew)
  have HNE := Lib.hid h.ne
  have HG := Lib.hid hg
  have HF1 := Lib.hid hf1
  have HSB := Lib.hid h.sto.lt.1
  have HG0 : Hid (w.heap.size ∉ [sb, fm, b, ml, mc]) := Lib.hid (h.sto.newN (Nat.le_refl _))
  rw [hk, hl, hkk, hkg]
  have HKA : Hid (W1.cell? ⟨Bk, ok, none⟩ = some (.int .i64 kd) ∧ Bk ∉ [sb, fm, b, ml, mc]) := Lib.hid ⟨hf1.cellSome hkat (by simp), fun hm => hkn (List.mem_cons_of_mem _ hm)⟩
  have HTB : Hid (Bk ≠ tb) := Lib.hid (fun e => hkn (by simp [e]))
  have HDR := Lib.hid (sdrop_k t.root W1.drew HTD.out.sto (ok_pool HTD.out.sto HG.out))
  have HX : Hid (∀ w', Fr [sb, fm, b, ml, mc] W1 w' → Fr [sb, fm, b, ml, mc] W1 w' ∧ w'.cell? ⟨tb, 0, none⟩ = some (.pointer (some ⟨sb, 0, none⟩)) ∧ w'.cell? ⟨tb, 1, none⟩ = some (.int .i64 t.root)) := Lib.hid fun w' hq => ⟨hq, blk_cell (hq.heap HT1.out.blk HNE.out) 0, blk_cell (hq.heap HT1.out.blk HNE.out) 1⟩
  obtain ⟨⟨e1, T1⟩, hD⟩ : ∃ x, t.st.drop t.root = x := ⟨_, rfl⟩
  rw [hD] at HDR ⊢
  dsimp only at HDR ⊢
  have q0 := (c11 b1).1
  have q2 := (c11 b1).2.2.1
  have HB1 := Lib.hid b1
  have hd0 := hd.1
  have hd1 := hd.2
  clear h hg hpi fp hk hl ht hf1 hs1 b1 ht1 hD hkk hkat hkd hkg hkn hd
  go_enter Tryz.func59, Tryz.ntmps59
  go_upto_region 6 with fail
  clear hW1
  go_region_held3 (fun w' => Fr [sb, fm, b, ml, mc] W1 w' ∧ w'.cell? ⟨tb, 0, none⟩ = some (.pointer (some ⟨sb, 0, none⟩)) ∧ w'.cell? ⟨tb, 1, none⟩ = some (.int .i64 t.root))
    (first
    | (refine HX.out _ ?_; simp (maxDischargeDepth := 40) only [fr_dr, fr_refl])
    | (refine HX.out _ ?_; simp (maxDischargeDepth := 40) only [H3.out]))
    (first
    | (go_at_call 102
       with_reducible refine HDR.out.mono ?_
       rintro e u ⟨rfl, hr⟩
       have H3 : Hid (Fr [sb, fm, b, ml, mc] W1 u) := by
         obtain ⟨_, _, h2, _⟩ := hr
         refine Lib.hid (Fr.trans (fr_dr fr_refl) h2)
       have HR := Lib.hid (HTD.out.stored hr)
       clear hr))
  obtain ⟨fm1, a1, a2, a3⟩ := HR.out
  have hbk := a1.blk
  have d1 : u.cell? ⟨tb, 1, none⟩ = some (.int .i64 t.root) := blk_cell hbk 1
  have d2 : u.cell? ⟨tb, 2, none⟩ = some (.int .i64 t.depth) := blk_cell hbk 2
  have y1 := blk_free hbk 1
  have y2 := blk_free hbk 2
  have HBK := Lib.hid hbk
  have HA1 := Lib.hid a1
  have hw1 : Fr [] w W1.drew := HF1.out.drew
  have HA2 : Hid (Fr [tb, sb, fm, b, ml, mc] w u ∧ (fm1 = fm ∨ w.heap.size ≤ fm1) ∧ ApK w sb u) := Lib.hid ⟨hw1.nil.trans a2, a3.1.imp id (fun h => by have := hw1.size; omega), (ApK.ofFr hw1 HSB.out (by simp)).trans a3.2 hw1.size⟩
  clear hbk a1 a2 a3 hw1
  have q3 := (c11 (H3.out.heap HB1.out HG0.out)).2.2.2.1
  have hkc := H3.out.cellSome HKA.out.1 HKA.out.2
  have hdd : IntKind.i64.wrap (t.depth - 1) = t.depth - 1 := IntWalk.i64_in _ (by omega)
  have hbt := HTB.out
  go_upto_region 7 with fail
  go_region
  all_goals
    go_wp2_with fail
    go_ret
    refine ⟨rfl, TrR.trans HA2.out.1 HA2.out.2 (HA1.out.written ?_ ?_)⟩
    · simp (maxDischargeDepth := 40) only [fr_dr, fr_sc, fr_refl, List.mem_singleton]
    · first
      | exact blk_set (blk_set HBK.out 1 _) 2 _
      | exact blk_set (blk_set HBK.out 2 _) 1 _
set_option maxRecDepth 100000 in
set_option maxHeartbeats 4000000 in
theorem top_c {tb sb b ml mc fm : Nat} {t : TrD} {p : PageD} {v : Value} (w : World) (h : TrAt w tb sb b ml mc fm t) (hg : t.st.good) (hp : PageAt [tb, sb, fm, b, ml, mc] w v p) (fp : PgF p) (hk : ¬ (p.kind = 1 ∧ p.pairs.length = 0)) (hl : ¬ (p.kind = 2 ∧ p.keys.length = 0)) (hd : 0 ≤ t.depth ∧ t.depth ≤ 1000000) :
    Calls Tryz.prog 59 #[.pointer (some ⟨tb, 0, none⟩), v] w fun e w' => e = .returned (.int .i64 (t.top p).1) ∧ TrR w tb sb b ml mc fm (t.top p).2 w' := by
  have ht : t.top p = (let l := layK t.st t.root p
      if l.2.2.1 ≠ 0 then (l.2.2.1, { t with st := l.2.2.2 })
      else if 0 < l.2.1.length then
        let r := l.2.2.2.lay 0 (branchPg l.2.1 l.1)
        (r.2.1, { t with st := r.2.2, root := r.1, depth := t.depth + 1 })
      else (0, { t with st := l.2.2.2, root := l.1.getD 0 0 })) := by unfold TrD.top; rw [if_neg hk, if_neg hl]
  obtain ⟨R, hR⟩ : ∃ R, t.top p = R := ⟨_, rfl⟩
  rw [hR]
  have HRT := Lib.hid (hR.symm.trans ht)
  obtain ⟨_, _, _, _, rfl, hpi⟩ := hp
  obtain ⟨p1, p2, rfl, _⟩ := Slc.form hpi.pairs
  obtain ⟨p3, p4, rfl, _⟩ := Slc.form hpi.keys
  obtain ⟨p5, p6, rfl, _⟩ := Slc.form hpi.kids
  obtain ⟨p7, p8, rfl, _⟩ := Slc.form hpi.pages
  unfold pageCells
  obtain ⟨W1, hW1, hf1, hs1, b1⟩ := al1 w (.cells #[.int .i64 p.kind, .slice p1 p.pairs.length p2, .slice p3 p.keys.length p4, .slice p5 p.kids.length p6, .slice p7 p.pages.length p8, .int .i64 p.next, .int .u64 p.epoch, .int .i64 p.root, .int .i64 p.depth, .int .i64 p.count, .int .i64 p.high] 90)
  have ht1 := h.kept hf1
  have HT := Lib.hid h
  have HT1 := Lib.hid ht1
  have HTD := Lib.hid (ht1.kept (Fr.refl _ _).drew)
  have HNE := Lib.hid h.ne
  have HG := Lib.hid hg
  have HF1 := Lib.hid hf1
  have HSB := Lib.hid h.sto.lt.1
  have HG0 : Hid (w.heap.size ∉ [sb, fm, b, ml, mc]) := Lib.hid (h.sto.newN (Nat.le_refl _))
  have hc0 : W1.drew.cell? ⟨tb, 0, none⟩ = some (.pointer (some ⟨sb, 0, none⟩)) := blk_cell (ht1.kept (Fr.refl _ _).drew).blk 0
  have HLY := Lib.hid (tlay_k t.root W1.drew hc0 HNE.out HTD.out.sto hg ⟨_, _, _, _, rfl, ((hpi.kept hf1.nil).kept (Fr.refl _ _).drew.nil).mono (fun x hx => List.mem_cons_of_mem _ hx)⟩ fp)
  have HB1 := Lib.hid b1
  have HX : Hid (∀ w', Fr [sb, fm, b, ml, mc] W1 w' → Fr [sb, fm, b, ml, mc] W1 w' ∧ w'.cell? ⟨tb, 0, none⟩ = some (.pointer (some ⟨sb, 0, none⟩)) ∧ w'.cell? ⟨tb, 1, none⟩ = some (.int .i64 t.root) ∧ w'.cell? ⟨w.heap.size, 0, none⟩ = some (.int .i64 p.kind) ∧ w'.cell? ⟨w.heap.size, 1, none⟩ = some (.slice p1 p.pairs.length p2) ∧ w'.cell? ⟨w.heap.size, 2, none⟩ = some (.slice p3 p.keys.length p4) ∧ w'.cell? ⟨w.heap.size, 3, none⟩ = some (.slice p5 p.kids.length p6) ∧ w'.cell? ⟨w.heap.size, 4, none⟩ = some (.slice p7 p.pages.length p8) ∧ w'.cell? ⟨w.heap.size, 5, none⟩ = some (.int .i64 p.next) ∧ w'.cell? ⟨w.heap.size, 6, none⟩ = some (.int .u64 p.epoch) ∧ w'.cell? ⟨w.heap.size, 7, none⟩ = some (.int .i64 p.root) ∧ w'.cell? ⟨w.heap.size, 8, none⟩ = some (.int .i64 p.depth) ∧ w'.cell? ⟨w.heap.size, 9, none⟩ = some (.int .i64 p.count) ∧ w'.cell? ⟨w.heap.size, 10, none⟩ = some (.int .i64 p.high)) := Lib.hid fun w' hq => ⟨hq, blk_cell (hq.heap HT1.out.blk HNE.out) 0, blk_cell (hq.heap HT1.out.blk HNE.out) 1, c11 (hq.heap HB1.out HG0.out)⟩
  have hbk : ((p.kind == 1) = true ∧ ((p.pairs.length : Int) == 0) = false ∧ (p.kind == 2) = false) ∨ ((p.kind == 1) = false ∧ (p.kind == 2) = true ∧ ((p.keys.length : Int) == 0) = false) := by
    rcases fp.form with ⟨h1, _⟩ | ⟨h1, _⟩
    · left
      have h2 : p.pairs.length ≠ 0 := fun e => hk ⟨h1, e⟩
      exact ⟨by simpa using h1, by rw [beq_eq_false_iff_ne]; omega, by rw [beq_eq_false_iff_ne]; omega⟩
    · right
      have h2 : p.keys.length ≠ 0 := fun e => hl ⟨h1, e⟩
      exact ⟨by rw [beq_eq_false_iff_ne]; omega, by simpa using h1, by rw [beq_eq_false_iff_ne]; omega⟩
  have q0 := (c11 b1).1
  have q1 := (c11 b1).2.1
  have q2 := (c11 b1).2.2.1
  have hd0 := hd.1
  have hd1 := hd.2
  unfold LayP pageCells at HLY
  obtain ⟨⟨gs, ks, e1, T1⟩, hL⟩ : ∃ x, layK t.st t.root p = x := ⟨_, rfl⟩
  have HLEN : Hid (gs.length ≤ 2 ∧ ks.length ≤ 1) := Lib.hid (by have := layK_len t.st t.root p; rw [hL] at this; exact this)
  have HLE2 : Hid (e1 = 0 → gs.length = ks.length + 1) := Lib.hid (by have := layK_len2 t.st t.root p; rw [hL] at this; exact this)
  have HGL : Hid (T1.good) := Lib.hid (by have := layK_good hg t.root p; rw [hL] at this; exact this)
  rw [hL] at HLY HRT
  dsimp only at HLY HRT
  clear h hg hpi fp hk hl ht hf1 hs1 b1 ht1 hL hc0 hd hR
  go_enter Tryz.func59, Tryz.ntmps59
  rcases hbk with ⟨hbk, hbk2, hbl⟩ | ⟨hbk, hbl, hbl2⟩
  all_goals
    go_upto_region 9 with fail
    clear hW1 q0 q1 q2 hbk hbl
    go_region_held3 (fun w' => Fr [sb, fm, b, ml, mc] W1 w' ∧ w'.cell? ⟨tb, 0, none⟩ = some (.pointer (some ⟨sb, 0, none⟩)) ∧ w'.cell? ⟨tb, 1, none⟩ = some (.int .i64 t.root) ∧ w'.cell? ⟨w.heap.size, 0, none⟩ = some (.int .i64 p.kind) ∧ w'.cell? ⟨w.heap.size, 1, none⟩ = some (.slice p1 p.pairs.length p2) ∧ w'.cell? ⟨w.heap.size, 2, none⟩ = some (.slice p3 p.keys.length p4) ∧ w'.cell? ⟨w.heap.size, 3, none⟩ = some (.slice p5 p.kids.length p6) ∧ w'.cell? ⟨w.heap.size, 4, none⟩ = some (.slice p7 p.pages.length p8) ∧ w'.cell? ⟨w.heap.size, 5, none⟩ = some (.int .i64 p.next) ∧ w'.cell? ⟨w.heap.size, 6, none⟩ = some (.int .u64 p.epoch) ∧ w'.cell? ⟨w.heap.size, 7, none⟩ = some (.int .i64 p.root) ∧ w'.cell? ⟨w.heap.size, 8, none⟩ = some (.int .i64 p.depth) ∧ w'.cell? ⟨w.heap.size, 9, none⟩ = some (.int .i64 p.count) ∧ w'.cell? ⟨w.heap.size, 10, none⟩ = some (.int .i64 p.high))
      (first
      | (refine HX.out _ ?_; simp (maxDischargeDepth := 40) only [fr_dr, fr_refl])
      | (refine HX.out _ ?_; simp (maxDischargeDepth := 40) only [H3.out]))
      (first
      | (go_at_call 103
         with_reducible refine HLY.out.mono ?_
         rintro e u ⟨kv, sv, fm1, rfl, s1, s2, s3, s4⟩
         have H3 : Hid (Fr [sb, fm, b, ml, mc] W1 u) := by
           refine Lib.hid (Fr.trans (fr_dr fr_refl) s2)
         have HTU := Lib.hid (HTD.out.storedE s1 s2 s3.2)
         have HS4 := Lib.hid s4
         obtain ⟨ga, gc, rfl, _⟩ := Slc.form (s4 [] (by simp)).1
         obtain ⟨sa, sc, rfl, _⟩ := Slc.form (s4 [] (by simp)).2
         have HS3 := Lib.hid (And.intro s1 (And.intro s2 s3))
         clear s1 s2 s3 s4))
    have hbk := HTU.out.blk
    have d1 : u.cell? ⟨tb, 1, none⟩ = some (.int .i64 t.root) := blk_cell hbk 1
    have d2 : u.cell? ⟨tb, 2, none⟩ = some (.int .i64 t.depth) := blk_cell hbk 2
    have d0 : u.cell? ⟨tb, 0, none⟩ = some (.pointer (some ⟨sb, 0, none⟩)) := blk_cell hbk 0
    have y1 := blk_free hbk 1
    have y2 := blk_free hbk 2
    have HBK := Lib.hid hbk
    have hw1 : Fr [] w W1.drew := HF1.out.drew
    have HA2 : Hid (Fr [tb, sb, fm, b, ml, mc] w u ∧ (fm1 = fm ∨ w.heap.size ≤ fm1) ∧ ApK w sb u) := Lib.hid ⟨hw1.nil.trans (HS3.out.2.1.mono (fun x hx _ => List.mem_cons_of_mem _ hx)), HS3.out.2.2.1.imp id (fun h => by have := hw1.size; omega), (ApK.ofFr hw1 HSB.out (by simp)).trans HS3.out.2.2.2 hw1.size⟩
    clear hbk hw1
    by_cases he : e1 = 0
    · subst he
      have hgl := HLE2.out rfl
      obtain ⟨Bg, og, rfl⟩ : ∃ B off, ga = some ⟨B, off, none⟩ := by
        rcases (HS4.out [] (by simp)).1 with ⟨_, _, _, h0, _⟩ | ⟨B, off, cap, h, _⟩
        · omega
        · cases h; exact ⟨B, off, rfl⟩
      have hg0 := Ints.at (HS4.out [] (by simp)).1 (i := 0) (by omega)
      obtain ⟨g0, hg0'⟩ : ∃ g0, gs[0]'(by omega) = g0 := ⟨_, rfl⟩
      rw [hg0', Nat.add_zero] at hg0
      have HG00 : Hid (gs.getD 0 0 = g0) := Lib.hid (by rw [List.getD_eq_getElem?_getD, List.getElem?_eq_getElem (by omega), hg0']; rfl)
      have hgN : 0 < gs.length := by omega
      obtain ⟨W4, hW4, hf4, hs4, b4⟩ := st1 HBK.out 1 (.int .i64 g0)
      by_cases hks : ks.length = 0
      · have hkI : ¬ (0 : Int) < (ks.length : Int) := by omega
        have hkN : ¬ 0 < ks.length := by omega
        have HWR := Lib.hid (HTU.out.written (r := g0) (d := t.depth) (c := t.count) hf4 b4)
        clear hgl hg0' hks hf4 hs4 b4
        go_wp2_with fail
        go_ret
        have hr := HRT.out
        rw [if_neg (by simp), if_neg hkN, HG00.out] at hr
        rw [hr]
        exact ⟨rfl, TrR.trans HA2.out.1 HA2.out.2 HWR.out⟩
      · have hkI : (0 : Int) < (ks.length : Int) := by omega
        have hkN : 0 < ks.length := by omega
        obtain ⟨W5, hW5, hf5, hs5, b5⟩ := st1 b4 2 (.int .i64 (t.depth + 1))
        obtain ⟨w1, w2, w3⟩ := HTU.out.writtenE (r := g0) (d := t.depth + 1) (c := t.count) (hf4.trans hf5) b5
        have hpg : PageAt [sb, fm1, b, ml, mc] W5 (.agg #[.int .i64 2, .slice none 0 0, .slice sa ks.length sc, .slice (some ⟨Bg, og, none⟩) gs.length gc, .slice none 0 0, .int .i64 0, .int .u64 0, .int .i64 0, .int .i64 0, .int .i64 0, .int .i64 0]) (branchPg ks gs) := by
          have h4 := HS4.out (tb :: [sb, fm1, b, ml, mc]) (fun x hx => by
            rcases List.mem_cons.1 hx with rfl | hx
            · left; exact HTD.out.lt
            · exact .inr hx)
          have hf : Fr (tb :: [sb, fm1, b, ml, mc]) u W5 := (hf4.trans hf5).mono (by simp)
          exact ⟨_, _, _, _, rfl, Slc.nil _ _, (h4.2.kept hf).mono (fun x hx => List.mem_cons_of_mem _ hx), (h4.1.kept hf).mono (fun x hx => List.mem_cons_of_mem _ hx), Slc.nil _ _⟩
        have hfF := branchPg_F (ks := ks) (gs := gs) (by have := HLEN.out; omega) hgl
        have HL2 := Lib.hid (lay_s 0 W5 w1.sto HGL.out hpg hfF.sm hfF.ep.1 hfF.ep.2)
        have HW1 := Lib.hid w1
        have HW2 := Lib.hid (And.intro w2 w3)
        have hdd : IntKind.i64.wrap (t.depth + 1) = t.depth + 1 := IntWalk.i64_in _ (by omega)
        obtain ⟨⟨n2, e2, T2⟩, hL2⟩ : ∃ x, T1.lay 0 (branchPg ks gs) = x := ⟨_, rfl⟩
        have HR2 : Hid (R = (e2, { t with st := T2, root := n2, depth := t.depth + 1 })) := Lib.hid (by
          have hr := HRT.out
          rw [if_neg (by simp), if_pos hkN, hL2] at hr
          exact hr)
        rw [hL2] at HL2
        dsimp only at HL2
        have k2 : W4.cell? ⟨tb, 2, none⟩ = some (.int .i64 t.depth) := blk_cell b4 2
        have k3 := blk_free b4 2
        have z0 : W5.cell? ⟨tb, 0, none⟩ = some (.pointer (some ⟨sb, 0, none⟩)) := blk_cell w1.blk 0
        clear hgl hg0' hks hf4 hs4 b4 hf5 hs5 b5 w1 w2 w3 hpg hfF hL2
        go_wp2_with fail
        with_reducible refine HL2.out.mono ?_
        rintro e u5 ⟨rfl, fm3, c1, c2, c3⟩
        have ht5 := HW1.out.storedE c1 c2 c3.2
        have HT5 := Lib.hid ht5
        have HC5 := Lib.hid (And.intro c2 c3)
        have x1 : u5.cell? ⟨tb, 1, none⟩ = some (.int .i64 g0) := blk_cell ht5.blk 1
        have x2 := blk_free ht5.blk 1
        obtain ⟨W6, hW6, hf6, hs6, b6⟩ := st1 ht5.blk 1 (.int .i64 n2)
        have HWR := Lib.hid (ht5.written (r := n2) (d := t.depth + 1) (c := t.count) hf6 b6)
        clear c1 c2 c3 ht5 hf6 hs6 b6 d0 d1 d2 y1 y2 z0
        go_wp2_with fail
        go_ret
        rw [HR2.out]
        exact ⟨rfl, TrR.trans HA2.out.1 HA2.out.2 (TrR.trans (fm1 := fm1) HW2.out.1 ⟨.inl rfl, HW2.out.2.2⟩ (TrR.trans (HC5.out.1.mono (fun x hx _ => List.mem_cons_of_mem _ hx)) HC5.out.2 HWR.out))⟩
    · have HE := Lib.hid he
      have be : (e1 != 0) = true := by simpa using he
      clear he
      go_wp2_with fail
      go_ret
      have hr := HRT.out
      rw [if_pos HE.out] at hr
      rw [hr]
      exact ⟨rfl, fm1, HTU.out, HA2.out⟩
end Go.Proofs.YtgpohemcfgepeaaGreat

namespace Go.Proofs.YtgpohemcfgepeaaGreat
open Go.RowKit Go.MapKept
theorem TrAt.beside {u W : World} {tb sb b ml mc fm g : Nat} {t : TrD} (h : TrAt u tb sb b ml mc fm t) (hap : StoAp u sb [g]) (hnb : NoByte u g) (hn : g ∉ [sb, fm, b, ml, mc]) (ht : tb ≠ g) (hf : Fr [g] u W) : TrAt W tb sb b ml mc fm t :=
  ⟨hf.heap h.blk (by rw [List.mem_singleton]; exact ht), h.sto.beside hap hf (by intro x hx; simp at hx; subst hx; exact hnb) (by intro x hx; simp at hx; subst hx; exact hn), h.ap.kept hf h.sto.lt.1 (by intro e; rw [List.mem_singleton] at e; exact hn (by simp [e]))⟩
theorem noByte_err {w : World} {g : Nat} {x : Int} {T : TypeId} (h : w.heap[g]? = some (.cells #[.int .i64 x] T (0, 0))) : NoByte w g := fun i u he => by
  rw [blk_cell h] at he
  match i with
  | 0 => cases he
  | i + 1 => cases he
theorem errno_result {tmps : Array Value} {w : World} {g : Nat} {x : Int} (h4 : tmps.getD 2 undef = .pointer (some ⟨g, 0, none⟩)) (hp : w.cell? ⟨g, 0, none⟩ = some (.int .i64 x)) :
    (results Tryz.f25 tmps).run Tryz.prog w = .ok (.int .i64 x) w := by
  rw [Array.getD_eq_getD_getElem?] at h4
  simp [results, Tryz.results25, go_sem, h4, hp]
set_option maxRecDepth 100000 in
theorem keep_nil (w : World) : Calls Tryz.prog 25 #[.pointer none] w fun e w' => e = .returned (.int .i64 1) ∧ Fr [] w w' := by
  have hn : ∀ w : World, (binOp BinOp.eql 24 (.pointer none) (.pointer none)).run Tryz.prog w = .ok (.bool true) w := fun _ => by kernel_rfl
  obtain ⟨W1, hW1, hf1, hs1, b1⟩ := al1 w (.cells #[.int .i64 1] 39)
  have HB := Lib.hid (blk_cell b1 0)
  have HF := Lib.hid hf1
  have HW := Lib.hid hW1
  clear hW1 hf1 hs1 b1
  go_enter_defers Tryz.func25, Tryz.ntmps25
  go_wp2_with fail
  rw [HW.out]
  exact ⟨_, errno_result rfl HB.out, rfl, HF.out⟩
set_option maxRecDepth 100000 in
set_option maxHeartbeats 2000000 in
theorem keep_k {tb sb b ml mc fm : Nat} {t : TrD} (w : World) (h : TrAt w tb sb b ml mc fm t) (hg : t.st.good) (he0 : 0 ≤ t.st.super.epoch) (he1 : t.st.super.epoch < 4611686018427387904) (hll : t.st.lists.length ≤ 1000000) :
    Calls Tryz.prog 25 #[.pointer (some ⟨tb, 0, none⟩)] w fun e w' => e = .returned (.int .i64 (t.keep).1) ∧ TrR w tb sb b ml mc fm (t.keep).2 w' := by
  obtain ⟨W1, hW1, hf1, hs1, b1⟩ := al1 w (.cells #[.int .i64 0] 39)
  have ht1 := h.kept hf1
  have HT := Lib.hid h
  have HTD := Lib.hid (ht1.kept (Fr.refl _ _).drew)
  have HNE := Lib.hid h.ne
  have HCM := Lib.hid (commit_k t.root t.depth t.count W1.drew (ht1.kept (Fr.refl _ _).drew).sto hg he0 he1 hll)
  have HF := Lib.hid hf1
  have HEB : Hid (w.heap.size ∉ [sb, fm, b, ml, mc] ∧ w.heap.size ≠ tb) := Lib.hid ⟨h.sto.newN (Nat.le_refl _), by have := h.lt; omega⟩
  have HAP : Hid (StoAp W1.drew sb [w.heap.size]) := Lib.hid (((h.sto.apNew (Nat.le_refl _)).kept hf1 h.sto.lt.1 (by simp)).kept (Fr.refl [] W1).drew ht1.sto.lt.1 (by simp))
  have HSZ : Hid (W1.heap.size = w.heap.size + 1) := Lib.hid hs1
  have hbk := ht1.blk
  have HBE := Lib.hid b1
  have HX : Hid (∀ w', Fr [sb, fm, b, ml, mc] W1 w' → Fr (w.heap.size :: [sb, fm, b, ml, mc]) W1 w' ∧ w'.cell? ⟨tb, 0, none⟩ = some (.pointer (some ⟨sb, 0, none⟩)) ∧ w'.cell? ⟨tb, 1, none⟩ = some (.int .i64 t.root) ∧ w'.cell? ⟨tb, 2, none⟩ = some (.int .i64 t.depth) ∧ w'.cell? ⟨tb, 3, none⟩ = some (.int .i64 t.count)) := Lib.hid fun w' hq => by
    have hb := hq.heap hbk HNE.out
    exact ⟨hq.mono (fun x hx _ => List.mem_cons_of_mem _ hx), blk_cell hb 0, blk_cell hb 1, blk_cell hb 2, blk_cell hb 3⟩
  have HX2 : Hid (∀ w', Fr (w.heap.size :: [sb, fm, b, ml, mc]) W1 w' → Fr (w.heap.size :: [sb, fm, b, ml, mc]) W1 w' ∧ w'.cell? ⟨tb, 0, none⟩ = some (.pointer (some ⟨sb, 0, none⟩)) ∧ w'.cell? ⟨tb, 1, none⟩ = some (.int .i64 t.root) ∧ w'.cell? ⟨tb, 2, none⟩ = some (.int .i64 t.depth) ∧ w'.cell? ⟨tb, 3, none⟩ = some (.int .i64 t.count)) := Lib.hid fun w' hq => by
    have hb := hq.heap hbk (by rw [List.mem_cons, not_or]; exact ⟨fun e => HEB.out.2 e.symm, HNE.out⟩)
    exact ⟨hq, blk_cell hb 0, blk_cell hb 1, blk_cell hb 2, blk_cell hb 3⟩
  obtain ⟨R, hR⟩ : ∃ R, t.keep = R := ⟨_, rfl⟩
  obtain ⟨⟨e1, T1⟩, hC⟩ : ∃ x, t.st.commit t.root t.depth t.count = x := ⟨_, rfl⟩
  have HR : Hid (R = (e1, TrD.end { t with st := T1 } e1)) := Lib.hid (by rw [← hR]; unfold TrD.keep; rw [hC])
  rw [hR]
  rw [hC] at HCM
  dsimp only at HCM
  clear h hg he0 he1 hll hf1 hs1 b1 ht1 hbk hR hC
  go_enter_defers Tryz.func25, Tryz.ntmps25
  go_upto_region 4 with fail
  clear hW1
  go_region_held3 (fun w' => Fr (w.heap.size :: [sb, fm, b, ml, mc]) W1 w' ∧ w'.cell? ⟨tb, 0, none⟩ = some (.pointer (some ⟨sb, 0, none⟩)) ∧ w'.cell? ⟨tb, 1, none⟩ = some (.int .i64 t.root) ∧ w'.cell? ⟨tb, 2, none⟩ = some (.int .i64 t.depth) ∧ w'.cell? ⟨tb, 3, none⟩ = some (.int .i64 t.count))
    (first
    | (refine HX2.out _ ?_; simp (maxDischargeDepth := 40) only [fr_dr, fr_refl])
    | (refine HX2.out _ ?_; simp (maxDischargeDepth := 40) only [fr_sc, H3.out, List.mem_cons, true_or]))
    (first
    | (go_at_call 62
       with_reducible refine HCM.out.mono ?_
       rintro e u ⟨rfl, fm1, s1, s2, s3⟩
       have H3 : Hid (Fr (w.heap.size :: [sb, fm, b, ml, mc]) W1 u) := by
         refine Lib.hid (Fr.mono (Fr.trans (fr_dr fr_refl) s2) (fun x hx _ => List.mem_cons_of_mem _ hx))
       have hb := s2.heap (show W1.drew.heap[w.heap.size]? = _ from HBE.out) HEB.out.1
       have HBU := Lib.hid hb
       have e0 := blk_cell hb 0
       have e2 := blk_free hb 0
       simp only [List.getElem?_toArray, List.getElem?_cons_zero] at e0
       have HTU := Lib.hid (HTD.out.storedE s1 s2 s3.2)
       have HS3 := Lib.hid (And.intro s2 s3)
       clear s1 s2 s3 hb))
  obtain ⟨W3, hW3, hf3, hs3, b3⟩ := st1 HBU.out 0 (.int .i64 e1)
  have hge : w.heap.size ∉ [sb, fm1, b, ml, mc] := fun hm => by
    have h1 := HS3.out.2.1
    have h2 := HEB.out.1
    have h3 := HSZ.out
    have h4 : W1.drew.heap.size = W1.heap.size := rfl
    simp only [List.mem_cons, List.not_mem_nil, or_false, not_or] at h2 hm
    rcases h1 with h1 | h1
    · subst h1; simp [h2] at hm
    · omega
  have hap := HS3.out.2.2 [w.heap.size] (fun x hx => by rw [List.mem_singleton] at hx; subst hx; show w.heap.size < W1.heap.size; rw [HSZ.out]; omega) HAP.out
  have ht3 := HTU.out.beside hap (noByte_err HBU.out) hge (fun e => HEB.out.2 e.symm) hf3
  have HT3 := Lib.hid ht3
  have HB3 := Lib.hid b3
  have hw1 : Fr [] w W1.drew := HF.out.drew
  have HA3 : Hid (Fr [tb, sb, fm, b, ml, mc] w W3 ∧ (fm1 = fm ∨ w.heap.size ≤ fm1) ∧ ApK w sb W3) := Lib.hid ⟨((hw1.nil.trans (HS3.out.1.mono (S' := w.heap.size :: [tb, sb, fm, b, ml, mc]) (fun x hx _ => List.mem_cons_of_mem _ (List.mem_cons_of_mem _ hx)))).trans (hf3.mono (by simp))).mono (fun x hx hl => by
      rcases List.mem_cons.1 hx with rfl | hx
      · omega
      · exact hx), HS3.out.2.1.imp id (fun h => Nat.le_trans hw1.size h), ((ApK.ofFr hw1 HT.out.sto.lt.1 (by simp)).trans HS3.out.2.2 hw1.size).trans (ApK.ofFr hf3 HTU.out.sto.lt.1 (by intro e; rw [List.mem_singleton] at e; exact hge (by simp [e]))) (Nat.le_trans hw1.size HS3.out.1.size)⟩
  clear hf3 hs3 b3 hap ht3 hw1 e0 e2
  rw [hW3]
  clear hW3
  go_wp2_with fail
  refine leaves_cons (f := 53) (args := #[.pointer (some ⟨tb, 0, none⟩), .pointer (some ⟨w.heap.size, 0, none⟩)]) (by simp) (by simp [go_sem]) ?_
  refine (tend_k W3 HT3.out (blk_cell HB3.out 0)).mono ?_
  rintro e u' w2 ⟨rfl, rfl, fm2, r1, r2, r3⟩
  have hge2 : w.heap.size ∉ [tb, sb, fm1, b, ml, mc] := by rw [List.mem_cons, not_or]; exact ⟨HEB.out.2, hge⟩
  refine ⟨_, errno_result rfl (blk_cell (r2.heap HB3.out hge2) 0), ?_⟩
  rw [HR.out]
  exact ⟨rfl, TrR.trans HA3.out.1 HA3.out.2 ⟨fm2, r1, r2, r3⟩⟩
end Go.Proofs.YtgpohemcfgepeaaGreat

namespace Go.Proofs.YtgpohemcfgepeaaGreat
open Go.RowKit Go.MapKept
theorem set_result {tmps : Array Value} {w : World} {g : Nat} {x : Int} (h4 : tmps.getD 6 undef = .pointer (some ⟨g, 0, none⟩)) (hp : w.cell? ⟨g, 0, none⟩ = some (.int .i64 x)) :
    (results Tryz.f21 tmps).run Tryz.prog w = .ok (.int .i64 x) w := by
  rw [Array.getD_eq_getD_getElem?] at h4
  simp [results, Tryz.results21, go_sem, h4, hp]
theorem cut_result {tmps : Array Value} {w : World} {g : Nat} {is : Bool} {x : Int} (h3 : tmps.getD 4 undef = .bool is) (h4 : tmps.getD 5 undef = .pointer (some ⟨g, 0, none⟩)) (hp : w.cell? ⟨g, 0, none⟩ = some (.int .i64 x)) :
    (results Tryz.f23 tmps).run Tryz.prog w = .ok (.tuple #[.bool is, .int .i64 x]) w := by
  rw [Array.getD_eq_getD_getElem?] at h3 h4
  simp [results, Tryz.results23, go_sem, h3, h4, hp]
theorem get_result {tmps : Array Value} {w : World} {g : Nat} {v : ByteArray} {is : Bool} {x : Int} (h2 : tmps.getD 4 undef = .string v) (h3 : tmps.getD 5 undef = .bool is) (h4 : tmps.getD 6 undef = .pointer (some ⟨g, 0, none⟩)) (hp : w.cell? ⟨g, 0, none⟩ = some (.int .i64 x)) :
    (results Tryz.f26 tmps).run Tryz.prog w = .ok (.tuple #[.string v, .bool is, .int .i64 x]) w := by
  rw [Array.getD_eq_getD_getElem?] at h2 h3 h4
  simp [results, Tryz.results26, go_sem, h2, h3, h4, hp]
set_option maxRecDepth 100000 in
theorem get_nil (key : ByteArray) (w : World) : Calls Tryz.prog 26 #[.pointer none, .string key] w fun e w' => e = .returned (.tuple #[.string ⟨#[]⟩, .bool false, .int .i64 1]) ∧ Fr [] w w' := by
  have hn : ∀ w : World, (binOp BinOp.eql 24 (.pointer none) (.pointer none)).run Tryz.prog w = .ok (.bool true) w := fun _ => by kernel_rfl
  obtain ⟨W1, hW1, hf1, hs1, b1⟩ := al1 w (.cells #[.int .i64 1] 39)
  have HB := Lib.hid (blk_cell b1 0)
  have HF := Lib.hid hf1
  have HW := Lib.hid hW1
  clear hW1 hf1 hs1 b1
  go_enter_defers Tryz.func26, Tryz.ntmps26
  go_wp2_with fail
  rw [HW.out]
  exact ⟨_, get_result rfl rfl rfl HB.out, rfl, HF.out⟩
set_option maxRecDepth 100000 in
theorem cut_nil (key : ByteArray) (w : World) : Calls Tryz.prog 23 #[.pointer none, .string key] w fun e w' => e = .returned (.tuple #[.bool false, .int .i64 1]) ∧ Fr [] w w' := by
  have hn : ∀ w : World, (binOp BinOp.eql 24 (.pointer none) (.pointer none)).run Tryz.prog w = .ok (.bool true) w := fun _ => by kernel_rfl
  obtain ⟨W1, hW1, hf1, hs1, b0, b1⟩ := al2 w (.cells #[.string key] 9) (.cells #[.int .i64 1] 39)
  have HB := Lib.hid (blk_cell b1 0)
  have HF := Lib.hid hf1
  have HW := Lib.hid hW1
  clear hW1 hf1 hs1 b1 b0
  go_enter_defers Tryz.func23, Tryz.ntmps23
  go_wp2_with fail
  rw [HW.out]
  exact ⟨_, cut_result rfl rfl HB.out, rfl, HF.out⟩
set_option maxRecDepth 100000 in
theorem set_nil (key val : ByteArray) (w : World) : Calls Tryz.prog 21 #[.pointer none, .string key, .string val] w fun e w' => e = .returned (.int .i64 1) ∧ Fr [] w w' := by
  have hn : ∀ w : World, (binOp BinOp.eql 24 (.pointer none) (.pointer none)).run Tryz.prog w = .ok (.bool true) w := fun _ => by kernel_rfl
  obtain ⟨W1, hW1, hf1, hs1, b0, b1⟩ := al2 w (.cells #[.string key] 9) (.cells #[.int .i64 1] 39)
  have HB := Lib.hid (blk_cell b1 0)
  have HF := Lib.hid hf1
  have HW := Lib.hid hW1
  clear hW1 hf1 hs1 b1 b0
  go_enter_defers Tryz.func21, Tryz.ntmps21
  go_wp2_with fail
  rw [HW.out]
  exact ⟨_, set_result rfl HB.out, rfl, HF.out⟩
end Go.Proofs.YtgpohemcfgepeaaGreat
