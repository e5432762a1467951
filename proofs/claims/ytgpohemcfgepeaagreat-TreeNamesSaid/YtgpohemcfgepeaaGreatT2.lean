/- a part. -/
import Derived.Test.YtgpohemcfgepeaaGreatT1
namespace Go.Proofs.YtgpohemcfgepeaaGreat
open Go.RowKit Go.MapKept
theorem okKids.append {D : Dv} {d : Nat} {lo hi : Option ByteArray} {k : ByteArray} {ks ks' : List ByteArray} {gs gs' : List Int} (h : okKids D d lo (some k) ks gs) (h' : okKids D d (some k) hi ks' gs') : okKids D d lo hi (ks ++ [k] ++ ks') (gs ++ gs') := by
  obtain ⟨hl, hk⟩ := h
  obtain ⟨hl', hk'⟩ := h'
  refine ⟨by simp only [List.length_append, List.length_singleton]; omega, fun i n hin => ?_⟩
  have key : ∀ m, (ks ++ [k] ++ ks')[m]? = if m < ks.length then ks[m]? else if m = ks.length then some k else ks'[m - (ks.length + 1)]? := fun m => by
    split
    · rename_i hm
      rw [List.getElem?_append_left (by rw [List.length_append, List.length_singleton]; omega), List.getElem?_append_left hm]
    · split
      · rename_i _ he
        subst he
        rw [List.getElem?_append_left (by rw [List.length_append, List.length_singleton]; omega), List.getElem?_append_right (Nat.le_refl _), Nat.sub_self]; rfl
      · rw [List.getElem?_append_right (by rw [List.length_append, List.length_singleton]; omega), List.length_append, List.length_singleton]
  by_cases c1 : i < gs.length
  · rw [List.getElem?_append_left c1] at hin
    have h3 := hk i n hin
    have e1 : loAt lo (ks ++ [k] ++ ks') i = loAt lo ks i := by
      unfold loAt
      split
      · rfl
      · rw [key, if_pos (by omega)]
    have e2 : hiAt hi (ks ++ [k] ++ ks') i = hiAt (some k) ks i := by
      unfold hiAt
      rw [key]
      by_cases z : i < ks.length
      · rw [if_pos z]
        cases hq : ks[i]? with
        | some x => rfl
        | none => rw [List.getElem?_eq_none_iff] at hq; omega
      · rw [if_neg z, if_pos (by omega), List.getElem?_eq_none (by omega)]
    rw [e1, e2]; exact h3
  · rw [List.getElem?_append_right (by omega)] at hin
    have h3 := hk' _ n hin
    have e1 : loAt lo (ks ++ [k] ++ ks') i = loAt (some k) ks' (i - gs.length) := by
      unfold loAt
      rw [if_neg (by omega : ¬ i = 0), key, if_neg (by omega)]
      by_cases z : i = gs.length
      · rw [if_pos (by omega), if_pos (by omega)]
      · rw [if_neg (by omega), if_neg (by omega)]
        congr 1; omega
    have e2 : hiAt hi (ks ++ [k] ++ ks') i = hiAt hi ks' (i - gs.length) := by
      unfold hiAt
      rw [key, if_neg (by omega), if_neg (by omega), show i - (ks.length + 1) = i - gs.length by omega]
    rw [e1, e2]; exact h3
theorem okP_join {D : Dv} : ∀ {d : Nat} {lo hi : Option ByteArray} {k : ByteArray} {a b : PageD}, okP D d lo (some k) a → okP D d (some k) hi b → ((1 ≤ k.size ∧ k.size ≤ 48) ∧ InnS lo hi k) →
    okP D d lo hi (joinD a k b) ∧ entP D d (joinD a k b) = entP D d a ++ entP D d b ∧ pgsP D d (joinD a k b) = pgsP D d a ++ pgsP D d b ∧ mostD (joinD a k b) = mostD a ∧ mostD b = mostD a ∧ sizeD (joinD a k b) = sizeD a + sizeD b + (if d = 0 then 0 else 1)
  | 0, lo, hi, k, a, b, ha, hb, hk => by
    obtain ⟨ea, sa, pa⟩ := ha
    obtain ⟨eb, sb, pb⟩ := hb
    generalize a.pairs = la at *
    generalize b.pairs = lb at *
    subst ea eb
    refine ⟨⟨rfl, ?_, fun x hx => ?_⟩, rfl, rfl, rfl, rfl, ?_⟩
    · show Sorted (la ++ lb)
      unfold Sorted
      rw [List.pairwise_append]
      refine ⟨sa, sb, fun x hx y hy => ?_⟩
      have h1 := (pa x hx).2.2 k rfl
      have h2 := (pb y hy).2.1 k rfl
      rcases kLt_total k y.1 with h3 | h3 | h3
      · exact kLt_trans h1 h3
      · rw [← h3]; exact h1
      · rw [h2] at h3; cases h3
    · rcases List.mem_append.1 (show x ∈ la ++ lb from hx) with hx | hx
      · have h1 := pa x hx
        exact ⟨h1.1, h1.2.1, fun y hy => kLt_trans (h1.2.2 k rfl) (hk.2.2 y hy)⟩
      · have h1 := pb x hx
        refine ⟨h1.1, fun l hl => ?_, h1.2.2⟩
        have h2 := hk.2.1 l hl
        have h3 := h1.2.1 k rfl
        cases hq : kLt x.1 l with
        | false => rfl
        | true => rw [kLt_trans hq h2] at h3; cases h3
    · show (la ++ lb).length + 0 = (la.length + 0) + (lb.length + 0) + 0
      rw [List.length_append]; omega
  | d + 1, lo, hi, k, a, b, ha, hb, hk => by
    have ka := okP_kids ha
    have kb := okP_kids hb
    obtain ⟨ea, sa, pa, _⟩ := ha
    obtain ⟨eb, sb, pb, _⟩ := hb
    generalize a.keys = ksa at *
    generalize a.kids = gsa at *
    generalize b.keys = ksb at *
    generalize b.kids = gsb at *
    subst ea eb
    refine ⟨okP_branch ?_ (fun x hx => ?_) (ka.append kb), ?_, ?_, rfl, rfl, ?_⟩
    · unfold KSorted
      rw [List.pairwise_append, List.pairwise_append]
      refine ⟨⟨sa, List.pairwise_singleton _ _, fun x hx y hy => ?_⟩, sb, fun x hx y hy => ?_⟩
      · rw [List.mem_singleton.1 hy]; exact (pa x hx).2.2 k rfl
      · have h2 := (pb y hy).2.1 k rfl
        rcases List.mem_append.1 hx with hx | hx
        · exact kLt_trans ((pa x hx).2.2 k rfl) h2
        · rw [List.mem_singleton.1 hx]; exact h2
    · rcases List.mem_append.1 hx with hx | hx
      · rcases List.mem_append.1 hx with hx | hx
        · exact ⟨(pa x hx).1, (pa x hx).2.1, fun y hy => kLt_trans ((pa x hx).2.2 k rfl) (hk.2.2 y hy)⟩
        · rw [List.mem_singleton.1 hx]; exact hk
      · exact ⟨(pb x hx).1, fun l hl => kLt_trans (hk.2.1 l hl) ((pb x hx).2.1 k rfl), (pb x hx).2.2⟩
    · show (gsa ++ gsb).flatMap _ = gsa.flatMap _ ++ gsb.flatMap _
      rw [List.flatMap_append]
    · show (gsa ++ gsb).flatMap _ = gsa.flatMap _ ++ gsb.flatMap _
      rw [List.flatMap_append]
    · show 0 + (ksa ++ [k] ++ ksb).length = (0 + ksa.length) + (0 + ksb.length) + 1
      simp only [List.length_append, List.length_singleton]; omega
theorem pageK_ok {T : StD} {n : Int} {d : Nat} {lo hi : Option ByteArray} (h0 : pageD T.dev n = ((pageD T.dev n).1, 0)) (h : okP T.dev d lo hi (pageD T.dev n).1) : pageK T n (d + 1 : Nat) = ((pageD T.dev n).1, 0) := by
  have hk := okP_kind h
  have e : T.page n = ((pageD T.dev n).1, 0) := h0
  unfold pageK
  rw [e, if_neg]
  rintro (h1 | h1 | h1)
  · cases h1
  · cases h1
  · apply h1.2
    rw [hk]
    unfold kindAt
    by_cases z : d = 0
    · subst z; rfl
    · rw [if_neg z, if_neg (by omega)]
theorem bran_mono {D : Dv} {d : Nat} {lo hi : Option ByteArray} {p : PageD} {fr tt fr' tt' : Nat} (h : Bran D d lo hi p fr tt) (h1 : fr' ≤ fr) (h2 : tt ≤ tt') (h3 : tt' ≤ p.keys.length) : Bran D d lo hi p fr' tt' :=
  ⟨h.is, h.rise, h.keys, ⟨h.out.1, fun i n hi => h.out.2 i n (by omega)⟩, by have := h.ft; omega, h3⟩
theorem getD_of {gs : List Int} {i : Nat} {n : Int} (h : gs[i]? = some n) : gs.getD i 0 = n := by rw [List.getD_eq_getElem?_getD, h]; rfl
theorem settleK_spec {T : StD} (hr : T.Run) (hc : T.dev.calm) {p c : PageD} {i d : Nat} {lo hi : Option ByteArray} {R : List Int} (hb : Bran T.dev d lo hi p i i) (h1 : 1 ≤ p.keys.length) (h : okP T.dev d (loAt lo p.keys i) (hiAt hi p.keys i) c) (hs1 : mostD c / 2 ≤ sizeD c + 1) (hs2 : sizeD c ≤ mostD c + 1)
    (ho : T.Owns (p.kids.getD i 0 :: (pgsP T.dev d c ++ (subP T.dev d (p.kids.take i ++ p.kids.drop (i + 1)) ++ R)))) :
    ((settleK T p i (d + 1 : Nat) c).2.1 = 60 ∧ T.Lack (1 + (pgsP T.dev d c).length + ((subP T.dev d (p.kids.take i ++ p.kids.drop (i + 1))).length + R.length))) ∨ ((settleK T p i (d + 1 : Nat) c).2.1 = 0 ∧ ∃ T', (settleK T p i (d + 1 : Nat) c).2.2 = T' ∧ T.Step T' ∧ okP T'.dev (d + 1) lo hi (settleK T p i (d + 1 : Nat) c).1 ∧
      entP T'.dev (d + 1) (settleK T p i (d + 1 : Nat) c).1 = subE T.dev d (p.kids.take i) ++ entP T.dev d c ++ subE T.dev d (p.kids.drop (i + 1)) ∧ T'.Owns (pgsP T'.dev (d + 1) (settleK T p i (d + 1 : Nat) c).1 ++ R) ∧ (∀ x ∈ R, T'.dev.bytes x = T.dev.bytes x) ∧
      sizeD (settleK T p i (d + 1 : Nat) c).1 ≤ sizeD p + 1 ∧ sizeD p ≤ sizeD (settleK T p i (d + 1 : Nat) c).1 + 1 ∧ (pgsP T'.dev (d + 1) (settleK T p i (d + 1 : Nat) c).1).length ≤ (subP T.dev d (p.kids.take i ++ p.kids.drop (i + 1))).length + (pgsP T.dev d c).length + 2) := by
  have hm3 := mostD_half (p := c)
  have hil := hb.tl
  by_cases hpoor : sizeD c < mostD c / 2
  · -- joined with a neighbour
    obtain ⟨o, hoi⟩ : ∃ o, i - 1 + max i 1 - i = o := ⟨_, rfl⟩
    have hol : o < p.kids.length := by have := hb.out.1; omega
    have hoo : o < i ∨ i < o := by omega
    obtain ⟨g, hg⟩ : ∃ g, p.kids[o]? = some g := ⟨_, List.getElem?_eq_getElem hol⟩
    have hgD := getD_of hg
    obtain ⟨g1, g2, g3⟩ := hb.out.2 o g hoo hg
    have hpk := pageK_ok g1 g3
    obtain ⟨m, hm⟩ : ∃ m, (pageD T.dev g).1 = m := ⟨_, rfl⟩
    rw [hm] at g1 g2 g3 hpk
    -- what all the pages are, with the neighbour ahead
    obtain ⟨old, hold⟩ : ∃ old, p.kids.getD i 0 = old := ⟨_, rfl⟩
    rw [hold] at ho
    have hsub : ∃ L, (subP T.dev d (p.kids.take i ++ p.kids.drop (i + 1))).Perm (g :: (pgsP T.dev d m ++ L)) ∧ L = subP T.dev d (p.kids.take (i - 1) ++ p.kids.drop (max i 1 + 1)) := by
      refine ⟨_, ?_, rfl⟩
      unfold subP
      rw [List.flatMap_append, List.flatMap_append]
      by_cases z : i = 0
      · subst z
        have e : p.kids.drop 1 = g :: p.kids.drop 2 := by
          obtain rfl : o = 1 := by omega
          rw [List.drop_eq_getElem_cons hol]
          congr 1
          rw [List.getElem?_eq_getElem hol] at hg
          exact Option.some.inj hg
        rw [show (0 : Nat) + 1 = 1 from rfl, e]
        simp only [List.take_zero, List.flatMap_nil, List.nil_append, List.flatMap_cons, hm]
        exact List.Perm.refl _
      · obtain rfl : o = i - 1 := by omega
        have e : p.kids.take i = p.kids.take (i - 1) ++ [g] := by
          rw [show i = i - 1 + 1 by omega, List.take_succ_eq_append_getElem hol]
          congr 2
          rw [List.getElem?_eq_getElem hol] at hg
          exact Option.some.inj hg
        rw [e, show max i 1 = i by omega, List.flatMap_append]
        simp only [List.flatMap_cons, List.flatMap_nil, List.append_nil, hm, List.append_assoc]
        exact List.perm_append_comm_assoc _ _ _
    obtain ⟨L, hL, hLe⟩ := hsub
    have hperm : (old :: (pgsP T.dev d c ++ (subP T.dev d (p.kids.take i ++ p.kids.drop (i + 1)) ++ R))).Perm (g :: (old :: (pgsP T.dev d c ++ pgsP T.dev d m ++ (L ++ R)))) := by
      have a1 : (subP T.dev d (p.kids.take i ++ p.kids.drop (i + 1)) ++ R).Perm (g :: (pgsP T.dev d m ++ (L ++ R))) := by
        have := hL.append_right R
        simpa [List.append_assoc] using this
      have a2 := (a1.append_left (pgsP T.dev d c)).trans List.perm_middle
      refine ((a2.cons old).trans (List.Perm.swap _ _ _)).trans ?_
      rw [List.append_assoc]
    have hog : g ∈ old :: (pgsP T.dev d c ++ (subP T.dev d (p.kids.take i ++ p.kids.drop (i + 1)) ++ R)) := hperm.mem_iff.2 (by simp)
    obtain ⟨dr0, dr1⟩ := ho.drop hr hog
    have hst := hr.toDrop hc g
    have hdev : (T.drop g).2.dev = T.dev := (hr.drop g).2.1
    have her : ((old :: (pgsP T.dev d c ++ (subP T.dev d (p.kids.take i ++ p.kids.drop (i + 1)) ++ R))).erase g).Perm (old :: (pgsP T.dev d c ++ pgsP T.dev d m ++ (L ++ R))) := ((List.perm_cons g).1 ((List.perm_cons_erase hog).symm.trans hperm))
    have own1 := dr1.perm her
    have hfr : i - 1 ≤ max i 1 := by omega
    have htl : max i 1 ≤ p.keys.length := by omega
    have hB := bran_mono hb (show i - 1 ≤ i by omega) (show i ≤ max i 1 by omega) htl
    obtain ⟨k, hk⟩ : ∃ k, p.keys[i - 1]? = some k := ⟨_, List.getElem?_eq_getElem (by omega)⟩
    have hkD : p.keys.getD (i - 1) ⟨#[]⟩ = k := by rw [List.getD_eq_getElem?_getD, hk]; rfl
    have hkin := hb.keys k (List.mem_of_getElem? hk)
    -- the two joined
    obtain ⟨j, hj⟩ : ∃ j, (if i - 1 = i then joinD c k m else joinD m k c) = j := ⟨_, rfl⟩
    have hjoin : okP T.dev d (loAt lo p.keys (i - 1)) (hiAt hi p.keys (max i 1)) j ∧ mostD j / 2 ≤ sizeD j ∧ sizeD j ≤ 2 * mostD j ∧ (pgsP T.dev d j).Perm (pgsP T.dev d c ++ pgsP T.dev d m) ∧
        subE T.dev d (p.kids.take (i - 1)) ++ entP T.dev d j ++ subE T.dev d (p.kids.drop (max i 1 + 1)) = subE T.dev d (p.kids.take i) ++ entP T.dev d c ++ subE T.dev d (p.kids.drop (i + 1)) := by
      by_cases z : i = 0
      · subst z
        obtain rfl : o = 1 := by omega
        rw [if_pos rfl] at hj
        have b1 : hiAt hi p.keys 0 = some k := by unfold hiAt; rw [show p.keys[0]? = some k from hk]
        have b2 : loAt lo p.keys 1 = some k := by unfold loAt; rw [if_neg (by decide)]; exact hk
        rw [b1] at h
        rw [b2] at g3
        have hkk : InnS (loAt lo p.keys 0) (hiAt hi p.keys 1) k := by
          refine ⟨hkin.2.1, fun y hy => ?_⟩
          cases hq : p.keys[1]? with
          | none => exact hkin.2.2 y (by unfold hiAt at hy; rw [hq] at hy; exact hy)
          | some y' =>
            have : y = y' := by unfold hiAt at hy; rw [hq] at hy; exact (Option.some.inj hy).symm
            rw [this]
            exact ksorted_lt hb.rise (by omega : 0 < 1) hk hq
        obtain ⟨j1, j2, j3, j4, j5, j6⟩ := okP_join h g3 ⟨hkin.1, hkk⟩
        rw [hj] at j1 j2 j3 j4 j6
        have e2 := g2.1
        have e3 := g2.2
        have e4 := hpoor
        have e5 := hs1
        refine ⟨j1, by rw [j4]; rw [j5] at e2 e3; split at j6 <;> omega, by rw [j4]; rw [j5] at e2 e3; split at j6 <;> omega, by rw [j3], ?_⟩
        have e : p.kids.drop 1 = g :: p.kids.drop 2 := by
          rw [List.drop_eq_getElem_cons hol]
          congr 1
          rw [List.getElem?_eq_getElem hol] at hg
          exact Option.some.inj hg
        show subE T.dev d (p.kids.take 0) ++ entP T.dev d j ++ subE T.dev d (p.kids.drop 2) = subE T.dev d (p.kids.take 0) ++ entP T.dev d c ++ subE T.dev d (p.kids.drop 1)
        rw [e, j2]
        unfold subE
        simp only [List.take_zero, List.flatMap_nil, List.nil_append, List.flatMap_cons, hm, List.append_assoc]
      · obtain rfl : o = i - 1 := by omega
        rw [if_neg (by omega)] at hj
        have b1 : hiAt hi p.keys (i - 1) = some k := by unfold hiAt; rw [hk]
        have b2 : loAt lo p.keys i = some k := by unfold loAt; rw [if_neg z]; exact hk
        rw [b1] at g3
        rw [b2] at h
        have hmx : max i 1 = i := by omega
        rw [hmx]
        have hkk : InnS (loAt lo p.keys (i - 1)) (hiAt hi p.keys i) k := by
          refine ⟨fun l hl => ?_, fun y hy => ?_⟩
          · unfold loAt at hl
            split at hl
            · exact hkin.2.1 l hl
            · exact ksorted_lt hb.rise (by omega : i - 1 - 1 < i - 1) hl hk
          · cases hq : p.keys[i]? with
            | none => exact hkin.2.2 y (by unfold hiAt at hy; rw [hq] at hy; exact hy)
            | some y' =>
              have : y = y' := by unfold hiAt at hy; rw [hq] at hy; exact (Option.some.inj hy).symm
              rw [this]
              exact ksorted_lt hb.rise (by omega : i - 1 < i) hk hq
        obtain ⟨j1, j2, j3, j4, j5, j6⟩ := okP_join g3 h ⟨hkin.1, hkk⟩
        rw [hj] at j1 j2 j3 j4 j6
        have e2 := g2.1
        have e3 := g2.2
        have e4 := hpoor
        have e5 := hs1
        refine ⟨j1, by rw [j4]; rw [j5] at e4 e5; split at j6 <;> omega, by rw [j4]; rw [j5] at e4 e5; split at j6 <;> omega, by rw [j3]; exact List.perm_append_comm, ?_⟩
        have e : p.kids.take i = p.kids.take (i - 1) ++ [g] := by
          rw [show i = i - 1 + 1 by omega, List.take_succ_eq_append_getElem hol]
          congr 2
          rw [List.getElem?_eq_getElem hol] at hg
          exact Option.some.inj hg
        rw [e, j2]
        unfold subE
        simp only [List.flatMap_append, List.flatMap_cons, List.flatMap_nil, List.append_nil, hm, List.append_assoc]
    obtain ⟨j1, j2, j3, j4, j5⟩ := hjoin
    have e : settleK T p i (d + 1 : Nat) c = putK (T.drop g).2 p i (i - 1) (max i 1) j := by
      unfold settleK
      rw [if_pos hpoor, hoi, hgD, hpk, if_neg (by simp), if_neg (fun hne => hne dr0), hkD, hj]
    rw [e]
    have own2 : (T.drop g).2.Owns (p.kids.getD i 0 :: (pgsP (T.drop g).2.dev d j ++ (subP (T.drop g).2.dev d (p.kids.take (i - 1) ++ p.kids.drop (max i 1 + 1)) ++ R))) := by
      rw [hdev, hold, ← hLe]
      refine own1.perm (List.Perm.cons _ (List.Perm.append_right _ j4.symm))
    have hjl := j4.length_eq
    have hLl := hL.length_eq
    rw [List.length_append] at hjl
    rw [List.length_cons, List.length_append] at hLl
    rcases putK_spec hst.run hst.calm (p := p) (c := j) (i := i) (by rw [hdev]; exact hB) (by rw [hdev]; exact j1) j2 j3 own2 with q | ⟨q, Q⟩
    · refine .inl ⟨q.1, (q.2.back hst).mono ?_⟩
      rw [hdev, ← hLe]; omega
    · refine .inr ⟨q, _, rfl, hst.trans Q.step, Q.ok, ?_, Q.owns, fun x hx => ?_, ?_, ?_, ?_⟩
      · rw [Q.ent, hdev]; exact j5
      · rw [Q.rest x hx, hdev]
      · have := Q.size; omega
      · have := Q.size; omega
      · have := Q.cnt
        rw [hdev, ← hLe] at this
        omega
  · have e : settleK T p i (d + 1 : Nat) c = putK T p i i i c := by unfold settleK; rw [if_neg hpoor]
    rw [e]
    rcases putK_spec hr hc hb h (by omega) (by omega) ho with q | ⟨q, Q⟩
    · exact .inl q
    · refine .inr ⟨q, _, rfl, Q.step, Q.ok, Q.ent, Q.owns, Q.rest, ?_, ?_, Q.cnt⟩
      · have := Q.size; omega
      · have := Q.size; omega
end Go.Proofs.YtgpohemcfgepeaaGreat

namespace Go.Proofs.YtgpohemcfgepeaaGreat
open Go.RowKit Go.MapKept
structure ActOk (act : PageD → PageD × Bool) (key : ByteArray) (f : List PairD → List PairD) (g : List PairD → Bool) : Prop where
  leaf : ∀ l, Sorted l → (∀ x ∈ l, PairOk x) → (act (leafPg l)).2 = g l ∧ (g l = true → (act (leafPg l)).1 = leafPg (f l) ∧ (f l).length ≤ l.length + 1 ∧ l.length ≤ (f l).length + 1 ∧ Sorted (f l) ∧ ∀ x ∈ f l, x ∈ l ∨ (x.1 = key ∧ PairOk x))
  fmid : ∀ a b c : List PairD, (∀ x ∈ a, kLt x.1 key = true) → (∀ x ∈ c, kLt key x.1 = true) → f (a ++ b ++ c) = a ++ f b ++ c
  gmid : ∀ a b c : List PairD, (∀ x ∈ a, kLt x.1 key = true) → (∀ x ∈ c, kLt key x.1 = true) → g (a ++ b ++ c) = g b
structure Chg (T T' : StD) (d : Nat) (lo hi : Option ByteArray) (n : Int) (q q' : PageD) (R : List Int) (f : List PairD → List PairD) : Prop where
  step : T.Step T'
  ok : okP T'.dev d lo hi q'
  ent : entP T'.dev d q' = f (entP T.dev d q)
  owns : T'.Owns (n :: (pgsP T'.dev d q' ++ R))
  rest : ∀ x ∈ n :: R, T'.dev.bytes x = T.dev.bytes x
  cnt : (pgsP T'.dev d q').length ≤ (pgsP T.dev d q).length + d
  small : sizeD q' ≤ sizeD q + 1
  great : sizeD q ≤ sizeD q' + 1
theorem mostD_eq {D D' : Dv} {d : Nat} {lo hi lo' hi' : Option ByteArray} {p q : PageD} (h : okP D d lo hi p) (h' : okP D' d lo' hi' q) : mostD p = mostD q := by unfold mostD; rw [okP_kind h, okP_kind h']
theorem subP_cut {D : Dv} {d : Nat} {gs : List Int} {i : Nat} {n : Int} (h : gs[i]? = some n) : subP D d gs = subP D d (gs.take i) ++ (n :: pgsP D d (pageD D n).1) ++ subP D d (gs.drop (i + 1)) ∧ subE D d gs = subE D d (gs.take i) ++ entP D d (pageD D n).1 ++ subE D d (gs.drop (i + 1)) := by
  have hl := (List.getElem?_eq_some_iff.1 h)
  obtain ⟨hl, he⟩ := hl
  have e : gs = gs.take i ++ n :: gs.drop (i + 1) := by
    rw [← he, ← List.drop_eq_getElem_cons hl, List.take_append_drop]
  constructor
  · conv => lhs; rw [e]
    unfold subP
    rw [List.flatMap_append, List.flatMap_cons]
    simp only [List.append_assoc, List.cons_append]
  · conv => lhs; rw [e]
    unfold subE
    rw [List.flatMap_append, List.flatMap_cons]
    simp only [List.append_assoc]
theorem changeK_spec {act : PageD → PageD × Bool} {key : ByteArray} {f : List PairD → List PairD} {g : List PairD → Bool} (A : ActOk act key f g) :
    ∀ (d : Nat) (T : StD) (n : Int) (q : PageD) (lo hi : Option ByteArray) (R : List Int), T.Run → T.dev.calm → pageD T.dev n = (q, 0) → okP T.dev d lo hi q → Inn lo hi key → (d ≠ 0 → 1 ≤ q.keys.length) → T.Owns (n :: (pgsP T.dev d q ++ R)) →
      ((changeK act key d T n).2.2.1 = 60 ∧ T.Lack (1 + (pgsP T.dev d q).length + R.length + d)) ∨ ((changeK act key d T n).2.2.1 = 0 ∧ (changeK act key d T n).2.1 = false ∧ (changeK act key d T n).2.2.2 = T ∧ g (entP T.dev d q) = false) ∨
        ((changeK act key d T n).2.2.1 = 0 ∧ (changeK act key d T n).2.1 = true ∧ g (entP T.dev d q) = true ∧ Chg T (changeK act key d T n).2.2.2 d lo hi n q (changeK act key d T n).1 R f)
  | 0, T, n, q, lo, hi, R, hr, hc, hp, h, hk, _, ho => by
    have hpk : pageK T n 1 = (q, 0) := by
      have := pageK_ok (T := T) (n := n) (d := 0) (lo := lo) (hi := hi) (by rw [hp]) (by rw [hp]; exact h)
      rw [hp] at this
      exact this
    have e : changeK act key 0 T n = ((act q).1, (act q).2, 0, T) := by
      unfold changeK
      rw [hpk, if_neg (by simp)]
    rw [e]
    obtain ⟨eq, hs, hpx⟩ := h
    generalize q.pairs = l at *
    subst eq
    obtain ⟨a1, a2⟩ := A.leaf l hs (fun x hx => (hpx x hx).1)
    cases hg : g l with
    | false => exact .inr (.inl ⟨rfl, by rw [a1, hg], rfl, hg⟩)
    | true =>
      obtain ⟨b1, b2, b3, b4, b5⟩ := a2 hg
      refine .inr (.inr ⟨rfl, by rw [a1, hg], hg, ⟨.refl hr hc, ?_, ?_, ho, fun _ _ => rfl, Nat.le_refl _, ?_, ?_⟩⟩)
      · rw [b1]
        refine ⟨rfl, b4, fun x hx => ?_⟩
        rcases b5 x hx with h1 | ⟨h1, h2⟩
        · exact hpx x h1
        · exact ⟨h2, by rw [h1]; exact hk⟩
      · rw [b1]; rfl
      · rw [b1]; show (f l).length + 0 ≤ l.length + 0 + 1; omega
      · rw [b1]; show l.length + 0 ≤ (f l).length + 0 + 1; omega
  | d + 1, T, n, q, lo, hi, R, hr, hc, hp, h, hk, hk1, ho => by
    have hpk : pageK T n (d + 2 : Nat) = (q, 0) := by
      have := pageK_ok (T := T) (n := n) (d := d + 1) (lo := lo) (hi := hi) (by rw [hp]) (by rw [hp]; exact h)
      rw [hp] at this
      exact this
    have hkl := hk1 (by omega)
    obtain ⟨eq, hs, hkk, hl, h5⟩ := h
    obtain ⟨i, hi'⟩ : ∃ i, kidN q.keys key = i := ⟨_, rfl⟩
    have hil : i ≤ q.keys.length := by rw [← hi']; exact kidN_le _ _
    have hin : Inn (loAt lo q.keys i) (hiAt hi q.keys i) key := by rw [← hi']; exact kidN_inn hk
    obtain ⟨m, hm⟩ : ∃ m, q.kids[i]? = some m := ⟨_, List.getElem?_eq_getElem (by omega)⟩
    obtain ⟨m1, m2, m3⟩ := h5 i m hm
    obtain ⟨ch, hch⟩ : ∃ ch, (pageD T.dev m).1 = ch := ⟨_, rfl⟩
    rw [hch] at m1 m2 m3
    have hmD := getD_of hm
    obtain ⟨cut1, cut2⟩ := subP_cut (D := T.dev) (d := d) hm
    rw [hch] at cut1 cut2
    have e : changeK act key (d + 1) T n = (if (changeK act key d T m).2.2.1 ≠ 0 ∨ (changeK act key d T m).2.1 = false then (q, false, (changeK act key d T m).2.2.1, (changeK act key d T m).2.2.2)
        else ((settleK (changeK act key d T m).2.2.2 q i (d + 1 : Nat) (changeK act key d T m).1).1, true, (settleK (changeK act key d T m).2.2.2 q i (d + 1 : Nat) (changeK act key d T m).1).2.1, (settleK (changeK act key d T m).2.2.2 q i (d + 1 : Nat) (changeK act key d T m).1).2.2)) := by
      conv => lhs; unfold changeK
      rw [hpk, if_neg (by simp)]
      simp only [hi', hmD]
    have hE : entP T.dev (d + 1) q = subE T.dev d (q.kids.take i) ++ entP T.dev d ch ++ subE T.dev d (q.kids.drop (i + 1)) := cut2
    have hleft : ∀ x ∈ subE T.dev d (q.kids.take i), kLt x.1 key = true := fun x hx => by
      obtain ⟨k, hk', hx⟩ := List.mem_flatMap.1 hx
      obtain ⟨j, hj, he⟩ := List.mem_take_iff_getElem.1 hk'
      have h6 := h5 j k (by rw [List.getElem?_eq_getElem (by omega), he])
      exact kids_lt hs (by omega : j < i) hil (ent_inn d _ _ _ h6.2.2 x hx).2 hin
    have hright : ∀ x ∈ subE T.dev d (q.kids.drop (i + 1)), kLt key x.1 = true := fun x hx => by
      obtain ⟨k, hk', hx⟩ := List.mem_flatMap.1 hx
      obtain ⟨j, hj, he⟩ := List.mem_drop_iff_getElem.1 hk'
      have h6 := h5 (i + 1 + j) k (by rw [List.getElem?_eq_getElem (by omega), he])
      exact kids_lt hs (by omega : i < i + 1 + j) (by omega) hin (ent_inn d _ _ _ h6.2.2 x hx).2
    have hout : okOut T.dev d lo hi q.keys q.kids i i := ⟨hl, fun j k _ => h5 j k⟩
    have esub : subP T.dev d (q.kids.take i ++ q.kids.drop (i + 1)) = subP T.dev d (q.kids.take i) ++ subP T.dev d (q.kids.drop (i + 1)) := List.flatMap_append
    have ho2 : T.Owns (m :: (pgsP T.dev d ch ++ (subP T.dev d (q.kids.take i ++ q.kids.drop (i + 1)) ++ n :: R))) := by
      refine ho.perm ?_
      show List.Perm (n :: (subP T.dev d q.kids ++ R)) _
      rw [cut1, esub]
      generalize subP T.dev d (q.kids.take i) = P1
      generalize subP T.dev d (q.kids.drop (i + 1)) = P2
      generalize pgsP T.dev d ch = P3
      have b1 : (n :: (P1 ++ m :: P3 ++ P2 ++ R)).Perm (P1 ++ m :: P3 ++ P2 ++ n :: R) := List.perm_middle.symm
      refine b1.trans ?_
      have b2 : (P1 ++ m :: P3).Perm (m :: P3 ++ P1) := List.perm_append_comm
      have b3 := b2.append_right (P2 ++ n :: R)
      simpa [List.append_assoc] using b3
    have ih := changeK_spec A d T m ch _ _ _ hr hc m1 m3 hin (fun hd => by
      have h8 := m2.1
      have h9 : sizeD ch = ch.keys.length := by
        cases d with
        | zero => exact absurd rfl hd
        | succ d => rw [m3.1]; show 0 + _ = _; omega
      have := mostD_half (p := ch)
      omega) ho2
    obtain ⟨⟨c', is, er, T1⟩, hR⟩ : ∃ r, changeK act key d T m = r := ⟨_, rfl⟩
    rw [hR] at ih e
    simp only at ih e
    rw [e]
    have hcnt : (pgsP T.dev (d + 1) q).length = (subP T.dev d (q.kids.take i ++ q.kids.drop (i + 1))).length + (pgsP T.dev d ch).length + 1 := by
      show (subP T.dev d q.kids).length = _
      rw [cut1, esub]
      simp only [List.length_append, List.length_cons]
      omega
    rcases ih with ⟨i0, i9⟩ | ⟨i1, i2, i3, i4⟩ | ⟨i1, i2, i3, C⟩
    · subst i0
      left
      rw [if_pos (.inl (by decide))]
      refine ⟨rfl, i9.mono ?_⟩
      rw [List.length_append, List.length_cons, hcnt]; omega
    · subst i1 i2 i3
      right; left
      rw [if_pos (.inr rfl)]
      refine ⟨rfl, rfl, rfl, ?_⟩
      rw [hE, A.gmid _ _ _ hleft hright]; exact i4
    · subst i1 i2
      rw [if_neg (by simp)]
      have hsm := Step.same C.step hc
      have hro : ∀ x ∈ subP T.dev d (q.kids.take i ++ q.kids.drop (i + 1)), T1.dev.bytes x = T.dev.bytes x := fun x hx => C.rest x (List.mem_cons_of_mem _ (List.mem_append.2 (.inl hx)))
      have hB : Bran T1.dev d lo hi q i i := ⟨eq, hs, hkk, hout.congr hsm.1 hsm.2 hro, Nat.le_refl _, hil⟩
      obtain ⟨s1, _, _⟩ := sub_congr hsm.1 hsm.2 hro hout.mem
      have hT : ∀ k ∈ q.kids.take i, ∃ lo hi, okP T.dev d lo hi (pageD T.dev k).1 := fun k hk => hout.mem k (List.mem_append.2 (.inl hk))
      have hD : ∀ k ∈ q.kids.drop (i + 1), ∃ lo hi, okP T.dev d lo hi (pageD T.dev k).1 := fun k hk => hout.mem k (List.mem_append.2 (.inr hk))
      obtain ⟨_, t2, _⟩ := sub_congr (gs := q.kids.take i) hsm.1 hsm.2 (fun x hx => hro x (by rw [esub]; simp [hx])) hT
      obtain ⟨_, u2, _⟩ := sub_congr (gs := q.kids.drop (i + 1)) hsm.1 hsm.2 (fun x hx => hro x (by rw [esub]; simp [hx])) hD
      have hmm := mostD_eq C.ok m3
      have h8 := m2.1
      have h9 := m2.2
      have h10 := C.small
      have h11 := C.great
      have own1 : T1.Owns (q.kids.getD i 0 :: (pgsP T1.dev d c' ++ (subP T1.dev d (q.kids.take i ++ q.kids.drop (i + 1)) ++ n :: R))) := by
        rw [hmD, s1]; exact C.owns
      rcases settleK_spec C.step.run C.step.calm hB hkl C.ok (by rw [hmm]; omega) (by rw [hmm]; omega) own1 with z | ⟨z, T2, z1, z2, z3, z4, z5, z6, z7, z8, z9⟩
      · refine .inl ⟨z.1, (z.2.back C.step).mono ?_⟩
        have := C.cnt
        rw [s1, List.length_cons, hcnt]; omega
      · refine .inr (.inr ⟨z, rfl, ?_, ⟨by rw [z1]; exact C.step.trans z2, by rw [z1]; exact z3, ?_, ?_, fun x hx => ?_, ?_, z7, z8⟩⟩)
        · rw [hE, A.gmid _ _ _ hleft hright]; exact i3
        · rw [z1, z4, t2, u2, C.ent, hE, A.fmid _ _ _ hleft hright]
        · rw [z1]; exact z5.perm List.perm_middle
        · rw [z1, z6 x hx]
          exact C.rest x (by
            rcases List.mem_cons.1 hx with hx | hx
            · rw [hx]; simp
            · simp [hx])
        · have := C.cnt
          rw [s1] at z9
          rw [z1]
          dsimp only
          rw [hcnt]; omega
end Go.Proofs.YtgpohemcfgepeaaGreat

namespace Go.Proofs.YtgpohemcfgepeaaGreat
open Go.RowKit Go.MapKept
theorem tw_pos {key : ByteArray} {x : PairD} {l : List PairD} (h : kLt x.1 key = true) : (x :: l).takeWhile (fun x => kLt x.1 key) = x :: l.takeWhile (fun x => kLt x.1 key) := List.takeWhile_cons_of_pos (p := fun x : PairD => kLt x.1 key) h
theorem tw_neg {key : ByteArray} {x : PairD} {l : List PairD} (h : ¬ kLt x.1 key = true) : (x :: l).takeWhile (fun x => kLt x.1 key) = [] := List.takeWhile_cons_of_neg (p := fun x : PairD => kLt x.1 key) h
theorem fl_pos {key : ByteArray} {x : PairD} {l : List PairD} (h : kLt x.1 key = true) : (x :: l).filter (fun x => kLt x.1 key) = x :: l.filter (fun x => kLt x.1 key) := List.filter_cons_of_pos (p := fun x : PairD => kLt x.1 key) h
theorem fl_neg {key : ByteArray} {x : PairD} {l : List PairD} (h : ¬ kLt x.1 key = true) : (x :: l).filter (fun x => kLt x.1 key) = l.filter (fun x => kLt x.1 key) := List.filter_cons_of_neg (p := fun x : PairD => kLt x.1 key) h
theorem fg_pos {key : ByteArray} {x : PairD} {l : List PairD} (h : kLt key x.1 = true) : (x :: l).filter (fun x => kLt key x.1) = x :: l.filter (fun x => kLt key x.1) := List.filter_cons_of_pos (p := fun x : PairD => kLt key x.1) h
theorem fg_neg {key : ByteArray} {x : PairD} {l : List PairD} (h : ¬ kLt key x.1 = true) : (x :: l).filter (fun x => kLt key x.1) = l.filter (fun x => kLt key x.1) := List.filter_cons_of_neg (p := fun x : PairD => kLt key x.1) h
theorem fo_pos {key : ByteArray} {x : PairD} {l : List PairD} (h : (kLt x.1 key || kLt key x.1) = true) : (x :: l).filter (fun x => kLt x.1 key || kLt key x.1) = x :: l.filter (fun x => kLt x.1 key || kLt key x.1) := List.filter_cons_of_pos (p := fun x : PairD => kLt x.1 key || kLt key x.1) h
theorem fo_neg {key : ByteArray} {x : PairD} {l : List PairD} (h : ¬ (kLt x.1 key || kLt key x.1) = true) : (x :: l).filter (fun x => kLt x.1 key || kLt key x.1) = l.filter (fun x => kLt x.1 key || kLt key x.1) := List.filter_cons_of_neg (p := fun x : PairD => kLt x.1 key || kLt key x.1) h
theorem findN_cons (x : PairD) (l : List PairD) (key : ByteArray) : findN (x :: l) key = if kLt x.1 key = true then findN l key + 1 else 0 := by
  unfold findN
  by_cases h : kLt x.1 key = true
  · rw [tw_pos h, if_pos h]; rfl
  · rw [tw_neg h, if_neg h]; rfl
theorem findB_cons (x : PairD) (l : List PairD) (key : ByteArray) : findB (x :: l) key = if kLt x.1 key = true then findB l key else decide (x.1 = key) := by
  unfold findB
  rw [findN_cons]
  by_cases h : kLt x.1 key = true
  · rw [if_pos h, if_pos h]; simp
  · rw [if_neg h, if_neg h]; rfl
theorem split_key (key : ByteArray) : ∀ l : List PairD, Sorted l → l.take (findN l key) = l.filter (fun x => kLt x.1 key) ∧ l.drop (findN l key + if findB l key = true then 1 else 0) = l.filter (fun x => kLt key x.1)
  | [], _ => ⟨rfl, rfl⟩
  | x :: l, h => by
    have h' := List.pairwise_cons.1 h
    rw [findN_cons, findB_cons]
    by_cases hx : kLt x.1 key = true
    · obtain ⟨i1, i2⟩ := split_key key l h'.2
      rw [if_pos hx, if_pos hx]
      constructor
      · rw [List.take_succ_cons, fl_pos hx, i1]
      · rw [fg_neg (by rw [kLt_asymm hx]; simp), ← i2, show findN l key + 1 + (if findB l key = true then 1 else 0) = (findN l key + if findB l key = true then 1 else 0) + 1 by omega, List.drop_succ_cons]
    · rw [if_neg hx, if_neg hx]
      have hx' : kLt x.1 key = false := by simpa using hx
      constructor
      · rw [List.take_zero, fl_neg hx]
        symm
        rw [List.filter_eq_nil_iff]
        intro y hy hlt
        rw [kLt_trans (h'.1 y hy) hlt] at hx'; cases hx'
      · by_cases he : x.1 = key
        · rw [decide_eq_true he, if_pos rfl, fg_neg (by rw [he, kLt_irrefl]; simp)]
          symm
          show _ = l
          rw [List.filter_eq_self]
          intro y hy
          rw [← he]; exact h'.1 y hy
        · have hk : kLt key x.1 = true := by
            rcases kLt_total x.1 key with h1 | h1 | h1
            · exact absurd h1 hx
            · exact absurd h1 he
            · exact h1
          rw [decide_eq_false he, if_neg (by simp), fg_pos hk]
          symm
          show _ = x :: l
          congr 1
          rw [List.filter_eq_self]
          intro y hy
          exact kLt_trans hk (h'.1 y hy)
theorem findB_any (key : ByteArray) : ∀ l : List PairD, Sorted l → findB l key = l.any fun x => decide (x.1 = key)
  | [], _ => rfl
  | x :: l, h => by
    have h' := List.pairwise_cons.1 h
    rw [findB_cons, List.any_cons]
    by_cases hx : kLt x.1 key = true
    · rw [if_pos hx, findB_any key l h'.2]
      have : decide (x.1 = key) = false := by rw [decide_eq_false_iff_not]; intro e; rw [e, kLt_irrefl] at hx; cases hx
      rw [this]; rfl
    · rw [if_neg hx]
      cases hd : decide (x.1 = key) with
      | true => rfl
      | false =>
        symm
        rw [Bool.false_or, List.any_eq_false]
        intro y hy he
        have hye : y.1 = key := by simpa using he
        have := h'.1 y hy
        rw [hye] at this
        exact hx this
theorem findN_le (l : List PairD) (key : ByteArray) : findN l key ≤ l.length := takeWhile_le l
theorem findB_lt {l : List PairD} {key : ByteArray} (h : findB l key = true) : findN l key < l.length := by
  unfold findB at h
  cases hq : l[findN l key]? with
  | none => rw [hq] at h; cases h
  | some x => exact (List.getElem?_eq_some_iff.1 hq).1
theorem setLeaf_is {key val : ByteArray} {l : List PairD} (h : Sorted l) : setLeaf key val (leafPg l) = (leafPg (setP key val l), true) := by
  obtain ⟨h1, h2⟩ := split_key key l h
  show (leafPg (l.take (findN l key) ++ [(key, val)] ++ l.drop (findN l key + if findB l key = true then 1 else 0)), true) = _
  rw [h1, h2]
  unfold setP
  rw [List.append_assoc]; rfl
theorem setP_len {key val : ByteArray} {l : List PairD} (h : Sorted l) : (setP key val l).length = l.length + (if (l.any fun x => decide (x.1 = key)) = true then 0 else 1) := by
  obtain ⟨h1, h2⟩ := split_key key l h
  unfold setP
  rw [← h1, ← h2, ← findB_any key l h, List.length_append, List.length_cons, List.length_take, List.length_drop]
  have := findN_le l key
  by_cases hb : findB l key = true
  · have := findB_lt hb
    rw [if_pos hb, if_pos hb]; omega
  · rw [if_neg hb, if_neg hb]; omega
theorem filter_or_sorted (key : ByteArray) : ∀ l : List PairD, Sorted l → l.filter (fun x => kLt x.1 key || kLt key x.1) = l.filter (fun x => kLt x.1 key) ++ l.filter (fun x => kLt key x.1)
  | [], _ => rfl
  | x :: l, h => by
    have h' := List.pairwise_cons.1 h
    have ih := filter_or_sorted key l h'.2
    by_cases hx : kLt x.1 key = true
    · rw [fo_pos (by rw [hx]; rfl), fl_pos hx, fg_neg (by rw [kLt_asymm hx]; simp), ih]; rfl
    · have hx' : kLt x.1 key = false := by simpa using hx
      have hz : l.filter (fun x => kLt x.1 key) = [] := by
        rw [List.filter_eq_nil_iff]
        intro y hy hlt
        rw [kLt_trans (h'.1 y hy) hlt] at hx'; cases hx'
      rw [fl_neg hx, hz, List.nil_append]
      by_cases hk : kLt key x.1 = true
      · rw [fo_pos (by rw [hk]; simp), fg_pos hk, ih, hz, List.nil_append]
      · rw [fo_neg (by rw [hx']; simpa using hk), fg_neg hk, ih, hz, List.nil_append]
theorem cutLeaf_is {key : ByteArray} {l : List PairD} (h : Sorted l) (hb : findB l key = true) : cutLeaf key (leafPg l) = (leafPg (cutP key l), true) := by
  obtain ⟨h1, h2⟩ := split_key key l h
  rw [if_pos hb] at h2
  have e : cutLeaf key (leafPg l) = (leafPg (l.take (findN l key) ++ l.drop (findN l key + 1)), true) := by
    unfold cutLeaf
    rw [if_pos (show findB (leafPg l).pairs key = true from hb)]; rfl
  rw [e, h1, h2]
  unfold cutP
  rw [filter_or_sorted key l h]
theorem cutP_len {key : ByteArray} {l : List PairD} (h : Sorted l) : (cutP key l).length + (if (l.any fun x => decide (x.1 = key)) = true then 1 else 0) = l.length := by
  obtain ⟨h1, h2⟩ := split_key key l h
  unfold cutP
  rw [filter_or_sorted key l h, ← h1, ← h2, ← findB_any key l h, List.length_append, List.length_take, List.length_drop]
  have := findN_le l key
  by_cases hb : findB l key = true
  · have := findB_lt hb
    rw [if_pos hb]; omega
  · rw [if_neg hb]; omega
theorem any_mid {key : ByteArray} {a b c : List PairD} (ha : ∀ x ∈ a, kLt x.1 key = true) (hc : ∀ x ∈ c, kLt key x.1 = true) : (a ++ b ++ c).any (fun x => decide (x.1 = key)) = b.any fun x => decide (x.1 = key) := by
  have e1 : a.any (fun x => decide (x.1 = key)) = false := List.any_eq_false.2 fun x hx he => by
    have hk : x.1 = key := by simpa using he
    have := ha x hx
    rw [hk, kLt_irrefl] at this; cases this
  have e2 : c.any (fun x => decide (x.1 = key)) = false := List.any_eq_false.2 fun x hx he => by
    have hk : x.1 = key := by simpa using he
    have := hc x hx
    rw [hk, kLt_irrefl] at this; cases this
  rw [List.any_append, List.any_append, e1, e2]; simp
theorem setLeaf_ok {key val : ByteArray} (hp : PairOk (key, val)) : ActOk (setLeaf key val) key (setP key val) (fun _ => true) := by
  refine ⟨fun l hs hl => ?_, fun a b c ha hc => setP_mid ha hc, fun _ _ _ _ _ => rfl⟩
  rw [setLeaf_is hs]
  have hlen := setP_len (key := key) (val := val) hs
  refine ⟨rfl, fun _ => ⟨rfl, ?_, ?_, hs.set key val, fun x hx => ?_⟩⟩
  · rw [hlen]; split <;> omega
  · rw [hlen]; omega
  · unfold setP at hx
    rcases List.mem_append.1 hx with hx | hx
    · exact .inl ((List.mem_filter.1 hx).1)
    · rcases List.mem_cons.1 hx with rfl | hx
      · exact .inr ⟨rfl, hp⟩
      · exact .inl ((List.mem_filter.1 hx).1)
theorem cutLeaf_ok {key : ByteArray} : ActOk (cutLeaf key) key (cutP key) (fun l => l.any fun x => decide (x.1 = key)) := by
  refine ⟨fun l hs hl => ?_, fun a b c ha hc => cutP_mid ha hc, fun a b c ha hc => any_mid ha hc⟩
  by_cases hb : findB l key = true
  · rw [cutLeaf_is hs hb]
    have hlen := cutP_len (key := key) hs
    refine ⟨by rw [← findB_any key l hs, hb], fun _ => ⟨rfl, by omega, ?_, hs.cut key, fun x hx => .inl ((List.mem_filter.1 hx).1)⟩⟩
    split at hlen <;> omega
  · have e : cutLeaf key (leafPg l) = (leafPg l, false) := by
      unfold cutLeaf
      rw [if_neg (show ¬ findB (leafPg l).pairs key = true from hb)]
    have hf : findB l key = false := by simpa using hb
    rw [e]
    refine ⟨by rw [← findB_any key l hs, hf], fun hg => ?_⟩
    rw [← findB_any key l hs, hf] at hg; cases hg
end Go.Proofs.YtgpohemcfgepeaaGreat

namespace Go.Proofs.YtgpohemcfgepeaaGreat
open Go.RowKit Go.MapKept
inductive TrD.Tree (t : TrD) (L : List PairD) : Prop where
  | none (hd : t.depth = 0) (hr : t.root = 0) (hl : L = []) (ho : t.st.Owns t.st.lists)
  | some (d : Nat) (q : PageD) (hd : t.depth = ((d + 1 : Nat) : Int)) (hp : pageD t.st.dev t.root = (q, 0)) (ok : okP t.st.dev d Option.none Option.none q) (h1 : 1 ≤ sizeD q) (h2 : sizeD q ≤ mostD q) (he : entP t.st.dev d q = L) (ho : t.st.Owns (t.root :: (pgsP t.st.dev d q ++ t.st.lists)))
theorem TrD.Tree.sorted {t : TrD} {L : List PairD} (h : t.Tree L) : Sorted L := by
  cases h with
  | none _ _ hl _ => rw [hl]; exact List.Pairwise.nil
  | some d q _ _ ok _ _ he _ => rw [← he]; exact ent_sorted d _ _ q ok
theorem sizeD_keys {D : Dv} {d : Nat} {lo hi : Option ByteArray} {q : PageD} (h : okP D d lo hi q) : (d = 0 → sizeD q = q.pairs.length ∧ q.kind = 1) ∧ (d ≠ 0 → sizeD q = q.keys.length ∧ q.kind = 2) := by
  cases d with
  | zero => exact ⟨fun _ => ⟨by rw [h.1]; rfl, by rw [h.1]; rfl⟩, fun h0 => absurd rfl h0⟩
  | succ d => exact ⟨fun h0 => absurd h0 (by omega), fun _ => ⟨by rw [h.1]; show 0 + _ = _; omega, by rw [h.1]; rfl⟩⟩
theorem TrD.top_spec {t : TrD} (hr : t.st.Run) (hc : t.st.dev.calm) {d : Nat} {p : PageD} (hd : t.depth = ((d + 1 : Nat) : Int)) (h : okP t.st.dev d none none p) (h2 : sizeD p ≤ mostD p + 1) (ho : t.st.Owns (t.root :: (pgsP t.st.dev d p ++ t.st.lists))) :
    ((t.top p).1 = 60 ∧ t.st.Lack ((pgsP t.st.dev d p).length + t.st.lists.length + 2)) ∨ ((t.top p).1 = 0 ∧ t.st.Step (t.top p).2.st ∧ (t.top p).2.count = t.count ∧ (t.top p).2.Tree (entP t.st.dev d p)) := by
  have hmem : t.root ∈ t.root :: (pgsP t.st.dev d p ++ t.st.lists) := by simp
  have her : (t.root :: (pgsP t.st.dev d p ++ t.st.lists)).erase t.root = pgsP t.st.dev d p ++ t.st.lists := List.erase_cons_head ..
  have hsz := sizeD_keys h
  obtain ⟨dr0, dr1⟩ := ho.drop hr hmem
  have hst := hr.toDrop hc t.root
  have hdev : (t.st.drop t.root).2.dev = t.st.dev := (hr.drop t.root).2.1
  rw [her] at dr1
  by_cases hz : sizeD p = 0
  · by_cases hd0 : d = 0
    · subst hd0
      obtain ⟨s1, s2⟩ := hsz.1 rfl
      have e : t.top p = ((t.st.drop t.root).1, { t with st := (t.st.drop t.root).2, root := 0, depth := 0 }) := by
        unfold TrD.top
        rw [if_pos ⟨s2, by omega⟩]
      rw [e]
      refine .inr ⟨dr0, hst, rfl, .none rfl rfl ?_ ?_⟩
      · show p.pairs = []
        exact List.eq_nil_of_length_eq_zero (by omega)
      · show (t.st.drop t.root).2.Owns (t.st.drop t.root).2.lists
        rw [hst.lists]; exact dr1
    · obtain ⟨s1, s2⟩ := hsz.2 hd0
      obtain ⟨d', rfl⟩ : ∃ d', d = d' + 1 := ⟨d - 1, by omega⟩
      have hk := okP_kids h
      have hkl : p.keys = [] := List.eq_nil_of_length_eq_zero (by omega)
      obtain ⟨m, hm⟩ : ∃ m, p.kids = [m] := by
        have := hk.1
        rw [hkl] at this
        match hq : p.kids, this with
        | [m], _ => exact ⟨m, rfl⟩
      have h3 := hk.2 0 m (by rw [hm]; rfl)
      rw [hkl] at h3
      have e : t.top p = ((t.st.drop t.root).1, { t with st := (t.st.drop t.root).2, root := p.kids.getD 0 0, depth := t.depth - 1 }) := by
        unfold TrD.top
        rw [if_neg (by rw [s2]; rintro ⟨h, _⟩; exact absurd h (by decide)), if_pos ⟨s2, by omega⟩]
      rw [e]
      have hg : p.kids.getD 0 0 = m := by rw [hm]; rfl
      have hen : entP t.st.dev (d' + 1) p = entP t.st.dev d' (pageD t.st.dev m).1 := by
        show p.kids.flatMap _ = _
        rw [hm]; simp
      have hpg : pgsP t.st.dev (d' + 1) p = m :: pgsP t.st.dev d' (pageD t.st.dev m).1 := by
        show p.kids.flatMap _ = _
        rw [hm]; simp
      refine .inr ⟨dr0, hst, rfl, .some d' (pageD t.st.dev m).1 (by show t.depth - 1 = _; omega) ?_ ?_ ?_ h3.2.1.2 ?_ ?_⟩
      · show pageD (t.st.drop t.root).2.dev (p.kids.getD 0 0) = _
        rw [hdev, hg]; exact h3.1
      · show okP (t.st.drop t.root).2.dev d' none none _
        rw [hdev]; exact h3.2.2
      · have := h3.2.1.1; have := mostD_half (p := (pageD t.st.dev m).1); omega
      · show entP (t.st.drop t.root).2.dev d' _ = _
        rw [hdev, hen]
      · show (t.st.drop t.root).2.Owns (p.kids.getD 0 0 :: (pgsP (t.st.drop t.root).2.dev d' _ ++ (t.st.drop t.root).2.lists))
        rw [hdev, hg, hst.lists]
        rw [hpg] at dr1
        exact dr1
  · have n1 : ¬ (p.kind = 1 ∧ p.pairs.length = 0) := fun hq => by
      by_cases hd0 : d = 0
      · have := (hsz.1 hd0).1; omega
      · have := (hsz.2 hd0).2; rw [this] at hq; exact absurd hq.1 (by decide)
    have n2 : ¬ (p.kind = 2 ∧ p.keys.length = 0) := fun hq => by
      by_cases hd0 : d = 0
      · have := (hsz.1 hd0).2; rw [this] at hq; exact absurd hq.1 (by decide)
      · have := (hsz.2 hd0).1; omega
    have hm3 := mostD_half (p := p)
    rcases layK_spec hr hc ho h (by omega) (by omega) with l0 | ⟨l0, L⟩
    · left
      unfold TrD.top
      rw [if_neg n1, if_neg n2]
      simp only
      rw [if_pos (by rw [l0.1]; decide)]; exact ⟨l0.1, l0.2.mono (by omega)⟩
    · obtain ⟨⟨gs, ks, e0, T1⟩, hR⟩ : ∃ r, layK t.st t.root p = r := ⟨_, rfl⟩
      rw [hR] at l0 L
      simp only at l0 L
      subst l0
      have hlists := L.step.lists
      by_cases hk0 : 0 < ks.length
      · have hkk := L.many hk0
        have hone := L.one
        have hgl := L.len
        have hgin : ∀ x ∈ gs, 2 ≤ x ∧ x < 4096 := fun x hx => by
          have hin := L.owns.inn x (List.mem_append.2 (.inl (List.mem_flatMap.2 ⟨x, hx, by simp⟩)))
          have hn4 := L.step.calm.fine.n4
          have hi := L.step.run.good.pool.hi
          omega
        have hck : (branchPg ks gs).check = true := branchPg_check L.rise (fun k hk => (L.keys k hk).1) hk0 (by omega) hgl hgin
        have e : t.top p = ((T1.lay 0 (branchPg ks gs)).2.1, { t with st := (T1.lay 0 (branchPg ks gs)).2.2, root := (T1.lay 0 (branchPg ks gs)).1, depth := t.depth + 1 }) := by
          unfold TrD.top
          rw [if_neg n1, if_neg n2]
          simp only
          rw [hR]
          simp only
          rw [if_neg (by simp), if_pos hk0]
        rw [e]
        rcases L.step.run.lay_page L.step.calm L.owns (.inl rfl) hck (.inr ⟨_, _, rfl⟩) with r0 | ⟨r0, r1, r2, r3, r4⟩
        · refine .inl ⟨r0.1, T1, _, L.step, L.owns, r0.2, ?_⟩
          have hcn := L.cnt
          rw [List.length_append]; omega
        · obtain ⟨⟨m, e2, T2⟩, hR2⟩ : ∃ r, T1.lay 0 (branchPg ks gs) = r := ⟨_, rfl⟩
          rw [hR2] at r0 r1 r2 r3 r4 ⊢
          simp only at r0 r1 r2 r3 r4 ⊢
          have h0 : (0 : Int) ∉ (gs.flatMap fun k => k :: pgsP T1.dev d (pageD T1.dev k).1) ++ t.st.lists := fun hm => by have := (L.owns.inn 0 hm).1; omega
          rw [List.erase_of_not_mem h0] at r2
          have hmn := (List.nodup_cons.1 r2.nodup).1
          have hb : ∀ x ∈ subP T1.dev d gs ++ t.st.lists, T2.dev.bytes x = T1.dev.bytes x := fun x hx => r3 x (fun e => hmn (e ▸ hx))
          have hsm := Step.same r1 L.step.calm
          obtain ⟨q1, q2, q3⟩ := okP_congr hsm.1 hsm.2 (d + 1) none none (branchPg ks gs) (fun x hx => hb x (List.mem_append.2 (.inl hx))) (okP_branch L.rise L.keys hkk)
          refine .inr ⟨r0, L.step.trans r1, by first | rfl | trivial, .some (d + 1) (branchPg ks gs) (by show t.depth + 1 = _; omega) r4 q1 (by show 1 ≤ 0 + ks.length; omega) (by show 0 + ks.length ≤ 12; omega) ?_ ?_⟩
          · show entP T2.dev (d + 1) _ = _
            rw [q2]; exact L.ent
          · show T2.Owns (m :: (pgsP T2.dev (d + 1) (branchPg ks gs) ++ T2.lists))
            rw [q3, r1.lists, hlists]; exact r2
      · have hks : ks = [] := List.eq_nil_of_length_eq_zero (by omega)
        subst hks
        obtain ⟨m, hm⟩ : ∃ m, gs = [m] := by
          have := L.len
          match hq : gs, this with
          | [m], _ => exact ⟨m, rfl⟩
        subst hm
        have e : t.top p = (0, { t with st := T1, root := m }) := by
          unfold TrD.top
          rw [if_neg n1, if_neg n2]
          simp only
          rw [hR]
          simp only
          rw [if_neg (by simp), if_neg (by simp)]
          rfl
        rw [e]
        obtain ⟨k1, k2, k3, k4⟩ := L.kids 0 m rfl
        have hen := L.ent
        have how := L.owns
        simp only [List.flatMap_cons, List.flatMap_nil, List.append_nil, List.cons_append] at hen how
        refine .inr ⟨by first | rfl | trivial, L.step, rfl, .some d _ hd k1 k4 k3 k2 hen ?_⟩
        show T1.Owns (m :: (pgsP T1.dev d (pageD T1.dev m).1 ++ T1.lists))
        rw [hlists]; exact how
theorem getP_is (key : ByteArray) : ∀ l : List PairD, Sorted l → getP key l = if findB l key = true then some (valAt l (findN l key)) else none
  | [], _ => rfl
  | x :: l, h => by
    have h' := List.pairwise_cons.1 h
    rw [findB_cons, findN_cons]
    by_cases hx : kLt x.1 key = true
    · rw [if_pos hx, if_pos hx]
      have hne : decide (x.1 = key) = false := by rw [decide_eq_false_iff_not]; intro e; rw [e, kLt_irrefl] at hx; cases hx
      have e1 : getP key (x :: l) = getP key l := by unfold getP; rw [List.find?_cons_of_neg (p := fun x : PairD => decide (x.1 = key)) (by rw [hne]; simp)]
      have e2 : valAt (x :: l) (findN l key + 1) = valAt l (findN l key) := by unfold valAt; simp
      rw [e1, e2]
      exact getP_is key l h'.2
    · rw [if_neg hx, if_neg hx]
      by_cases he : x.1 = key
      · rw [if_pos (decide_eq_true he)]
        unfold getP
        rw [List.find?_cons_of_pos (p := fun x : PairD => decide (x.1 = key)) (decide_eq_true he)]; rfl
      · rw [if_neg (by rw [decide_eq_false he]; simp)]
        unfold getP
        have : (x :: l).find? (fun x => decide (x.1 = key)) = none := List.find?_eq_none.2 fun y hy hye => by
          have hk : y.1 = key := by simpa using hye
          rcases List.mem_cons.1 hy with rfl | hy
          · exact he hk
          · have := h'.1 y hy
            rw [hk] at this; exact hx this
        rw [this]; rfl
def gotten (key : ByteArray) (L : List PairD) : ByteArray × Bool × Int := match getP key L with
  | some v => (v, true, 0)
  | none => (⟨#[]⟩, false, 0)
theorem getK_spec {key : ByteArray} {T : StD} : ∀ (d : Nat) (n : Int) (q : PageD) (lo hi : Option ByteArray), pageD T.dev n = (q, 0) → okP T.dev d lo hi q → Inn lo hi key → getK T key (d + 1) n = gotten key (entP T.dev d q)
  | 0, n, q, lo, hi, hp, h, hk => by
    have hpk : pageK T n (0 + 1 : Nat) = (q, 0) := by
      have := pageK_ok (T := T) (n := n) (d := 0) (lo := lo) (hi := hi) (by rw [hp]) (by rw [hp]; exact h)
      rw [hp] at this
      exact this
    have hkd := okP_kind h
    unfold getK
    rw [hpk, if_neg (by simp), if_neg (by rw [hkd]; decide)]
    have hs := h.2.1
    show (if findB q.pairs key = true then _ else _) = gotten key q.pairs
    unfold gotten
    rw [getP_is key q.pairs hs]
    by_cases hb : findB q.pairs key = true
    · rw [if_pos hb, if_pos hb]
    · rw [if_neg hb, if_neg hb]; rfl
  | d + 1, n, q, lo, hi, hp, h, hk => by
    have hpk : pageK T n (d + 1 + 1 : Nat) = (q, 0) := by
      have := pageK_ok (T := T) (n := n) (d := d + 1) (lo := lo) (hi := hi) (by rw [hp]) (by rw [hp]; exact h)
      rw [hp] at this
      exact this
    have hkd := okP_kind h
    obtain ⟨eq, hs, hkk, hl, h5⟩ := h
    obtain ⟨i, hi'⟩ : ∃ i, kidN q.keys key = i := ⟨_, rfl⟩
    have hil : i ≤ q.keys.length := by rw [← hi']; exact kidN_le _ _
    have hin : Inn (loAt lo q.keys i) (hiAt hi q.keys i) key := by rw [← hi']; exact kidN_inn hk
    obtain ⟨m, hm⟩ : ∃ m, q.kids[i]? = some m := ⟨_, List.getElem?_eq_getElem (by omega)⟩
    obtain ⟨m1, m2, m3⟩ := h5 i m hm
    obtain ⟨_, cut2⟩ := subP_cut (D := T.dev) (d := d) hm
    conv => lhs; unfold getK
    rw [hpk, if_neg (by simp), if_pos (by rw [hkd]; rfl), hi', getD_of hm, getK_spec d m _ _ _ m1 m3 hin]
    have hE : entP T.dev (d + 1) q = subE T.dev d (q.kids.take i) ++ entP T.dev d (pageD T.dev m).1 ++ subE T.dev d (q.kids.drop (i + 1)) := cut2
    have hleft : ∀ x ∈ subE T.dev d (q.kids.take i), kLt x.1 key = true := fun x hx => by
      obtain ⟨k, hk', hx⟩ := List.mem_flatMap.1 hx
      obtain ⟨j, hj, he⟩ := List.mem_take_iff_getElem.1 hk'
      have h6 := h5 j k (by rw [List.getElem?_eq_getElem (by omega), he])
      exact kids_lt hs (by omega : j < i) hil (ent_inn d _ _ _ h6.2.2 x hx).2 hin
    have hright : ∀ x ∈ subE T.dev d (q.kids.drop (i + 1)), kLt key x.1 = true := fun x hx => by
      obtain ⟨k, hk', hx⟩ := List.mem_flatMap.1 hx
      obtain ⟨j, hj, he⟩ := List.mem_drop_iff_getElem.1 hk'
      have h6 := h5 (i + 1 + j) k (by rw [List.getElem?_eq_getElem (by omega), he])
      exact kids_lt hs (by omega : i < i + 1 + j) (by omega) hin (ent_inn d _ _ _ h6.2.2 x hx).2
    unfold gotten
    rw [hE, getP_mid hleft hright]
end Go.Proofs.YtgpohemcfgepeaaGreat

namespace Go.Proofs.YtgpohemcfgepeaaGreat
open Go.RowKit Go.MapKept
theorem flat_len {α β γ : Type} {f : α → List β} {g : α → List γ} {c : Nat} : ∀ l : List α, (∀ x ∈ l, 1 ≤ (f x).length ∧ (f x).length ≤ 6 * (g x).length ∧ c ≤ (g x).length) → (l ≠ [] → 1 ≤ (l.flatMap f).length) ∧ (l.flatMap f).length ≤ 6 * (l.flatMap g).length ∧ l.length * c ≤ (l.flatMap g).length
  | [], _ => ⟨fun h => absurd rfl h, Nat.zero_le _, by simp⟩
  | x :: l, h => by
    have ih := flat_len (f := f) (g := g) (c := c) l (fun y hy => h y (by simp [hy]))
    have hx := h x (by simp)
    rw [List.flatMap_cons, List.flatMap_cons, List.length_append, List.length_append, List.length_cons, Nat.add_mul]
    refine ⟨fun _ => by omega, ?_, ?_⟩
    · have := ih.2.1; omega
    · have := ih.2.2; omega
theorem shape {D : Dv} : ∀ (d : Nat) (lo hi : Option ByteArray) (q : PageD), okP D d lo hi q → 1 ≤ sizeD q → sizeD q ≤ mostD q → 1 ≤ (entP D d q).length ∧ (entP D d q).length ≤ 6 * ((pgsP D d q).length + 1) ∧ 2 ^ (d + 1) ≤ (pgsP D d q).length + 2
  | 0, lo, hi, q, h, h1, h2 => by
    have hs := (sizeD_keys h).1 rfl
    have hm : mostD q = 6 := by unfold mostD; rw [if_pos hs.2]
    rw [hm] at h2
    refine ⟨?_, ?_, ?_⟩
    · show 1 ≤ q.pairs.length; omega
    · show q.pairs.length ≤ 6 * (0 + 1); omega
    · show 2 ^ 1 ≤ 0 + 2; omega
  | d + 1, lo, hi, q, h, h1, h2 => by
    have hs := (sizeD_keys h).2 (by omega)
    obtain ⟨eq, hso, hkk, hl, h5⟩ := h
    have hk : ∀ k ∈ q.kids, 1 ≤ (entP D d (pageD D k).1).length ∧ (entP D d (pageD D k).1).length ≤ 6 * (k :: pgsP D d (pageD D k).1).length ∧ 2 ^ (d + 1) - 1 ≤ (k :: pgsP D d (pageD D k).1).length := fun k hk => by
      obtain ⟨i, hi', he⟩ := List.mem_iff_getElem.1 hk
      have h6 := h5 i k (by rw [List.getElem?_eq_getElem hi', he])
      have hm3 := mostD_half (p := (pageD D k).1)
      have := shape d _ _ _ h6.2.2 (by have := h6.2.1.1; omega) h6.2.1.2
      rw [List.length_cons]
      refine ⟨this.1, this.2.1, by omega⟩
    obtain ⟨f1, f2, f3⟩ := flat_len (f := fun k => entP D d (pageD D k).1) (g := fun k => k :: pgsP D d (pageD D k).1) (c := 2 ^ (d + 1) - 1) q.kids hk
    have hne : q.kids ≠ [] := fun e => by rw [e] at hl; simp at hl
    have f3' : 2 * (2 ^ (d + 1) - 1) ≤ (pgsP D (d + 1) q).length := Nat.le_trans (Nat.mul_le_mul_right _ (by omega)) f3
    have hp : 2 ^ (d + 1 + 1) = 2 * 2 ^ (d + 1) := by rw [Nat.pow_succ]; omega
    have h2p : 1 ≤ 2 ^ (d + 1) := Nat.one_le_two_pow
    refine ⟨f1 hne, ?_, ?_⟩
    · have : (entP D (d + 1) q).length ≤ 6 * (pgsP D (d + 1) q).length := f2
      omega
    · rw [hp]; omega
theorem pow_small {d : Nat} (h : 2 ^ (d + 1) ≤ 4098) : d ≤ 12 := by
  by_cases hd : d ≤ 12
  · exact hd
  · have : 2 ^ 14 ≤ 2 ^ (d + 1) := Nat.pow_le_pow_right (by omega) (by omega)
    omega
theorem flat_less {α β γ : Type} {f : α → List β} {g : α → List γ} : ∀ l : List α, (∀ x ∈ l, (g x).length + 1 ≤ (f x).length) → (l.flatMap g).length + l.length ≤ (l.flatMap f).length
  | [], _ => by simp
  | x :: l, h => by
    have ih := flat_less l (fun y hy => h y (by simp [hy]))
    have hx := h x (by simp)
    rw [List.flatMap_cons, List.flatMap_cons, List.length_append, List.length_append, List.length_cons]
    omega
theorem pages_low {D : Dv} : ∀ (d : Nat) (lo hi : Option ByteArray) (q : PageD), okP D d lo hi q → Enough q → (pgsP D d q).length + 2 ≤ (entP D d q).length
  | 0, lo, hi, q, h, he => by
    have hs := (sizeD_keys h).1 rfl
    have hm : mostD q = 6 := by unfold mostD; rw [if_pos hs.2]
    have := he.1
    rw [hm] at this
    show 0 + 2 ≤ q.pairs.length
    omega
  | d + 1, lo, hi, q, h, he => by
    have hs := (sizeD_keys h).2 (by omega)
    have h3 := mostD_half (p := q)
    have h4 := he.1
    obtain ⟨eq, hso, hkk, hl, h5⟩ := h
    have hk : ∀ k ∈ q.kids, (k :: pgsP D d (pageD D k).1).length + 1 ≤ (entP D d (pageD D k).1).length := fun k hk => by
      obtain ⟨i, hi', he⟩ := List.mem_iff_getElem.1 hk
      have h6 := h5 i k (by rw [List.getElem?_eq_getElem hi', he])
      have := pages_low d _ _ _ h6.2.2 h6.2.1
      rw [List.length_cons]; omega
    have hf := flat_less (f := fun k => entP D d (pageD D k).1) (g := fun k => k :: pgsP D d (pageD D k).1) q.kids hk
    have hf' : (pgsP D (d + 1) q).length + q.kids.length ≤ (entP D (d + 1) q).length := hf
    omega
theorem pages_le {D : Dv} : ∀ {d : Nat} {lo hi : Option ByteArray} {q : PageD}, okP D d lo hi q → 1 ≤ sizeD q → (pgsP D d q).length + 1 ≤ (entP D d q).length
  | 0, lo, hi, q, h, h1 => by
    have hs := (sizeD_keys h).1 rfl
    show 0 + 1 ≤ q.pairs.length
    omega
  | d + 1, lo, hi, q, h, h1 => by
    have hs := (sizeD_keys h).2 (by omega)
    obtain ⟨eq, hso, hkk, hl, h5⟩ := h
    have hk : ∀ k ∈ q.kids, (k :: pgsP D d (pageD D k).1).length + 1 ≤ (entP D d (pageD D k).1).length := fun k hk => by
      obtain ⟨i, hi', he⟩ := List.mem_iff_getElem.1 hk
      have h6 := h5 i k (by rw [List.getElem?_eq_getElem hi', he])
      have := pages_low d _ _ _ h6.2.2 h6.2.1
      rw [List.length_cons]; omega
    have hf := flat_less (f := fun k => entP D d (pageD D k).1) (g := fun k => k :: pgsP D d (pageD D k).1) q.kids hk
    have hf' : (pgsP D (d + 1) q).length + q.kids.length ≤ (entP D (d + 1) q).length := hf
    omega
theorem deep_small {T : StD} (hr : T.Run) (hc : T.dev.calm) {d : Nat} {lo hi : Option ByteArray} {q : PageD} {A : List Int} {n : Int} (ok : okP T.dev d lo hi q) (h1 : 1 ≤ sizeD q) (h2 : sizeD q ≤ mostD q) (ho : T.Owns (n :: (pgsP T.dev d q ++ A))) : d ≤ 12 ∧ (pgsP T.dev d q).length + 1 ≤ (entP T.dev d q).length := by
  obtain ⟨s1, s2, s3⟩ := shape d _ _ q ok h1 h2
  have hn4 := hc.fine.n4
  have hi := hr.good.pool.hi
  have hall := ho.all
  rw [List.length_cons, List.length_append] at hall
  exact ⟨pow_small (by omega), pages_le ok h1⟩
end Go.Proofs.YtgpohemcfgepeaaGreat

namespace Go.Proofs.YtgpohemcfgepeaaGreat
open Go.RowKit Go.MapKept
theorem drops_own {A : List Int} : ∀ (l : List Int) (T : StD), T.Run → T.Owns (A ++ l) → (T.drops l).Owns A
  | [], T, _, h => by rw [List.append_nil] at h; exact h
  | x :: l, T, hr, h => by
    have hx : x ∈ A ++ x :: l := by simp
    have hd := h.drop hr hx
    have hp : ((A ++ x :: l).erase x).Perm (A ++ l) := (List.perm_cons x).1 ((List.perm_cons_erase hx).symm.trans List.perm_middle)
    exact drops_own l _ (hr.drop x).1 (hd.2.perm hp)
theorem takes_own {A : List Int} : ∀ (f : Nat) (ps : List Int) (T : StD), T.Run → T.Owns (ps ++ A) → (StD.takes f ps T).2.1 = 0 → (StD.takes f ps T).2.2.Owns ((StD.takes f ps T).1 ++ A)
  | 0, ps, T, _, h, _ => h
  | f + 1, ps, T, hr, h, h0 => by
    unfold StD.takes at h0 ⊢
    by_cases h1 : T.pool.listsP.length ≤ ps.length
    · rw [if_pos h1] at h0 ⊢
      exact h
    · rw [if_neg h1] at h0 ⊢
      by_cases h2 : T.take.2.1 = 0
      · rw [if_neg (by simp [h2])] at h0 ⊢
        have ht := hr.take_own h h2
        refine takes_own f _ _ (hr.take h2).1 (ht.perm ?_) h0
        rw [List.append_assoc]
        exact List.perm_middle.symm
      · rw [if_pos h2] at h0
        exact absurd h0 h2
theorem takes_len : ∀ (f : Nat) (ps : List Int) (T : StD), (StD.takes f ps T).1.length ≤ f + ps.length
  | 0, ps, T => by show ps.length ≤ _; omega
  | f + 1, ps, T => by
    unfold StD.takes
    split
    · show ps.length ≤ _; omega
    · split
      · show ([] : List Int).length ≤ _; simp
      · have := takes_len f (ps ++ [T.take.1]) T.take.2.2
        rw [List.length_append, List.length_singleton] at this
        omega
theorem takes_lack {A : List Int} : ∀ (f : Nat) (ps : List Int) (T : StD), T.Run → T.dev.calm → T.Owns (ps ++ A) → (StD.takes f ps T).2.1 ≠ 0 → T.Lack (f + ps.length + A.length)
  | 0, ps, T, _, _, _, h0 => absurd rfl h0
  | f + 1, ps, T, hr, hc, h, h0 => by
    unfold StD.takes at h0
    by_cases h1 : T.pool.listsP.length ≤ ps.length
    · rw [if_pos h1] at h0
      exact absurd rfl h0
    · rw [if_neg h1] at h0
      by_cases h2 : T.take.2.1 = 0
      · rw [if_neg (by simp [h2])] at h0
        have ht := hr.take_own h h2
        have hst := hr.toTake hc
        refine ((takes_lack (A := A) f _ _ hst.run hst.calm (ht.perm ?_) h0).back hst).mono ?_
        · rw [List.append_assoc]
          exact List.perm_middle.symm
        · rw [List.length_append, List.length_singleton]; omega
      · exact ⟨T, _, .refl hr hc, h, take_full h2, by rw [List.length_append]; omega⟩
theorem StD.Owns.turn {T T' : StD} {A : List Int} (h : T.Owns A) (hp : T'.pool = T.pool.turn) : T'.Owns A := by
  refine ⟨h.nodup, fun x hx => ?_, ?_, fun k hk => ?_⟩
  · have := h.inn x hx
    rw [hp]
    refine ⟨this.1, this.2.1, fun hm => ?_, by simp [PoolD.turn]⟩
    rcases turnL_mem.1 hm with h1 | h1
    · exact this.2.2.1 h1
    · exact this.2.2.2 h1
  · rw [hp]
    have := h.all
    show (A.length : Int) + ((turnL T.pool.free T.pool.limbo).length : Int) + (([] : List Int).length : Int) = T.pool.high - 2
    rw [turnL_length]
    simp only [List.length_nil]
    omega
  · rw [hp] at hk
    exact absurd hk (by simp [PoolD.turn])
theorem StD.Run.commit_own {T : StD} (h : T.Run) (hc : T.dev.calm) (hl : ∀ x ∈ T.lists, ¬ T.base.opn x) (_ : 0 ≤ T.super.epoch ∧ T.super.epoch < 4611686018427387903)
    (_ : beI ((T.dev.bytes (1 - (T.super.epoch + 1) % 2)).take 8) < T.super.epoch + 1) (root depth count : Int) {A : List Int} (ho : T.Owns (A ++ T.lists)) (hz : (T.commit root depth count).1 = 0) :
    (T.commit root depth count).2.Owns (A ++ (T.commit root depth count).2.lists) ∧ (T.commit root depth count).2.lists.length ≤ (T.drops T.lists).pool.listsP.length + 1 := by
  by_cases hck : (superPg (T.super.epoch + 1) root depth count T.pool.high 0).check = false
  · have e : T.commit root depth count = (50, T) := by unfold StD.commit; rw [if_pos hck]
    rw [e] at hz; cases hz
  have hd0 := drops_own T.lists T h ho
  obtain ⟨T0, hT0⟩ : ∃ T0, T.drops T.lists = T0 := ⟨_, rfl⟩
  rw [hT0] at hd0
  have hd := h.drops T.lists
  have hdf := fun k hk => drops_fresh (k := k) T.lists T hk
  rw [hT0] at hd hdf
  obtain ⟨d1, d2, d3, d4, d5, d6⟩ := hd
  have hc0 : T0.dev.calm := by rw [d2]; exact hc
  have hst0 : T.Step T0 := .ofDev d1 hc d2 d3 d4 d5
  obtain ⟨t1, t2, t3, t4⟩ := StD.Run.takes (T0.pool.listsP.length + 1) [] T0 d1 hc0 List.nodup_nil (by simp)
  by_cases h0 : (StD.takes (T0.pool.listsP.length + 1) [] T0).2.1 = 0
  · obtain ⟨u1, u2, u3, u4⟩ := t4 h0
    have u4 := u4 (by simp)
    have hown := takes_own (A := A) (T0.pool.listsP.length + 1) [] T0 d1 hd0 h0
    obtain ⟨⟨ps, e1, T1⟩, hR⟩ : ∃ R, StD.takes (T0.pool.listsP.length + 1) [] T0 = R := ⟨_, rfl⟩
    rw [hR] at t1 t2 t3 h0 u1 u2 u3 u4 hown
    simp only at t1 t2 t3 h0 u1 u2 u3 u4 hown
    subst h0
    have hc1 := t1.calm
    have hn4 := hc.fine.n4
    have hn1 : T1.dev.n = T.dev.n := by rw [t2, d2]
    have hb1 : T1.base = T.base := t1.base.trans d5
    have hg1 := t1.run.good.pool
    have hhi := hg1.hi
    rw [hn1] at hhi
    have hps : ∀ x ∈ ps, T1.base.opn x ∧ x < T1.pool.high ∧ 2 ≤ x ∧ x < 4096 ∧ x < (T1.dev.n : Int) ∧ x ∉ T1.pool.free ∧ x ∉ T1.pool.limbo := fun x hx => by
      have h1 := u2 x hx
      have h2 := t1.run.fresh x h1.1
      have := h2.1.1
      exact ⟨h2.1, h2.2.1, this, by have := h2.2.1; omega, by rw [hn1]; have := h2.2.1; omega, h2.2.2, h1.2⟩
    have hps0 : ∀ x ∈ ps, T.base.opn x ∧ T.fresh x = false := fun x hx => by
      have h1 := (hps x hx).1
      rw [hb1] at h1
      refine ⟨h1, ?_⟩
      rcases u3 x hx with h2 | h2
      · cases h2
      · rw [← hdf x (fun hm => hl x hm h1)]; exact h2
    have hrise : Rise T1.pool.high T1.pool.turn.free := hg1.turn.free
    have hls : ∀ l ∈ T1.pool.listsP, l.Pairwise (· < ·) ∧ l.length ≤ 200 ∧ ∀ x ∈ l, 2 ≤ x ∧ x < 4096 := fun l hlm => by
      have hs : l.Sublist T1.pool.turn.free := chunkL_sub hlm
      exact ⟨hrise.1.sublist hs, listsP_small _ l hlm, fun x hx => by have := hrise.2 x (hs.subset hx); omega⟩
    have hok : ∀ k, k < ps.length → (listPg ps T1.pool.listsP k).okAt (ps.getD k 0) = true := fun k hk => by
      have hm : ps.getD k 0 ∈ ps := by rw [getD_at hk]; exact List.getElem_mem hk
      have hx := hps _ hm
      have hL : (T1.pool.listsP.getD k []).Pairwise (· < ·) ∧ (T1.pool.listsP.getD k []).length ≤ 200 ∧ ∀ x ∈ T1.pool.listsP.getD k [], 2 ≤ x ∧ x < 4096 := by
        rw [List.getD_eq_getElem?_getD]
        cases hq : T1.pool.listsP[k]? with
        | none => simp
        | some l => exact hls l (List.mem_of_getElem? hq)
      refine free_ok hL.1 hL.2.1 hL.2.2 ?_ ⟨hx.2.2.1, hx.2.2.2.1⟩
      by_cases hk1 : k + 1 < ps.length
      · right
        have hm1 : ps.getD (k + 1) 0 ∈ ps := by rw [getD_at hk1]; exact List.getElem_mem hk1
        have := hps _ hm1
        exact ⟨this.2.2.1, this.2.2.2.1⟩
      · left
        rw [List.getD_eq_getElem?_getD, List.getElem?_eq_none (by omega)]; rfl
    obtain ⟨p1, p2, p3, p4, p5, p6⟩ := StD.Run.puts u1 hok ps.length 0 T1 t1.run hc1 (by omega) (fun x hx => ⟨(hps x hx).1, (hps x hx).2.2.2.2.1⟩)
    obtain ⟨⟨e2, T2⟩, hP⟩ : ∃ R, StD.puts ps T1.pool.listsP ps.length 0 T1 = R := ⟨_, rfl⟩
    rw [hP] at p1 p2 p3 p4 p5 p6
    simp only at p1 p2 p3 p4 p5 p6
    subst p1
    have hc2 := p2.calm
    have hsy := hc2.synced
    have hL : T0.listed = (ps, 0, { T2 with dev := syncD T2.dev }) := by
      unfold StD.listed
      rw [hR]
      simp only
      rw [if_neg (by simp), hP]
      simp only
      rw [if_neg (by simp), hc2.sync.1]
    obtain ⟨T3, hT3⟩ : ∃ T3 : StD, { T2 with dev := syncD T2.dev } = T3 := ⟨_, rfl⟩
    rw [hT3] at hL
    have r3 : T3.Run := by rw [← hT3]; exact p2.run.dev hsy.2.1
    have c3 : T3.dev.calm := by rw [← hT3]; exact hsy.1
    have n3 : T3.dev.n = T.dev.n := by rw [← hT3]; exact hsy.2.1.trans (p2.n.trans hn1)
    have b3 : ∀ j, T3.dev.bytes j = T2.dev.bytes j := by rw [← hT3]; exact hsy.2.2.1
    have pl3 : T3.pool = T1.pool := by rw [← hT3]; exact p3
    have hn2 := hc.fine.n2
    have hhd : ps.headD 0 = 0 ∨ (2 ≤ ps.headD 0 ∧ ps.headD 0 < 4096) := by
      cases ps with
      | nil => exact .inl rfl
      | cons x l => have := hps x (by simp); exact .inr ⟨this.2.2.1, this.2.2.2.1⟩
    have hslot : (T.super.epoch + 1) % 2 = 0 ∨ (T.super.epoch + 1) % 2 = 1 := by omega
    have hlo3 := hg1.lo
    have hsok : (superPg (T.super.epoch + 1) root depth count T3.pool.high (ps.headD 0)).okAt ((T.super.epoch + 1) % 2) = true := by
      rw [pl3]
      refine super_ok (high := T.pool.high) (next := 0) ?_ ⟨hlo3, by omega⟩ hhd hslot
      cases hq : (superPg (T.super.epoch + 1) root depth count T.pool.high 0).check with
      | true => rfl
      | false => exact absurd hq hck
    obtain ⟨w1, w2, w3, w4, w5, w6, w7, w8⟩ := r3.write c3 hsok (by omega) (by rw [n3]; omega)
    obtain ⟨⟨e4, T4⟩, hW⟩ : ∃ R, T3.write ((T.super.epoch + 1) % 2) (superPg (T.super.epoch + 1) root depth count T3.pool.high (ps.headD 0)) = R := ⟨_, rfl⟩
    rw [hW] at w1 w2 w3 w4 w5 w6 w7 w8
    simp only at w1 w2 w3 w4 w5 w6 w7 w8
    subst w1
    have hsy4 := w4.synced
    have e : T.commit root depth count = (0, ({ T4 with dev := syncD T4.dev, super := superPg (T.super.epoch + 1) root depth count T3.pool.high (ps.headD 0), lists := ps, base := T4.pool.turn } : StD).abort) := by
      unfold StD.commit
      rw [if_neg hck, hT0, hL]
      simp only
      rw [if_neg (by simp)]
      unfold StD.sealUp
      simp only
      rw [hW]
      simp only
      rw [if_neg (by simp), w4.sync.1, if_neg (by simp)]
    rw [e]
    have pl4 : T4.pool = T1.pool := by rw [w2]; exact pl3
    have hlen := takes_len (T0.pool.listsP.length + 1) [] T0
    rw [hR] at hlen
    refine ⟨(hown.perm List.perm_append_comm).turn ?_, by rw [hT0]; exact hlen⟩
    show T4.pool.turn = _
    rw [pl4]
  · have h60 := t3.resolve_left h0
    have hL : T0.listed = StD.takes (T0.pool.listsP.length + 1) [] T0 := by unfold StD.listed; rw [if_pos h0]
    have e : T.commit root depth count = (60, (StD.takes (T0.pool.listsP.length + 1) [] T0).2.2.end 60) := by
      unfold StD.commit
      rw [if_neg hck, hT0]
      simp only
      rw [hL, if_pos h0, h60]
    rw [e] at hz; cases hz
theorem StD.Run.commit_lack {T : StD} (h : T.Run) (hc : T.dev.calm) (hl : ∀ x ∈ T.lists, ¬ T.base.opn x) (he : 0 ≤ T.super.epoch ∧ T.super.epoch < 4611686018427387903)
    (hold : beI ((T.dev.bytes (1 - (T.super.epoch + 1) % 2)).take 8) < T.super.epoch + 1) (root depth count : Int) {A : List Int} (ho : T.Owns (A ++ T.lists)) (hz : (T.commit root depth count).1 = 60) :
    T.Lack ((T.drops T.lists).pool.listsP.length + 1 + A.length) := by
  rcases h.commit hc hl he hold root depth count with ⟨h3 | h3, _⟩ | h3
  · rw [h3.1] at hz; cases hz
  · have hd := h.drops T.lists
    have hst : T.Step (T.drops T.lists) := .ofDev hd.1 hc hd.2.1 hd.2.2.1 hd.2.2.2.1 hd.2.2.2.2.1
    refine ((takes_lack (A := A) _ [] _ hst.run hst.calm (drops_own T.lists T h ho) h3.2).back hst).mono ?_
    simp
  · rw [h3.1] at hz; cases hz
theorem lists_few {T : StD} {A : List Int} (hr : T.Run) (ho : T.Owns A) : T.pool.listsP.length ≤ (T.dev.n + 199) / 200 := by
  have := ho.all
  have := hr.good.pool.hi
  rw [listsP_len]
  omega
end Go.Proofs.YtgpohemcfgepeaaGreat
