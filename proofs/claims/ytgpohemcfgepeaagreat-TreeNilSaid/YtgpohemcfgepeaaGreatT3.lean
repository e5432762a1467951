/- a part. -/
import Derived.Test.YtgpohemcfgepeaaGreatT2
import Derived.Test.YtgpohemcfgepeaaGreatGD
namespace Go.Proofs.YtgpohemcfgepeaaGreat
open Go.RowKit Go.MapKept
structure TrD.Good (t : TrD) (L : List PairD) : Prop where
  live : t.st.Live
  clean : t.st.clean
  tree : t.Tree L
  count : t.count = (L.length : Nat)
def leafK (T : StD) (key : ByteArray) : Nat → Int → PageD
  | 0, n => (pageK T n 1).1
  | d + 1, n => leafK T key d ((pageK T n (d + 2 : Nat)).1.kids.getD (kidN (pageK T n (d + 2 : Nat)).1.keys key) 0)
theorem leafK_spec {key : ByteArray} {T : StD} : ∀ (d : Nat) (n : Int) (q : PageD) (lo hi : Option ByteArray), pageD T.dev n = (q, 0) → okP T.dev d lo hi q → Inn lo hi key →
    findB (leafK T key d n).pairs key = (entP T.dev d q).any fun x => decide (x.1 = key)
  | 0, n, q, lo, hi, hp, h, hk => by
    have hpk : pageK T n 1 = (q, 0) := by
      have := pageK_ok (T := T) (n := n) (d := 0) (lo := lo) (hi := hi) (by rw [hp]) (by rw [hp]; exact h)
      rw [hp] at this
      exact this
    unfold leafK
    rw [hpk]
    exact findB_any key q.pairs h.2.1
  | d + 1, n, q, lo, hi, hp, h, hk => by
    have hpk : pageK T n (d + 2 : Nat) = (q, 0) := by
      have := pageK_ok (T := T) (n := n) (d := d + 1) (lo := lo) (hi := hi) (by rw [hp]) (by rw [hp]; exact h)
      rw [hp] at this
      exact this
    obtain ⟨eq, hs, hkk, hl, h5⟩ := h
    obtain ⟨i, hi'⟩ : ∃ i, kidN q.keys key = i := ⟨_, rfl⟩
    have hil : i ≤ q.keys.length := by rw [← hi']; exact kidN_le _ _
    have hin : Inn (loAt lo q.keys i) (hiAt hi q.keys i) key := by rw [← hi']; exact kidN_inn hk
    obtain ⟨m, hm⟩ : ∃ m, q.kids[i]? = some m := ⟨_, List.getElem?_eq_getElem (by omega)⟩
    obtain ⟨m1, m2, m3⟩ := h5 i m hm
    obtain ⟨_, cut2⟩ := subP_cut (D := T.dev) (d := d) hm
    unfold leafK
    rw [hpk, hi', getD_of hm, leafK_spec d m _ _ _ m1 m3 hin]
    have hE : entP T.dev (d + 1) q = subE T.dev d (q.kids.take i) ++ entP T.dev d (pageD T.dev m).1 ++ subE T.dev d (q.kids.drop (i + 1)) := cut2
    have hleft : ∀ x ∈ subE T.dev d (q.kids.take i), kLt x.1 key = true := fun x hx => by
      obtain ⟨k, hk', hx⟩ := List.mem_flatMap.1 hx
      obtain ⟨j, hj, he⟩ := List.mem_take_iff_getElem.1 hk'
      have h6 := h5 j k (by rw [List.getElem?_eq_getElem (by omega), he])
      exact kids_lt hs (by omega : j < i) hil (ent_inn d _ _ _ h6.2.2 x hx).2 hin
    have hright : ∀ x ∈ subE T.dev d (q.kids.drop (i + 1)), kLt key x.1 = true := fun x hx => by
      obtain ⟨k, hk', hx⟩ := List.mem_flatMap.1 hx
      obtain ⟨j, hj, he⟩ := List.mem_drop_iff_getElem.1 hk'
      have h6 := h5 (i + 1 + j) k (by rw [List.getElem?_eq_getElem (by omega), he])
      exact kids_lt hs (by omega : i < i + 1 + j) (by omega) hin (ent_inn d _ _ _ h6.2.2 x hx).2
    rw [hE, any_mid hleft hright]
def moreK (t : TrD) (key : ByteArray) : Int := if findB (leafK t.st key (t.depth - 1).toNat t.root).pairs key = true then 0 else 1
def pairBad (key val : ByteArray) : Prop := key.size < 1 ∨ 48 < key.size ∨ 100 < val.size
instance (key val : ByteArray) : Decidable (pairBad key val) := by unfold pairBad; infer_instance
def TrD.set (t : TrD) (key val : ByteArray) : Int × TrD :=
  if pairBad key val then (80, t)
  else if t.depth = 0 then
    if (t.st.lay 0 (leafPg [(key, val)])).2.1 ≠ 0 then ((t.st.lay 0 (leafPg [(key, val)])).2.1, TrD.end { t with st := (t.st.lay 0 (leafPg [(key, val)])).2.2 } (t.st.lay 0 (leafPg [(key, val)])).2.1)
    else (0, ⟨(t.st.lay 0 (leafPg [(key, val)])).2.2, (t.st.lay 0 (leafPg [(key, val)])).1, 1, 1⟩)
  else
    let c := changeK (setLeaf key val) key (t.depth - 1).toNat t.st t.root
    if c.2.2.1 ≠ 0 then (c.2.2.1, TrD.end { t with st := c.2.2.2 } c.2.2.1)
    else
      let r := TrD.top { t with st := c.2.2.2 } c.1
      if r.1 ≠ 0 then (r.1, r.2.end r.1) else (0, { r.2 with count := r.2.count + moreK t key })
def TrD.cut (t : TrD) (key : ByteArray) : Bool × Int × TrD :=
  if t.depth = 0 then (false, 0, t)
  else
    let c := changeK (cutLeaf key) key (t.depth - 1).toNat t.st t.root
    if c.2.2.1 ≠ 0 ∨ c.2.1 = false then (false, c.2.2.1, TrD.end { t with st := c.2.2.2 } c.2.2.1)
    else
      let r := TrD.top { t with st := c.2.2.2 } c.1
      if r.1 ≠ 0 then (false, r.1, r.2.end r.1) else (true, 0, { r.2 with count := r.2.count - 1 })
def TrD.get (t : TrD) (key : ByteArray) : ByteArray × Bool × Int × TrD :=
  ((getK t.st key t.depth.toNat t.root).1, (getK t.st key t.depth.toNat t.root).2.1, (getK t.st key t.depth.toNat t.root).2.2, t.end (getK t.st key t.depth.toNat t.root).2.2)
def TrD.keep (t : TrD) : Int × TrD := ((t.st.commit t.root t.depth t.count).1, TrD.end { t with st := (t.st.commit t.root t.depth t.count).2 } (t.st.commit t.root t.depth t.count).1)
theorem inn_all (k : ByteArray) : Inn none none k := ⟨fun _ h => (by cases h), fun _ h => (by cases h)⟩
theorem TrD.end_ok (t : TrD) : t.end 0 = t := by unfold TrD.end; rw [if_neg (by simp)]
theorem TrD.get_spec {t : TrD} {L : List PairD} (h : t.Good L) (key : ByteArray) : t.get key = ((gotten key L).1, (gotten key L).2.1, 0, t) := by
  have hz : (gotten key L).2.2 = 0 := by unfold gotten; cases getP key L <;> rfl
  have e : getK t.st key t.depth.toNat t.root = gotten key L := by
    cases h.tree with
    | none hd hr hl ho => rw [hd, hl]; rfl
    | some d q hd hp ok h1 h2 he ho =>
      rw [hd, show (((d + 1 : Nat) : Int)).toNat = d + 1 from Int.toNat_natCast _, getK_spec d _ q none none hp ok (inn_all key), he]
  unfold TrD.get
  rw [e, hz, TrD.end_ok]
theorem TrD.set_spec {t : TrD} {L : List PairD} (h : t.Good L) {key val : ByteArray} (hb : ¬ pairBad key val) : ((t.set key val).1 = 60 ∧ t.st.Lack (L.length + t.st.lists.length + 20)) ∨ ((t.set key val).1 = 0 ∧ t.st.Step (t.set key val).2.st ∧ (t.set key val).2.Good (setP key val L)) := by
  have hp : PairOk (key, val) := by
    unfold pairBad at hb
    exact ⟨by show 1 ≤ key.size; omega, by show key.size ≤ 48; omega, by show val.size ≤ 100; omega⟩
  have hs := h.tree.sorted
  have hcl := setP_len (key := key) (val := val) hs
  cases h.tree with
  | none hd hr hl ho =>
    subst hl
    have hck : (leafPg [(key, val)]).check = true := leafPg_check (List.pairwise_singleton _ _) (fun x hx => by rw [List.mem_singleton.1 hx]; exact hp) (by simp) (by simp)
    rcases h.live.run.lay_page h.live.calm ho (.inl rfl) hck (.inl ⟨_, rfl⟩) with l0 | ⟨l0, l1, l2, l3, l4⟩
    · left
      unfold TrD.set
      rw [if_neg hb, if_pos hd, if_pos (by rw [l0.1]; decide)]
      exact ⟨l0.1, t.st, _, .refl h.live.run h.live.calm, ho, l0.2, by omega⟩
    · right
      have e : t.set key val = (0, ⟨(t.st.lay 0 (leafPg [(key, val)])).2.2, (t.st.lay 0 (leafPg [(key, val)])).1, 1, 1⟩) := by
        unfold TrD.set
        rw [if_neg hb, if_pos hd, if_neg (fun hne => hne l0)]
      rw [e]
      have h0 : (0 : Int) ∉ t.st.lists := fun hm => by have := (ho.inn 0 hm).1; omega
      rw [List.erase_of_not_mem h0] at l2
      refine ⟨rfl, l1, h.live.step l1, h.clean.step l1, .some 0 (leafPg [(key, val)]) rfl l4 ⟨rfl, List.pairwise_singleton _ _, fun x hx => ?_⟩ (by show 1 ≤ 1 + 0; omega) (by show 1 + 0 ≤ 6; omega) rfl ?_, rfl⟩
      · rw [List.mem_singleton.1 (show x ∈ [(key, val)] from hx)]; exact ⟨hp, inn_all _⟩
      · show StD.Owns _ (_ :: ([] ++ _))
        rw [List.nil_append, l1.lists]; exact l2
  | some d q hd hpg ok h1 h2 he ho =>
    have hdn : (t.depth - 1).toNat = d := by rw [hd]; omega
    have hd0 : ¬ t.depth = 0 := by rw [hd]; omega
    have hkeys : d ≠ 0 → 1 ≤ q.keys.length := fun hz => by have := ((sizeD_keys ok).2 hz).1; omega
    have hsmall := deep_small h.live.run h.live.calm ok h1 h2 ho
    rw [he] at hsmall
    have hmore : moreK t key = if (L.any fun x => decide (x.1 = key)) = true then 0 else 1 := by
      unfold moreK
      rw [hdn, leafK_spec d _ q none none hpg ok (inn_all key), he]
    rcases changeK_spec (setLeaf_ok hp) d t.st t.root q none none t.st.lists h.live.run h.live.calm hpg ok (inn_all key) hkeys ho with c0 | ⟨_, _, _, c4⟩ | ⟨c1, c2, _, C⟩
    · left
      unfold TrD.set
      rw [if_neg hb, if_neg hd0, hdn]
      simp only
      rw [if_pos (by rw [c0.1]; decide)]
      exact ⟨c0.1, c0.2.mono (by omega)⟩
    · cases c4
    · obtain ⟨⟨q', is, er, T1⟩, hR⟩ : ∃ r, changeK (setLeaf key val) key d t.st t.root = r := ⟨_, rfl⟩
      rw [hR] at c1 c2 C
      simp only at c1 c2 C
      subst c1 c2
      have hmm := mostD_eq C.ok ok
      have own1 : ({ t with st := T1 } : TrD).st.Owns (({ t with st := T1 } : TrD).root :: (pgsP T1.dev d q' ++ ({ t with st := T1 } : TrD).st.lists)) := by
        show T1.Owns (t.root :: (pgsP T1.dev d q' ++ T1.lists))
        rw [C.step.lists]; exact C.owns
      rcases TrD.top_spec (t := { t with st := T1 }) C.step.run C.step.calm hd C.ok (by rw [hmm]; have := C.small; omega) own1 with z | ⟨z, z1, z2, z3⟩
      · left
        unfold TrD.set
        rw [if_neg hb, if_neg hd0, hdn]
        simp only
        rw [hR]
        simp only
        rw [if_neg (by simp), if_pos (by rw [z.1]; decide)]
        refine ⟨z.1, (z.2.back C.step).mono ?_⟩
        have hcn := C.cnt
        show (pgsP T1.dev d q').length + T1.lists.length + 2 ≤ _
        rw [C.step.lists]; omega
      · right
        have e : t.set key val = (0, { (TrD.top { t with st := T1 } q').2 with count := (TrD.top { t with st := T1 } q').2.count + moreK t key }) := by
          unfold TrD.set
          rw [if_neg hb, if_neg hd0, hdn]
          simp only
          rw [hR]
          simp only
          rw [if_neg (by simp), if_neg (fun hne => hne z)]
        rw [e]
        have hst := C.step.trans z1
        have hent : entP T1.dev d q' = setP key val L := by rw [C.ent, he]
        refine ⟨rfl, hst, h.live.step hst, h.clean.step hst, ?_, ?_⟩
        · have z3' : (TrD.top { t with st := T1 } q').2.Tree (setP key val L) := by rw [← hent]; exact z3
          cases z3' with
          | none a b c e => exact .none a b c e
          | some d2 q2 a b c e f g i => exact .some d2 q2 a b c e f g i
        · show (TrD.top { t with st := T1 } q').2.count + moreK t key = _
          rw [z2, hmore, hcl]
          show t.count + _ = _
          rw [h.count]
          split <;> simp
theorem TrD.cut_spec {t : TrD} {L : List PairD} (h : t.Good L) (key : ByteArray) : ((t.cut key).2.1 = 60 ∧ t.st.Lack (L.length + t.st.lists.length + 20)) ∨ ((t.cut key).2.1 = 0 ∧ (t.cut key).1 = (L.any fun x => decide (x.1 = key)) ∧ t.st.Step (t.cut key).2.2.st ∧ (t.cut key).2.2.Good (cutP key L)) := by
  have hs := h.tree.sorted
  have hcl := cutP_len (key := key) hs
  cases h.tree with
  | none hd hr hl ho =>
    subst hl
    have e : t.cut key = (false, 0, t) := by unfold TrD.cut; rw [if_pos hd]
    rw [e]
    exact .inr ⟨rfl, rfl, .refl h.live.run h.live.calm, h⟩
  | some d q hd hpg ok h1 h2 he ho =>
    have hdn : (t.depth - 1).toNat = d := by rw [hd]; omega
    have hd0 : ¬ t.depth = 0 := by rw [hd]; omega
    have hkeys : d ≠ 0 → 1 ≤ q.keys.length := fun hz => by have := ((sizeD_keys ok).2 hz).1; omega
    have hsmall := deep_small h.live.run h.live.calm ok h1 h2 ho
    rw [he] at hsmall
    rcases changeK_spec (cutLeaf_ok (key := key)) d t.st t.root q none none t.st.lists h.live.run h.live.calm hpg ok (inn_all key) hkeys ho with c0 | ⟨c1, c2, c3, c4⟩ | ⟨c1, c2, c4, C⟩
    · left
      unfold TrD.cut
      rw [if_neg hd0, hdn]
      simp only
      rw [if_pos (.inl (by rw [c0.1]; decide))]
      exact ⟨c0.1, c0.2.mono (by omega)⟩
    · right
      have e : t.cut key = (false, 0, t) := by
        unfold TrD.cut
        rw [if_neg hd0, hdn]
        simp only
        rw [if_pos (.inr c2), c1, c3, TrD.end_ok]
      rw [e]
      rw [he] at c4
      have hf : cutP key L = L := by
        rw [c4] at hcl
        simp only [Bool.false_eq_true, if_false, Nat.add_zero] at hcl
        exact List.filter_eq_self.2 fun x hx => by
          have hlen : (L.filter fun x => kLt x.1 key || kLt key x.1).length = L.length := hcl
          exact List.length_filter_eq_length_iff.1 hlen x hx
      rw [hf]
      exact ⟨rfl, c4.symm, .refl h.live.run h.live.calm, h⟩
    · obtain ⟨⟨q', is, er, T1⟩, hR⟩ : ∃ r, changeK (cutLeaf key) key d t.st t.root = r := ⟨_, rfl⟩
      rw [hR] at c1 c2 C
      simp only at c1 c2 C
      subst c1 c2
      rw [he] at c4
      have hmm := mostD_eq C.ok ok
      have own1 : ({ t with st := T1 } : TrD).st.Owns (({ t with st := T1 } : TrD).root :: (pgsP T1.dev d q' ++ ({ t with st := T1 } : TrD).st.lists)) := by
        show T1.Owns (t.root :: (pgsP T1.dev d q' ++ T1.lists))
        rw [C.step.lists]; exact C.owns
      rcases TrD.top_spec (t := { t with st := T1 }) C.step.run C.step.calm hd C.ok (by rw [hmm]; have := C.small; omega) own1 with z | ⟨z, z1, z2, z3⟩
      · left
        unfold TrD.cut
        rw [if_neg hd0, hdn]
        simp only
        rw [hR]
        simp only
        rw [if_neg (by simp), if_pos (by rw [z.1]; decide)]
        refine ⟨z.1, (z.2.back C.step).mono ?_⟩
        have hcn := C.cnt
        show (pgsP T1.dev d q').length + T1.lists.length + 2 ≤ _
        rw [C.step.lists]; omega
      · right
        have e : t.cut key = (true, 0, { (TrD.top { t with st := T1 } q').2 with count := (TrD.top { t with st := T1 } q').2.count - 1 }) := by
          unfold TrD.cut
          rw [if_neg hd0, hdn]
          simp only
          rw [hR]
          simp only
          rw [if_neg (by simp), if_neg (fun hne => hne z)]
        rw [e]
        have hst := C.step.trans z1
        have hent : entP T1.dev d q' = cutP key L := by rw [C.ent, he]
        refine ⟨rfl, c4.symm, hst, h.live.step hst, h.clean.step hst, ?_, ?_⟩
        · have z3' : (TrD.top { t with st := T1 } q').2.Tree (cutP key L) := by rw [← hent]; exact z3
          cases z3' with
          | none a b c e => exact .none a b c e
          | some d2 q2 a b c e f g i => exact .some d2 q2 a b c e f g i
        · show (TrD.top { t with st := T1 } q').2.count - 1 = _
          rw [z2]
          show t.count - 1 = _
          rw [h.count]
          rw [c4] at hcl
          simp only [if_true] at hcl
          omega
end Go.Proofs.YtgpohemcfgepeaaGreat

namespace Go.Proofs.YtgpohemcfgepeaaGreat
open Go.RowKit Go.MapKept
theorem super_check {root depth count high ep : Int} (h : (root = 0 ∧ depth = 0 ∧ count = 0) ∨ (2 ≤ root ∧ root < 4096 ∧ 1 ≤ depth ∧ depth ≤ 20 ∧ 1 ≤ count ∧ count ≤ 2147483647)) (h1 : 2 ≤ high) (h2 : high ≤ 4096) : (superPg ep root depth count high 0).check = true := by
  unfold PageD.check
  have k : (superPg ep root depth count high 0).kind = 4 := rfl
  rw [if_neg (by rw [k]; decide), if_neg (by rw [k]; decide), if_neg (by rw [k]; decide), if_pos k]
  have e : ((superPg ep root depth count high 0).noneB || (superPg ep root depth count high 0).someB) = true := by
    rcases h with ⟨rfl, rfl, rfl⟩ | ⟨a, b, c, d, e, f⟩
    · rfl
    · have : (superPg ep root depth count high 0).someB = true := by
        show (placeB root && decide (1 ≤ depth) && decide (depth ≤ 20) && decide (1 ≤ count) && decide (count ≤ 2147483647)) = true
        rw [placeB_iff.2 ⟨a, b⟩]
        simp [c, d, e, f]
      rw [this, Bool.or_true]
  rw [e]
  show (true && decide (2 ≤ high) && decide (high ≤ 4096) && nextB 0 && true && true && true) = true
  simp [h1, h2, nextB]
theorem StD.Live.owned {T : StD} (h : T.Live) {x : Int} (_ : 2 ≤ x) (h2 : x < T.pool.high) (h3 : x ∉ T.pool.free) : ¬ T.base.opn x ∨ T.fresh x = true := by
  by_cases ho : T.base.opn x
  · rcases h.run.cover x ho h2 with h4 | h4
    · exact absurd h4 h3
    · exact .inr h4
  · exact .inl ho
theorem TrD.Good.told {t : TrD} {L : List PairD} (h : t.Good L) : (t.root = 0 ∧ t.depth = 0 ∧ t.count = 0) ∨ (2 ≤ t.root ∧ t.root < 4096 ∧ 1 ≤ t.depth ∧ t.depth ≤ 20 ∧ 1 ≤ t.count ∧ t.count ≤ 2147483647) := by
  cases h.tree with
  | none hd hr hl ho => exact .inl ⟨hr, hd, by rw [h.count, hl]; rfl⟩
  | some d q hd hpg ok h1 h2 he ho =>
    right
    obtain ⟨s1, s2, s3⟩ := shape d _ _ q ok h1 h2
    have hn4 := h.live.calm.fine.n4
    have hi := h.live.run.good.pool.hi
    have hr := ho.inn t.root (by simp)
    have hall := ho.all
    rw [List.length_cons, List.length_append] at hall
    rw [he] at s1 s2
    have hp : (pgsP t.st.dev d q).length ≤ 4094 := by omega
    have hd12 := pow_small (d := d) (by omega)
    rw [h.count, hd]
    refine ⟨hr.1, by omega, by omega, by omega, by omega, by omega⟩
theorem TrD.keep_spec {t : TrD} {L : List PairD} (h : t.Good L) (he : t.st.super.epoch < 4611686018427387903) :
    ((t.keep).1 = 60 ∧ t.st.Lack (L.length + (t.st.dev.n + 199) / 200 + 2)) ∨ ((t.keep).1 = 0 ∧ t.st.Told t.root t.depth t.count (t.keep).2.st ∧ (t.keep).2.Good L ∧ (t.keep).2.root = t.root ∧ (t.keep).2.depth = t.depth ∧ (t.keep).2.count = t.count ∧ (t.keep).2.st.lists.length ≤ (t.st.dev.n + 199) / 200 + 1) := by
  have hck : (superPg (t.st.super.epoch + 1) t.root t.depth t.count t.st.pool.high 0).check = true := super_check h.told h.live.run.good.pool.lo (by have := h.live.run.good.pool.hi; have := h.live.calm.fine.n4; omega)
  rcases h.live.commit he t.root t.depth t.count with ⟨h1, _⟩ | ⟨h1, h2⟩
  · left
    rcases h1 with h1 | h1
    · exfalso
      rcases h.live.run.commit h.live.calm h.live.lists ⟨by have := h.live.holds.ep; omega, he⟩ h.live.hold t.root t.depth t.count with ⟨h3 | h3, _⟩ | h3
      · rw [hck] at h3; exact absurd h3.2 (by simp)
      · rw [h3.1] at h1; cases h1
      · rw [h3.1] at h1; cases h1
    · refine ⟨h1, ?_⟩
      have hlk := fun (A : List Int) (ho : t.st.Owns (A ++ t.st.lists)) => h.live.run.commit_lack h.live.calm h.live.lists ⟨by have := h.live.holds.ep; omega, he⟩ h.live.hold t.root t.depth t.count ho h1
      have hd := h.live.run.drops t.st.lists
      have hfew : ∀ A : List Int, t.st.Owns (A ++ t.st.lists) → (t.st.drops t.st.lists).pool.listsP.length ≤ (t.st.dev.n + 199) / 200 := fun A ho => by
        have := lists_few hd.1 (drops_own t.st.lists t.st h.live.run ho)
        rw [hd.2.1] at this
        exact this
      cases h.tree with
      | none hd0 hr hl ho => exact (hlk [] ho).mono (by have := hfew [] ho; simp; omega)
      | some d q hd0 hpg ok h3 h4 hen ho =>
        have hs := deep_small h.live.run h.live.calm ok h3 h4 ho
        rw [hen] at hs
        exact (hlk (t.root :: pgsP t.st.dev d q) ho).mono (by have := hfew (t.root :: pgsP t.st.dev d q) ho; rw [List.length_cons]; omega)
  · right
    have e : t.keep = (0, { t with st := (t.st.commit t.root t.depth t.count).2 }) := by
      unfold TrD.keep
      rw [h1, TrD.end_ok]
    rw [e]
    have hd := h.live.run.drops t.st.lists
    have hown := fun (A : List Int) (ho : t.st.Owns (A ++ t.st.lists)) => h.live.run.commit_own h.live.calm h.live.lists ⟨by have := h.live.holds.ep; omega, he⟩ h.live.hold t.root t.depth t.count ho h1
    obtain ⟨T', hT'⟩ : ∃ T', (t.st.commit t.root t.depth t.count).2 = T' := ⟨_, rfl⟩
    rw [hT'] at h2 hown ⊢
    have hfew : ∀ A : List Int, t.st.Owns (A ++ t.st.lists) → T'.lists.length ≤ (t.st.dev.n + 199) / 200 + 1 := fun A ho => by
      have := lists_few hd.1 (drops_own t.st.lists t.st h.live.run ho)
      rw [hd.2.1] at this
      have := (hown A ho).2
      omega
    refine ⟨rfl, h2, ⟨h2.live, h2.clean h.live.whole, ?_, h.count⟩, rfl, rfl, rfl, ?_⟩
    rotate_left
    · cases h.tree with
      | none hd0 hr hl ho => exact hfew [] ho
      | some d q hd0 hpg ok h3 h4 hen ho => exact hfew (t.root :: pgsP t.st.dev d q) ho
    cases h.tree with
    | none hd hr hl ho => exact .none hd hr hl (hown [] ho).1
    | some d q hd hpg ok h3 h4 hen ho =>
      have hb : ∀ x ∈ t.root :: pgsP t.st.dev d q, T'.dev.bytes x = t.st.dev.bytes x := fun x hx => by
        have hin := ho.inn x (by
          rcases List.mem_cons.1 hx with hx | hx
          · rw [hx]; simp
          · simp [hx])
        exact h2.bytes x hin.1 (h.live.owned hin.1 hin.2.1 hin.2.2.1)
      have ho' : T'.dev.off = t.st.dev.off := by rw [h2.calm.off, h.live.calm.off]
      obtain ⟨c1, c2, c3⟩ := okP_congr h2.n ho' d none none q (fun x hx => hb x (List.mem_cons_of_mem _ hx)) ok
      refine .some d q hd ?_ c1 h3 h4 (by show entP T'.dev d q = L; rw [c2]; exact hen) ?_
      · show pageD T'.dev t.root = _
        rw [← hpg]; exact pageD_congr h2.n ho' (hb _ (by simp))
      · show T'.Owns (t.root :: (pgsP T'.dev d q ++ T'.lists))
        rw [c3]
        exact (hown (t.root :: pgsP t.st.dev d q) ho).1
end Go.Proofs.YtgpohemcfgepeaaGreat

namespace Go.Proofs.YtgpohemcfgepeaaGreat
open Go.RowKit Go.MapKept
def PoolD.held (b : PoolD) : Int := b.high - 2 - b.free.length
theorem limbo_few {T : StD} {A : List Int} (hr : T.Run) (ho : T.Owns A) : (T.pool.limbo.length : Int) ≤ T.base.held := by
  have hg := hr.good.pool
  have hb := hr.good.base
  have hlo := hb.lo
  have hin : ∀ x ∈ T.pool.limbo, 2 ≤ x ∧ x < T.base.high ∧ x ∉ T.base.free := fun x hx => by
    have h1 := (hg.limbo.2 x hx).1
    have h2 := ho.old x hx
    unfold PoolD.opn at h2
    refine ⟨h1, ?_, fun hm => h2 ⟨h1, .inr hm⟩⟩
    by_cases h3 : T.base.high ≤ x
    · exact absurd ⟨h1, .inl h3⟩ h2
    · omega
  have hnd : (T.pool.limbo ++ T.base.free).Nodup := by
    rw [List.nodup_append]
    refine ⟨hg.limbo.1.imp (fun h => by omega), hb.free.1.imp (fun h => by omega), fun x hx y hy e => ?_⟩
    subst e
    exact (hin x hx).2.2 hy
  have hle := nodup_len (T.base.high - 2).toNat ((T.pool.limbo ++ T.base.free).map fun x => x - 2) (by
    refine List.Pairwise.map _ (fun a b hab => ?_) hnd
    intro e
    exact hab (by omega)) (fun x hx => by
    obtain ⟨y, hy, rfl⟩ := List.mem_map.1 hx
    rcases List.mem_append.1 hy with hy | hy
    · have := hin y hy; omega
    · have := hb.free.2 y hy; omega)
  rw [List.length_map, List.length_append] at hle
  unfold PoolD.held
  omega
theorem no_lack {T : StD} {m : Nat} (_ : T.Run) (h : (m : Int) + T.base.held + 2 < T.dev.n) : ¬ T.Lack m := by
  rintro ⟨T', A', a, b, c, d⟩
  have hl := limbo_few a.run b
  have hall := b.all
  rw [c.1] at hall
  have hf := c.2
  rw [a.n] at hf
  rw [a.base] at hl
  simp only [List.length_nil] at hall
  omega
theorem told_held {T T' : StD} {r d c : Int} {A : List Int} (ht : T.Told r d c T') (ho : T'.Owns A) : T'.base.held = A.length := by
  have hall := ho.all
  have hb := ht.run.blimbo
  rw [ht.pool] at hall
  rw [hb] at hall
  unfold PoolD.held
  simp only [List.length_nil] at hall
  omega
structure TrD.Room (t : TrD) (N K : Nat) : Prop where
  n : t.st.dev.n = N
  held : t.st.base.held ≤ K
  lists : t.st.lists.length ≤ (N + 199) / 200 + 1
end Go.Proofs.YtgpohemcfgepeaaGreat

namespace Go.Proofs.YtgpohemcfgepeaaGreat
open Go.RowKit Go.MapKept
def TrD.last (t : TrD) : TrD := TrD.back { t with st := t.st.abort }
def TrD.Kept (t : TrD) (K : List PairD) : Prop := t.last.Good K
end Go.Proofs.YtgpohemcfgepeaaGreat

namespace Go.Proofs.YtgpohemcfgepeaaGreat
open Go.RowKit Go.MapKept
def TrD.new (n : Nat) : TrD := ⟨(formatD (Dv.new n)).2, (formatD (Dv.new n)).2.super.root, (formatD (Dv.new n)).2.super.depth, (formatD (Dv.new n)).2.super.count⟩
theorem TrD.new_zero {n : Nat} (h2 : 2 ≤ n) (h4 : n ≤ 4096) : (TrD.new n).root = 0 ∧ (TrD.new n).depth = 0 ∧ (TrD.new n).count = 0 := by
  have h := (format_ok h2 h4).2.super
  exact ⟨congrArg PageD.root h, congrArg PageD.depth h, congrArg PageD.count h⟩
theorem TrD.new_own {n : Nat} (h2 : 2 ≤ n) (h4 : n ≤ 4096) : (formatD (Dv.new n)).2.Owns (formatD (Dv.new n)).2.lists ∧ (formatD (Dv.new n)).2.lists.length ≤ 1 := by
  have hg := newGood (D := Dv.new n) h2
  have hr : (StD.new (Dv.new n)).abort.Run := StD.Run.abort (T := StD.new (Dv.new n)) hg.base rfl
  have h := hr.commit_own (new_calm h2 h4) (fun x hx => by cases hx) ⟨by show (0 : Int) ≤ 0; decide, by show (0 : Int) < 4611686018427387903; decide⟩ (by
    show beI (((Dv.new n).bytes _).take 8) < _
    rw [Go.Proofs.YtgpohemcfgepeaaGreat.new_zero, beI_zeros]
    show (0 : Int) < 0 + 1
    decide) 0 0 0 (A := []) ⟨by show ([] : List Int).Nodup; exact List.nodup_nil, (fun x hx => by cases hx), by show (0 : Int) + 0 + 0 = 2 - 2; decide, (fun x hx => by cases hx)⟩ (format_ok h2 h4).1
  refine ⟨h.1, Nat.le_trans h.2 ?_⟩
  have e : ((StD.new (Dv.new n)).abort.drops (StD.new (Dv.new n)).abort.lists).pool.listsP = [] := by show chunkL 200 (turnL [] []) = []; exact chunkL_nil 200 (by decide)
  rw [e]
  exact Nat.le_refl _
theorem TrD.new_good {n : Nat} (h2 : 2 ≤ n) (h4 : n ≤ 4096) : (TrD.new n).Good [] where
  live := (StD.Live.format h2 h4).2.1
  clean := StD.clean.format h2 h4
  tree := .none (TrD.new_zero h2 h4).2.1 (TrD.new_zero h2 h4).1 rfl (TrD.new_own h2 h4).1
  count := (TrD.new_zero h2 h4).2.2
theorem TrD.new_room {n : Nat} (h2 : 2 ≤ n) (h4 : n ≤ 4096) (K : Nat) (hK : 1 ≤ K) : (TrD.new n).Room n K where
  n := (StD.Live.format h2 h4).2.2.2
  held := by
    have h := told_held (format_ok h2 h4).2 (TrD.new_own h2 h4).1
    have hl := (TrD.new_own h2 h4).2
    show (formatD (Dv.new n)).2.base.held ≤ K
    omega
  lists := by
    have hl := (TrD.new_own h2 h4).2
    show (formatD (Dv.new n)).2.lists.length ≤ _
    omega
theorem TrD.new_epoch {n : Nat} (h2 : 2 ≤ n) (h4 : n ≤ 4096) : (TrD.new n).st.super.epoch = 1 := (StD.Live.format h2 h4).2.2.1
end Go.Proofs.YtgpohemcfgepeaaGreat

namespace Go.Proofs.YtgpohemcfgepeaaGreat
open Go.RowKit Go.MapKept
theorem TrD.Good.own {t : TrD} {L : List PairD} (h : t.Good L) : ∃ A, t.st.Owns (A ++ t.st.lists) := by
  cases h.tree with
  | none _ _ _ ho => exact ⟨[], ho⟩
  | some d q _ _ _ _ _ _ ho => exact ⟨t.root :: pgsP t.st.dev d q, ho⟩
theorem TrD.Good.bounds {t : TrD} {L : List PairD} (h : t.Good L) : (0 ≤ t.depth ∧ t.depth ≤ 1000) ∧ (-4611686018427387904 ≤ t.count ∧ t.count ≤ 4611686018427387904) ∧ t.st.good ∧ t.st.lists.length ≤ 4096 := by
  have hn4 := h.live.calm.fine.n4
  have hhi := h.live.run.good.pool.hi
  obtain ⟨A, ho⟩ := h.own
  have hall := ho.all
  rw [List.length_append] at hall
  have hl : t.st.lists.length ≤ 4096 := by omega
  rcases h.told with ⟨h1, h2, h3⟩ | ⟨h1, h2, h3, h4, h5, h6⟩
  · exact ⟨⟨by omega, by omega⟩, ⟨by omega, by omega⟩, h.live.run.good, hl⟩
  · exact ⟨⟨by omega, by omega⟩, ⟨by omega, by omega⟩, h.live.run.good, hl⟩
theorem TrD.Good.getK {t : TrD} {L : List PairD} (h : t.Good L) (key : ByteArray) : Go.Proofs.YtgpohemcfgepeaaGreat.getK t.st key t.depth.toNat t.root = gotten key L := by
  have hz : (gotten key L).2.2 = 0 := by unfold gotten; cases getP key L <;> rfl
  have e := TrD.get_spec h key
  unfold TrD.get at e
  have e1 := congrArg (fun x : ByteArray × Bool × Int × TrD => x.1) e
  have e2 := congrArg (fun x : ByteArray × Bool × Int × TrD => x.2.1) e
  have e3 := congrArg (fun x : ByteArray × Bool × Int × TrD => x.2.2.1) e
  simp only at e1 e2 e3
  exact Prod.ext e1 (Prod.ext e2 (e3.trans hz.symm))
theorem TrD.Good.nil {t : TrD} (h : t.Good []) : t.root = 0 ∧ t.depth = 0 ∧ t.count = 0 := by
  have hc := h.count
  cases h.tree with
  | none hd hr _ _ => exact ⟨hr, hd, hc⟩
  | some d q hd hp ok h1 h2 he ho =>
    have := (shape d _ _ q ok h1 h2).1
    rw [he] at this
    exact absurd this (by decide)
theorem TrD.Good.noLack {t : TrD} {L : List PairD} (h : t.Good L) {m : Nat} (hm : (m : Int) + t.st.base.held + 2 < t.st.dev.n) : ¬ t.st.Lack m := no_lack h.live.run hm
theorem lay_at {T : StD} {old : Int} {p : PageD} (h : (T.lay old p).2.1 = 0) : (T.lay old p).1 = (T.place old).1 := by
  unfold StD.lay at h ⊢
  split at h
  · cases h
  · rename_i h1
    rw [if_neg h1]
    split at h
    · rename_i h2; exact absurd h h2
    · rename_i h2
      rw [if_neg h2]
      split at h
      · rename_i h3; exact absurd h h3
      · rename_i h3; rw [if_neg h3]
theorem TrD.new_st (n : Nat) : (TrD.new n).st = (formatD (Dv.new n)).2 := rfl
def kA : ByteArray := ⟨#[97]⟩
def kB : ByteArray := ⟨#[98]⟩
def k1 : ByteArray := ⟨#[49]⟩
structure AwkT (t1 t2 t3 : TrD) : Prop where
  s1 : (TrD.new 32).set kA k1 = (0, t1)
  g1 : t1.Good [(kA, k1)]
  r1 : t1.root = 2 ∧ t1.depth = 1 ∧ t1.count = 1
  c2 : t1.keep = (0, t2)
  g2 : t2.Good [(kA, k1)]
  u3 : t2.cut kA = (true, 0, t3)
  g3 : t3.Good []
  u4 : t3.cut kA = (false, 0, t3)
  e1 : t1.st.super.epoch = 1
set_option maxRecDepth 100000 in
theorem awkT_plain : ∃ t1 t2 t3, AwkT t1 t2 t3 := by
  have hG0 := TrD.new_good (n := 32) (by decide) (by decide)
  have hR0 := TrD.new_room (n := 32) (by decide) (by decide) 1 (by decide)
  have hE0 := TrD.new_epoch (n := 32) (by decide) (by decide)
  have hl0 := (TrD.new_own (n := 32) (by decide) (by decide)).2
  have hT0 := (format_ok (n := 32) (by decide) (by decide))
  have hb := commit_bare (T := (StD.new (Dv.new 32)).abort) (root := 0) (depth := 0) (count := 0) rfl (by show chunkL 200 (turnL [] []) = []; exact chunkL_nil 200 (by decide)) hT0.1
  have hz0 := TrD.new_zero (n := 32) (by decide) (by decide)
  obtain ⟨t0, ht0⟩ : ∃ t0, TrD.new 32 = t0 := ⟨_, rfl⟩
  have hst : t0.st = (formatD (Dv.new 32)).2 := by rw [← ht0, TrD.new_st]
  rw [ht0] at hG0 hR0 hE0 hz0
  have hpool : t0.st.pool = ⟨2, [], []⟩ := by
    rw [hst]
    exact hT0.2.pool.trans hb.2
  have hlist : t0.st.lists = [] := by rw [hst]; exact hb.1
  have hfr : ∀ k, t0.st.fresh k = false := by rw [hst]; exact hT0.2.fresh
  have hn0 : (t0.st.dev.n : Int) = 32 := by rw [hR0.n]; rfl
  have hbad : ¬ pairBad kA k1 := by unfold pairBad; decide
  have hh0 := hR0.held
  -- Set
  obtain ⟨s1, s2, s3⟩ := (TrD.set_spec hG0 hbad).resolve_left (fun h => hG0.noLack (by rw [hlist]; show ((0 + 0 + 20 : Nat) : Int) + _ + 2 < _; omega) h.2)
  have hroot : (t0.set kA k1).2.root = 2 ∧ (t0.set kA k1).2.depth = 1 ∧ (t0.set kA k1).2.count = 1 := by
    have hpl := place_bare0 (hfr 0) hpool (by omega)
    unfold TrD.set at s1 ⊢
    rw [if_neg hbad, if_pos hz0.2.1] at s1 ⊢
    split at s1
    · rename_i hq; exact absurd s1 hq
    · rename_i hq
      rw [if_neg hq]
      have hq0 : (t0.st.lay 0 (leafPg [(kA, k1)])).2.1 = 0 := Decidable.not_not.1 hq
      refine ⟨?_, rfl, rfl⟩
      show (t0.st.lay 0 (leafPg [(kA, k1)])).1 = 2
      rw [lay_at hq0, hpl]
  obtain ⟨⟨x1, t1⟩, h1⟩ : ∃ x, t0.set kA k1 = x := ⟨_, rfl⟩
  rw [h1] at s1 s2 s3 hroot
  simp only at s1 s2 s3 hroot
  subst s1
  have g1 : t1.Good [(kA, k1)] := s3
  have he1 : t1.st.super.epoch = 1 := by rw [s2.super]; exact hE0
  have hn1 : (t1.st.dev.n : Int) = 32 := by rw [s2.n]; exact hn0
  have hn1' : t1.st.dev.n = 32 := by omega
  -- Keep
  obtain ⟨c1, c2, c3, _, _, _, c7⟩ := (TrD.keep_spec g1 (by rw [he1]; decide)).resolve_left (fun h => g1.noLack (by rw [s2.base, hn1']; show ((1 + (32 + 199) / 200 + 2 : Nat) : Int) + _ + 2 < _; omega) h.2)
  rw [hn1'] at c7
  obtain ⟨⟨x2, t2⟩, h2⟩ : ∃ x, t1.keep = x := ⟨_, rfl⟩
  rw [h2] at c1 c2 c3 c7
  simp only at c1 c2 c3 c7
  subst c1
  have hn2 : (t2.st.dev.n : Int) = 32 := by rw [c2.n]; exact hn1
  have hheld : t2.st.base.held ≤ 3 := by
    cases c3.tree with
    | none _ _ hl _ => cases hl
    | some d q _ _ ok q1 q2 qe ho =>
      have hp := (deep_small c3.live.run c3.live.calm ok q1 q2 ho).2
      rw [qe] at hp
      have hq := told_held c2 ho
      rw [List.length_cons, List.length_append] at hq
      rw [List.length_singleton] at hp
      omega
  -- Cut
  obtain ⟨d1, d2, d3, d4⟩ := (TrD.cut_spec c3 kA).resolve_left (fun h => c3.noLack (by rw [List.length_singleton]; omega) h.2)
  have hcut : cutP kA [(kA, k1)] = [] := by unfold cutP; simp [kLt_irrefl]
  rw [hcut] at d4
  obtain ⟨⟨x3, y3, t3⟩, h3⟩ : ∃ x, t2.cut kA = x := ⟨_, rfl⟩
  rw [h3] at d1 d2 d3 d4
  simp only at d1 d2 d3 d4
  subst d1
  have hx3 : x3 = true := by rw [d2]; simp
  subst hx3
  refine ⟨t1, t2, t3, ⟨by rw [ht0]; exact h1, g1, hroot, h2, c3, h3, d4, ?_, he1⟩⟩
  unfold TrD.cut
  rw [if_pos d4.nil.2.1]
end Go.Proofs.YtgpohemcfgepeaaGreat
