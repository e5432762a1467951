/- a part. -/
import Derived.Test.YtgpohemcfgepeaaGreatGI
import Derived.Lib.Strings
namespace Go.Proofs.YtgpohemcfgepeaaGreat
open Go.RowKit Go.MapKept
structure StD.Owns (T : StD) (A : List Int) : Prop where
  nodup : A.Nodup
  inn : ∀ x ∈ A, 2 ≤ x ∧ x < T.pool.high ∧ x ∉ T.pool.free ∧ x ∉ T.pool.limbo
  all : (A.length : Int) + T.pool.free.length + T.pool.limbo.length = T.pool.high - 2
  old : ∀ k ∈ T.pool.limbo, ¬ T.base.opn k
theorem StD.Owns.dev {T : StD} {A : List Int} (h : T.Owns A) (D : Dv) : ({ T with dev := D } : StD).Owns A := ⟨h.nodup, h.inn, h.all, h.old⟩
theorem StD.Owns.perm {T : StD} {A B : List Int} (h : T.Owns A) (hp : A.Perm B) : T.Owns B := ⟨hp.nodup_iff.1 h.nodup, fun x hx => h.inn x (hp.mem_iff.2 hx), by rw [← hp.length_eq]; exact h.all, h.old⟩
theorem nodup_erase {A : List Int} (h : A.Nodup) (n : Int) : (A.erase n).Nodup := h.sublist List.erase_sublist
theorem mem_erase {A : List Int} (h : A.Nodup) {n x : Int} : x ∈ A.erase n ↔ x ≠ n ∧ x ∈ A := h.mem_erase_iff
theorem StD.Run.take_own {T : StD} {A : List Int} (h : T.Run) (ho : T.Owns A) (h0 : T.take.2.1 = 0) : T.take.2.2.Owns (T.take.1 :: A) := by
  have ht : (T.pool.take T.dev.n).2.2 = 0 := by
    unfold StD.take at h0
    split at h0
    · rename_i e; exact e
    · rename_i e; exact absurd h0 e
  have e : T.take = ((T.pool.take T.dev.n).2.1, 0, { T with pool := (T.pool.take T.dev.n).1, fresh := fun k => decide (k = (T.pool.take T.dev.n).2.1) || T.fresh k }) := by unfold StD.take; rw [if_pos ht]
  rw [e]
  have hg := h.good.pool
  unfold PoolD.take at ht ⊢
  cases hf : T.pool.free with
  | nil =>
    rw [hf] at ht
    simp only at ht ⊢
    split at ht
    · rename_i hm; simp at ht
    · rename_i hm
      rw [if_neg hm]
      dsimp only
      refine ⟨List.nodup_cons.2 ⟨fun hx => ?_, ho.nodup⟩, fun x hx => ?_, ?_, ho.old⟩
      · have := (ho.inn _ hx).2.1; omega
      · rcases List.mem_cons.1 hx with rfl | hx
        · refine ⟨hg.lo, by show T.pool.high < T.pool.high + 1; omega, by simp, fun hl => ?_⟩
          have := (hg.limbo.2 _ hl).2; omega
        · have := ho.inn x hx
          rw [hf] at this
          exact ⟨this.1, by show x < T.pool.high + 1; omega, by simp, this.2.2.2⟩
      · have := ho.all
        rw [hf] at this
        show ((T.pool.high :: A).length : Int) + (([] : List Int).length : Int) + T.pool.limbo.length = T.pool.high + 1 - 2
        simp only [List.length_cons, List.length_nil] at *
        omega
  | cons y l =>
    simp only
    have hn := hg.free.1
    rw [hf, List.pairwise_cons] at hn
    have hy := hg.free.2 y (by rw [hf]; simp)
    refine ⟨List.nodup_cons.2 ⟨fun hx => ?_, ho.nodup⟩, fun x hx => ?_, ?_, ho.old⟩
    · exact (ho.inn _ hx).2.2.1 (by rw [hf]; simp)
    · rcases List.mem_cons.1 hx with rfl | hx
      · exact ⟨hy.1, hy.2, fun hm => by have := hn.1 _ hm; omega, hg.dis _ (by rw [hf]; simp)⟩
      · have := ho.inn x hx
        rw [hf] at this
        exact ⟨this.1, this.2.1, fun hm => this.2.2.1 (List.mem_cons_of_mem _ hm), this.2.2.2⟩
    · have := ho.all
      rw [hf] at this
      show ((y :: A).length : Int) + (l.length : Int) + T.pool.limbo.length = T.pool.high - 2
      simp only [List.length_cons] at *
      omega
theorem notOpn {T : StD} (h : T.Run) {n : Int} (h2 : n < T.pool.high) (h3 : n ∉ T.pool.free) (hf : ¬ T.fresh n = true) : ¬ T.base.opn n := fun hop => by
  rcases h.cover n hop h2 with h1 | h1
  · exact h3 h1
  · exact hf h1
def StD.Full (T : StD) : Prop := T.pool.free = [] ∧ (T.dev.n : Int) ≤ T.pool.high
theorem take_full {T : StD} (h : T.take.2.1 ≠ 0) : T.Full := by
  unfold StD.take at h
  split at h
  · exact absurd rfl h
  · rename_i he
    unfold PoolD.take at he
    cases hf : T.pool.free with
    | nil =>
      rw [hf] at he
      simp only at he
      refine ⟨hf, ?_⟩
      split at he
      · assumption
      · exact absurd rfl he
    | cons x l => rw [hf] at he; exact absurd rfl he
def StD.Lack (T : StD) (m : Nat) : Prop := ∃ T' A', T.Step T' ∧ T'.Owns A' ∧ T'.Full ∧ A'.length ≤ m
theorem StD.Lack.mono {T : StD} {m m' : Nat} (h : T.Lack m) (hm : m ≤ m') : T.Lack m' := by
  obtain ⟨T', A', a, b, c, d⟩ := h
  exact ⟨T', A', a, b, c, Nat.le_trans d hm⟩
theorem StD.Lack.back {T T1 : StD} {m : Nat} (hs : T.Step T1) (h : T1.Lack m) : T.Lack m := by
  obtain ⟨T', A', a, b, c, d⟩ := h
  exact ⟨T', A', hs.trans a, b, c, d⟩
theorem StD.Owns.drop {T : StD} {A : List Int} (h : T.Run) (ho : T.Owns A) {n : Int} (hn : n ∈ A) : (T.drop n).1 = 0 ∧ (T.drop n).2.Owns (A.erase n) := by
  have hi := ho.inn n hn
  have hm : T.pool.may n = true := may_iff.2 hi
  have hlen : (A.erase n).length = A.length - 1 := List.length_erase_of_mem hn
  have hpos : 1 ≤ A.length := by cases A with | nil => cases hn | cons => simp
  have hall := ho.all
  unfold StD.drop
  by_cases hf : T.fresh n = true
  · have eb : T.pool.back n = ({ T.pool with free := laidP T.pool.free n }, 0) := by unfold PoolD.back; rw [if_pos hm]
    rw [if_pos hf, eb, if_pos rfl]
    refine ⟨rfl, nodup_erase ho.nodup n, fun x hx => ?_, ?_, ho.old⟩
    · have hx' := (mem_erase ho.nodup).1 hx
      have := ho.inn x hx'.2
      refine ⟨this.1, this.2.1, fun hm => ?_, this.2.2.2⟩
      rcases mem_laidP.1 hm with h1 | h1
      · exact hx'.1 h1
      · exact this.2.2.1 h1
    · show ((A.erase n).length : Int) + ((laidP T.pool.free n).length : Int) + T.pool.limbo.length = T.pool.high - 2
      rw [hlen, laidP_length]; omega
  · have eg : T.pool.give n = ({ T.pool with limbo := laidP T.pool.limbo n }, 0) := by unfold PoolD.give; rw [if_pos hm]
    rw [if_neg hf, eg, if_pos rfl]
    refine ⟨rfl, nodup_erase ho.nodup n, fun x hx => ?_, ?_, fun k hk => ?_⟩
    · have hx' := (mem_erase ho.nodup).1 hx
      have := ho.inn x hx'.2
      refine ⟨this.1, this.2.1, this.2.2.1, fun hm => ?_⟩
      rcases mem_laidP.1 hm with h1 | h1
      · exact hx'.1 h1
      · exact this.2.2.2 h1
    · show ((A.erase n).length : Int) + (T.pool.free.length : Int) + ((laidP T.pool.limbo n).length : Int) = T.pool.high - 2
      rw [hlen, laidP_length]; omega
    · rcases mem_laidP.1 hk with h1 | h1
      · rw [h1]; exact notOpn h hi.2.1 hi.2.2.1 hf
      · exact ho.old k h1
theorem StD.Run.lay_own {T : StD} {A : List Int} (h : T.Run) (hc : T.dev.calm) (ho : T.Owns A) {old : Int} (hold : old = 0 ∨ old ∈ A) {p : PageD} (hk : p.check = true) (h4 : p.kind ≠ 4) :
    ((T.lay old p).2.1 = 60 ∧ T.Full) ∨ ((T.lay old p).2.1 = 0 ∧ (T.lay old p).2.2.Owns ((T.lay old p).1 :: A.erase old) ∧ ∀ j, j ≠ (T.lay old p).1 → (T.lay old p).2.2.dev.bytes j = T.dev.bytes j) := by
  have hb : ¬ (p.check = false ∨ p.kind = 4) := by rintro (h | h); (rw [hk] at h; cases h); exact h4 h
  have hn4 := hc.fine.n4
  -- a place is found
  have key : ((T.place old).2.1 = 60 ∧ T.Full) ∨ ((T.place old).2.1 = 0 ∧ (T.place old).2.2.Owns ((T.place old).1 :: A.erase old) ∧ (T.place old).2.2.dev = T.dev) := by
    by_cases hf : T.fresh old = true
    · have e : T.place old = (old, 0, T) := by unfold StD.place; rw [if_pos hf]
      rw [e]
      have hm : old ∈ A := hold.resolve_left (fun h0 => by
        have := (h.fresh old hf).1.1
        omega)
      exact .inr ⟨rfl, ho.perm (List.perm_cons_erase hm), rfl⟩
    · by_cases h0 : T.take.2.1 = 0
      · obtain ⟨t1, t2, t3, t4, t5, t6, t7, t8, t9, t10, t11, t12⟩ := h.take h0
        have hto := h.take_own ho h0
        by_cases hz : old = 0
        · have e : T.place old = (T.take.1, 0, T.take.2.2) := by unfold StD.place; rw [if_neg hf, if_pos (.inr hz), h0]
          rw [e]
          have he : A.erase old = A := List.erase_of_not_mem (fun hm => by have := (ho.inn old hm).1; omega)
          rw [he]
          exact .inr ⟨rfl, hto, t2⟩
        · have hm : old ∈ A := hold.resolve_left hz
          have hne : T.take.1 ≠ old := fun e => by
            have := (List.nodup_cons.1 hto.nodup).1
            rw [e] at this
            exact this hm
          have hin := hto.inn old (List.mem_cons_of_mem _ hm)
          have hmay : T.take.2.2.pool.may old = true := may_iff.2 hin
          have eg : T.take.2.2.pool.give old = ({ T.take.2.2.pool with limbo := laidP T.take.2.2.pool.limbo old }, 0) := by unfold PoolD.give; rw [if_pos hmay]
          have e : T.place old = (T.take.1, 0, { T.take.2.2 with pool := (T.take.2.2.pool.give old).1 }) := by
            unfold StD.place
            rw [if_neg hf, if_neg (by simp [h0, hz]), if_neg (by rw [eg]; simp)]
          rw [e]
          refine .inr ⟨rfl, ?_, t2⟩
          rw [eg]
          have hlen : (A.erase old).length = A.length - 1 := List.length_erase_of_mem hm
          have hpos : 1 ≤ A.length := by cases A with | nil => cases hm | cons => simp
          have hall := hto.all
          have hnd := List.nodup_cons.1 hto.nodup
          refine ⟨List.nodup_cons.2 ⟨fun hx => hnd.1 ((mem_erase hnd.2).1 hx).2, nodup_erase hnd.2 old⟩, fun x hx => ?_, ?_, fun k hk => ?_⟩
          · have hx2 : x ≠ old ∧ x ∈ T.take.1 :: A := by
              rcases List.mem_cons.1 hx with rfl | hx
              · exact ⟨hne, by simp⟩
              · have := (mem_erase hnd.2).1 hx
                exact ⟨this.1, List.mem_cons_of_mem _ this.2⟩
            have := hto.inn x hx2.2
            refine ⟨this.1, this.2.1, this.2.2.1, fun hl => ?_⟩
            rcases mem_laidP.1 hl with h1 | h1
            · exact hx2.1 h1
            · exact this.2.2.2 h1
          · show ((T.take.1 :: A.erase old).length : Int) + (T.take.2.2.pool.free.length : Int) + ((laidP T.take.2.2.pool.limbo old).length : Int) = T.take.2.2.pool.high - 2
            rw [List.length_cons, hlen, laidP_length]
            rw [List.length_cons] at hall
            omega
          · rcases mem_laidP.1 hk with h1 | h1
            · have hi := ho.inn old hm
              show ¬ T.take.2.2.base.opn k
              rw [t5, h1]; exact notOpn h hi.2.1 hi.2.2.1 hf
            · exact hto.old k h1
      · have hq := StD.take_fail h0
        have e : T.place old = (T.take.1, 60, T) := by unfold StD.place; rw [if_neg hf, if_pos (.inl h0), hq.1, hq.2]
        rw [e]
        exact .inl ⟨rfl, take_full h0⟩
  obtain ⟨p1, p2, p3, p4, p5, p6⟩ := h.place hc old
  rcases key with ⟨k1, k9⟩ | ⟨k1, k2, k3⟩
  · have e : T.lay old p = (0, (T.place old).2.1, (T.place old).2.2.end (T.place old).2.1) := by unfold StD.lay; rw [if_neg hb, if_pos (by rw [k1]; decide)]
    rw [e]
    exact .inl ⟨k1, k9⟩
  · have q := p4 k1
    have hhi := p1.run.good.pool.hi
    rw [p1.n] at hhi
    have hok : p.okAt (T.place old).1 = true := by
      unfold PageD.okAt
      rw [hk, if_neg h4]
      have := q.1.1
      have := q.2.2
      rw [placeB_iff.2 ⟨by omega, by omega⟩]; rfl
    have hlt : (T.place old).1 < ((T.place old).2.2.dev.n : Int) := by rw [p1.n]; have := q.2.2; omega
    have hge : 0 ≤ (T.place old).1 := by have := q.1.1; omega
    have hw := p1.run.write p1.calm hok hge hlt
    have e : T.lay old p = ((T.place old).1, 0, ((T.place old).2.2.write (T.place old).1 p).2) := by
      unfold StD.lay
      rw [if_neg hb, if_neg (by simp [k1]), if_neg (by simp [hw.1])]
    rw [e]
    refine .inr ⟨rfl, ?_, fun j hj => ?_⟩
    · show ((T.place old).2.2.write (T.place old).1 p).2.Owns _
      rw [hw.2.1]; exact k2.dev _
    · show ((T.place old).2.2.write (T.place old).1 p).2.dev.bytes j = _
      have hj' : j ≠ (T.place old).1 := hj
      rw [hw.2.2.2.2.2.1, if_neg hj', k3]
end Go.Proofs.YtgpohemcfgepeaaGreat

namespace Go.Proofs.YtgpohemcfgepeaaGreat
open Go.RowKit Go.MapKept
def kLt (x y : ByteArray) : Bool := Op.bytesLess x.toList y.toList
theorem bl_irrefl : ∀ x : List UInt8, Op.bytesLess x x = false
  | [] => rfl
  | a :: x => by
    unfold Op.bytesLess
    simp [bl_irrefl x, UInt8.lt_irrefl]
theorem bl_trans : ∀ {x y z : List UInt8}, Op.bytesLess x y = true → Op.bytesLess y z = true → Op.bytesLess x z = true
  | _, [], _, h, _ => by simp [Op.bytesLess] at h
  | _, _ :: _, [], _, h => by simp [Op.bytesLess] at h
  | [], _ :: _, _ :: _, _, _ => rfl
  | a :: x, b :: y, c :: z, h, k => by
    unfold Op.bytesLess at h k ⊢
    simp only [Bool.or_eq_true, decide_eq_true_eq, Bool.and_eq_true, beq_iff_eq] at h k ⊢
    rcases h with h | ⟨h, h'⟩
    · rcases k with k | ⟨k, _⟩
      · exact .inl (UInt8.lt_trans h k)
      · exact .inl (k ▸ h)
    · rcases k with k | ⟨k, k'⟩
      · exact .inl (h ▸ k)
      · exact .inr ⟨h.trans k, bl_trans h' k'⟩
theorem bl_total : ∀ (x y : List UInt8), Op.bytesLess x y = true ∨ x = y ∨ Op.bytesLess y x = true
  | [], [] => .inr (.inl rfl)
  | [], _ :: _ => .inl rfl
  | _ :: _, [] => .inr (.inr rfl)
  | a :: x, b :: y => by
    unfold Op.bytesLess
    simp only [Bool.or_eq_true, decide_eq_true_eq, Bool.and_eq_true, beq_iff_eq, List.cons.injEq]
    by_cases h : a < b
    · exact .inl (.inl h)
    · by_cases h2 : b < a
      · exact .inr (.inr (.inl h2))
      · have e : a = b := by
          apply UInt8.toNat_inj.1
          have h1 : ¬ a.toNat < b.toNat := fun q => h (UInt8.lt_iff_toNat_lt.2 q)
          have h3 : ¬ b.toNat < a.toNat := fun q => h2 (UInt8.lt_iff_toNat_lt.2 q)
          omega
        subst e
        rcases bl_total x y with h | h | h
        · exact .inl (.inr ⟨rfl, h⟩)
        · exact .inr (.inl ⟨rfl, h⟩)
        · exact .inr (.inr (.inr ⟨rfl, h⟩))
theorem ba_toList_inj {x y : ByteArray} (h : x.toList = y.toList) : x = y := by
  have : x.data = y.data := Array.toList_inj.1 (by rw [← ByteArray.toList_eq, ← ByteArray.toList_eq, h])
  cases x; cases y; cases this; rfl
theorem kLt_irrefl (x : ByteArray) : kLt x x = false := bl_irrefl _
theorem kLt_trans {x y z : ByteArray} (h : kLt x y = true) (k : kLt y z = true) : kLt x z = true := bl_trans h k
theorem kLt_total (x y : ByteArray) : kLt x y = true ∨ x = y ∨ kLt y x = true := by
  rcases bl_total x.toList y.toList with h | h | h
  · exact .inl h
  · exact .inr (.inl (ba_toList_inj h))
  · exact .inr (.inr h)
theorem kLt_asymm {x y : ByteArray} (h : kLt x y = true) : kLt y x = false := by
  cases hq : kLt y x with
  | false => rfl
  | true => have := kLt_trans h hq; rw [kLt_irrefl] at this; cases this
theorem strLe_iff {x y : ByteArray} : strLe x y = !kLt y x := by
  unfold strLe
  rcases kLt_total x y with h | h | h
  · rw [show Op.bytesLess x.toList y.toList = true from h, kLt_asymm h]; rfl
  · subst h; simp [kLt_irrefl]
  · have h2 := kLt_asymm h
    have h3 : (x.toList == y.toList) = false := by
      rw [beq_eq_false_iff_ne]
      intro e
      rw [ba_toList_inj e, kLt_irrefl] at h; cases h
    rw [show Op.bytesLess x.toList y.toList = false from h2, h3, h]; rfl
def Sorted (l : List PairD) : Prop := l.Pairwise fun a b => kLt a.1 b.1 = true
def getP (key : ByteArray) (l : List PairD) : Option ByteArray := (l.find? fun x => decide (x.1 = key)).map (·.2)
def setP (key val : ByteArray) (l : List PairD) : List PairD := l.filter (fun x => kLt x.1 key) ++ (key, val) :: l.filter (fun x => kLt key x.1)
def cutP (key : ByteArray) (l : List PairD) : List PairD := l.filter fun x => kLt x.1 key || kLt key x.1
theorem setP_mid {key val : ByteArray} {a b c : List PairD} (ha : ∀ x ∈ a, kLt x.1 key = true) (hc : ∀ x ∈ c, kLt key x.1 = true) : setP key val (a ++ b ++ c) = a ++ setP key val b ++ c := by
  unfold setP
  have e1 : a.filter (fun x => kLt x.1 key) = a := List.filter_eq_self.2 ha
  have e2 : a.filter (fun x => kLt key x.1) = [] := List.filter_eq_nil_iff.2 fun x hx => by rw [kLt_asymm (ha x hx)]; simp
  have e3 : c.filter (fun x => kLt key x.1) = c := List.filter_eq_self.2 hc
  have e4 : c.filter (fun x => kLt x.1 key) = [] := List.filter_eq_nil_iff.2 fun x hx => by rw [kLt_asymm (hc x hx)]; simp
  simp only [List.filter_append, e1, e2, e3, e4, List.append_nil, List.nil_append, List.append_assoc, List.cons_append]
theorem cutP_mid {key : ByteArray} {a b c : List PairD} (ha : ∀ x ∈ a, kLt x.1 key = true) (hc : ∀ x ∈ c, kLt key x.1 = true) : cutP key (a ++ b ++ c) = a ++ cutP key b ++ c := by
  unfold cutP
  have e1 : a.filter (fun x => kLt x.1 key || kLt key x.1) = a := List.filter_eq_self.2 fun x hx => by rw [ha x hx]; rfl
  have e3 : c.filter (fun x => kLt x.1 key || kLt key x.1) = c := List.filter_eq_self.2 fun x hx => by rw [hc x hx]; simp
  simp only [List.filter_append, e1, e3]
theorem getP_mid {key : ByteArray} {a b c : List PairD} (ha : ∀ x ∈ a, kLt x.1 key = true) (hc : ∀ x ∈ c, kLt key x.1 = true) : getP key (a ++ b ++ c) = getP key b := by
  have na : ∀ x ∈ a, (decide (x.1 = key)) = false := fun x hx => by
    rw [decide_eq_false_iff_not]; intro e; have := ha x hx; rw [e, kLt_irrefl] at this; cases this
  have nc : ∀ x ∈ c, (decide (x.1 = key)) = false := fun x hx => by
    rw [decide_eq_false_iff_not]; intro e; have := hc x hx; rw [e, kLt_irrefl] at this; cases this
  have f : ∀ l : List PairD, (∀ x ∈ l, (decide (x.1 = key)) = false) → l.find? (fun x => decide (x.1 = key)) = none := fun l h => List.find?_eq_none.2 fun x hx => by rw [h x hx]; simp
  unfold getP
  rw [List.find?_append, List.find?_append, f a na, f c nc]
  simp
theorem Sorted.set {l : List PairD} (h : Sorted l) (key val : ByteArray) : Sorted (setP key val l) := by
  unfold setP Sorted
  rw [List.pairwise_append, List.pairwise_cons]
  refine ⟨h.sublist List.filter_sublist, ⟨fun x hx => ?_, h.sublist List.filter_sublist⟩, fun x hx y hy => ?_⟩
  · exact (List.mem_filter.1 hx).2
  · have h1 := (List.mem_filter.1 hx).2
    rcases List.mem_cons.1 hy with rfl | hy
    · exact h1
    · exact kLt_trans h1 (List.mem_filter.1 hy).2
theorem Sorted.cut {l : List PairD} (h : Sorted l) (key : ByteArray) : Sorted (cutP key l) := h.sublist List.filter_sublist
end Go.Proofs.YtgpohemcfgepeaaGreat

namespace Go.Proofs.YtgpohemcfgepeaaGreat
open Go.RowKit Go.MapKept
structure TrD where
  st : StD
  root : Int
  depth : Int
  count : Int
def TrD.back (t : TrD) : TrD := { t with root := t.st.super.root, depth := t.st.super.depth, count := t.st.super.count }
def TrD.end (t : TrD) (e : Int) : TrD := if e ≠ 0 ∧ e ≠ 80 then TrD.back { t with st := t.st.abort } else t
def kindAt (d : Int) : Int := if d = 1 then 1 else 2
def pageK (T : StD) (n d : Int) : PageD × Int :=
  if (T.page n).2 = 50 ∨ (T.page n).2 = 41 ∨ ((T.page n).2 = 0 ∧ (T.page n).1.kind ≠ kindAt d) then (pgZero, 81) else T.page n
def kidN (ks : List ByteArray) (key : ByteArray) : Nat := (ks.takeWhile fun k => !kLt key k).length
def findN (l : List PairD) (key : ByteArray) : Nat := (l.takeWhile fun x => kLt x.1 key).length
def findB (l : List PairD) (key : ByteArray) : Bool := match l[findN l key]? with
  | some x => decide (x.1 = key)
  | none => false
def valAt (l : List PairD) (i : Nat) : ByteArray := match l[i]? with
  | some x => x.2
  | none => ⟨#[]⟩
def getK (T : StD) (key : ByteArray) : Nat → Int → ByteArray × Bool × Int
  | 0, _ => (⟨#[]⟩, false, 0)
  | d + 1, n =>
    if (pageK T n (d + 1 : Nat)).2 ≠ 0 then (⟨#[]⟩, false, (pageK T n (d + 1 : Nat)).2)
    else if (pageK T n (d + 1 : Nat)).1.kind = 2 then getK T key d ((pageK T n (d + 1 : Nat)).1.kids.getD (kidN (pageK T n (d + 1 : Nat)).1.keys key) 0)
    else if findB (pageK T n (d + 1 : Nat)).1.pairs key = true then (valAt (pageK T n (d + 1 : Nat)).1.pairs (findN (pageK T n (d + 1 : Nat)).1.pairs key), true, 0)
    else getK T key d n
def leafPg (l : List PairD) : PageD := pgLeaf 0 l
def branchPg (ks : List ByteArray) (gs : List Int) : PageD := pgBranch 0 (ks, gs)
def sizeD (p : PageD) : Nat := p.pairs.length + p.keys.length
def mostD (p : PageD) : Nat := if p.kind = 1 then 6 else 12
def halfA (p : PageD) : PageD := if p.kind = 1 then leafPg (p.pairs.take (sizeD p / 2)) else { branchPg (p.keys.take (sizeD p / 2)) (p.kids.take (sizeD p / 2 + 1)) with kind := p.kind }
def halfB (p : PageD) : PageD := if p.kind = 1 then leafPg (p.pairs.drop (sizeD p / 2)) else { branchPg (p.keys.drop (sizeD p / 2 + 1)) (p.kids.drop (sizeD p / 2 + 1)) with kind := p.kind }
def halfK (p : PageD) : ByteArray := if p.kind = 1 then (match p.pairs[sizeD p / 2]? with | some x => x.1 | none => ⟨#[]⟩) else p.keys.getD (sizeD p / 2) ⟨#[]⟩
def joinD (a : PageD) (key : ByteArray) (b : PageD) : PageD := if a.kind = 1 then leafPg (a.pairs ++ b.pairs) else branchPg (a.keys ++ [key] ++ b.keys) (a.kids ++ b.kids)
def layK (T : StD) (old : Int) (p : PageD) : List Int × List ByteArray × Int × StD :=
  if sizeD p ≤ mostD p then ([(T.lay old p).1], [], (T.lay old p).2.1, (T.lay old p).2.2)
  else if (T.lay old (halfA p)).2.1 ≠ 0 then ([], [], (T.lay old (halfA p)).2.1, (T.lay old (halfA p)).2.2)
  else ([(T.lay old (halfA p)).1, ((T.lay old (halfA p)).2.2.lay 0 (halfB p)).1], [halfK p], ((T.lay old (halfA p)).2.2.lay 0 (halfB p)).2.1, ((T.lay old (halfA p)).2.2.lay 0 (halfB p)).2.2)
def putK (T : StD) (p : PageD) (i fr tt : Nat) (c : PageD) : PageD × Int × StD :=
  if (layK T (p.kids.getD i 0) c).2.2.1 ≠ 0 then (p, (layK T (p.kids.getD i 0) c).2.2.1, (layK T (p.kids.getD i 0) c).2.2.2)
  else (branchPg (p.keys.take fr ++ (layK T (p.kids.getD i 0) c).2.1 ++ p.keys.drop tt) (p.kids.take fr ++ (layK T (p.kids.getD i 0) c).1 ++ p.kids.drop (tt + 1)), 0, (layK T (p.kids.getD i 0) c).2.2.2)
def settleK (T : StD) (p : PageD) (i : Nat) (d : Int) (c : PageD) : PageD × Int × StD :=
  if sizeD c < mostD c / 2 then
    if (pageK T (p.kids.getD (i - 1 + max i 1 - i) 0) d).2 ≠ 0 then (p, (pageK T (p.kids.getD (i - 1 + max i 1 - i) 0) d).2, T)
    else if (T.drop (p.kids.getD (i - 1 + max i 1 - i) 0)).1 ≠ 0 then (p, 81, (T.drop (p.kids.getD (i - 1 + max i 1 - i) 0)).2)
    else putK (T.drop (p.kids.getD (i - 1 + max i 1 - i) 0)).2 p i (i - 1) (max i 1)
      (if i - 1 = i then joinD c (p.keys.getD (i - 1) ⟨#[]⟩) (pageK T (p.kids.getD (i - 1 + max i 1 - i) 0) d).1 else joinD (pageK T (p.kids.getD (i - 1 + max i 1 - i) 0) d).1 (p.keys.getD (i - 1) ⟨#[]⟩) c)
  else putK T p i i i c
def changeK (act : PageD → PageD × Bool) (key : ByteArray) : Nat → StD → Int → PageD × Bool × Int × StD
  | 0, T, n => if (pageK T n 1).2 ≠ 0 then ((pageK T n 1).1, false, (pageK T n 1).2, T) else ((act (pageK T n 1).1).1, (act (pageK T n 1).1).2, 0, T)
  | d + 1, T, n =>
    if (pageK T n (d + 2 : Nat)).2 ≠ 0 then ((pageK T n (d + 2 : Nat)).1, false, (pageK T n (d + 2 : Nat)).2, T)
    else
      let p := (pageK T n (d + 2 : Nat)).1
      let c := changeK act key d T (p.kids.getD (kidN p.keys key) 0)
      if c.2.2.1 ≠ 0 ∨ c.2.1 = false then (p, false, c.2.2.1, c.2.2.2)
      else
        let s := settleK c.2.2.2 p (kidN p.keys key) (d + 1 : Nat) c.1
        (s.1, true, s.2.1, s.2.2)
def TrD.top (t : TrD) (p : PageD) : Int × TrD :=
  if p.kind = 1 ∧ p.pairs.length = 0 then ((t.st.drop t.root).1, { t with st := (t.st.drop t.root).2, root := 0, depth := 0 })
  else if p.kind = 2 ∧ p.keys.length = 0 then ((t.st.drop t.root).1, { t with st := (t.st.drop t.root).2, root := p.kids.getD 0 0, depth := t.depth - 1 })
  else
    let l := layK t.st t.root p
    if l.2.2.1 ≠ 0 then (l.2.2.1, { t with st := l.2.2.2 })
    else if 0 < l.2.1.length then
      let r := l.2.2.2.lay 0 (branchPg l.2.1 l.1)
      (r.2.1, { t with st := r.2.2, root := r.1, depth := t.depth + 1 })
    else (0, { t with st := l.2.2.2, root := l.1.getD 0 0 })
def setLeaf (key val : ByteArray) (p : PageD) : PageD × Bool :=
  (leafPg (p.pairs.take (findN p.pairs key) ++ [(key, val)] ++ p.pairs.drop (findN p.pairs key + if findB p.pairs key = true then 1 else 0)), true)
def cutLeaf (key : ByteArray) (p : PageD) : PageD × Bool :=
  if findB p.pairs key = true then (leafPg (p.pairs.take (findN p.pairs key) ++ p.pairs.drop (findN p.pairs key + 1)), true) else (p, false)
end Go.Proofs.YtgpohemcfgepeaaGreat

namespace Go.Proofs.YtgpohemcfgepeaaGreat
open Go.RowKit Go.MapKept
def entP (D : Dv) : Nat → PageD → List PairD
  | 0, p => p.pairs
  | d + 1, p => p.kids.flatMap fun k => entP D d (pageD D k).1
def pgsP (D : Dv) : Nat → PageD → List Int
  | 0, _ => []
  | d + 1, p => p.kids.flatMap fun k => k :: pgsP D d (pageD D k).1
def Inn (lo hi : Option ByteArray) (k : ByteArray) : Prop := (∀ l, lo = some l → kLt k l = false) ∧ ∀ h, hi = some h → kLt k h = true
def InnS (lo hi : Option ByteArray) (k : ByteArray) : Prop := (∀ l, lo = some l → kLt l k = true) ∧ ∀ h, hi = some h → kLt k h = true
theorem InnS.inn {lo hi : Option ByteArray} {k : ByteArray} (h : InnS lo hi k) : Inn lo hi k := ⟨fun l hl => kLt_asymm (h.1 l hl), h.2⟩
def PairOk (x : PairD) : Prop := 1 ≤ x.1.size ∧ x.1.size ≤ 48 ∧ x.2.size ≤ 100
def KSorted (l : List ByteArray) : Prop := l.Pairwise fun a b => kLt a b = true
def loAt (lo : Option ByteArray) (ks : List ByteArray) (i : Nat) : Option ByteArray := if i = 0 then lo else ks[i - 1]?
def hiAt (hi : Option ByteArray) (ks : List ByteArray) (i : Nat) : Option ByteArray := match ks[i]? with
  | some k => some k
  | none => hi
def Enough (q : PageD) : Prop := mostD q / 2 ≤ sizeD q ∧ sizeD q ≤ mostD q
def okP (D : Dv) : Nat → Option ByteArray → Option ByteArray → PageD → Prop
  | 0, lo, hi, p => p = leafPg p.pairs ∧ Sorted p.pairs ∧ ∀ x ∈ p.pairs, PairOk x ∧ Inn lo hi x.1
  | d + 1, lo, hi, p => p = branchPg p.keys p.kids ∧ KSorted p.keys ∧ (∀ k ∈ p.keys, (1 ≤ k.size ∧ k.size ≤ 48) ∧ InnS lo hi k) ∧ p.kids.length = p.keys.length + 1 ∧
      ∀ i n, p.kids[i]? = some n → pageD D n = ((pageD D n).1, 0) ∧ Enough (pageD D n).1 ∧ okP D d (loAt lo p.keys i) (hiAt hi p.keys i) (pageD D n).1
theorem flatMap_congr' {α β : Type} {l : List α} {f g : α → List β} (h : ∀ x ∈ l, f x = g x) : l.flatMap f = l.flatMap g := by
  induction l with
  | nil => rfl
  | cons x l ih => rw [List.flatMap_cons, List.flatMap_cons, h x (by simp), ih (fun y hy => h y (by simp [hy]))]
theorem okP_congr {D D' : Dv} (hn : D'.n = D.n) (ho : D'.off = D.off) : ∀ (d : Nat) (lo hi : Option ByteArray) (p : PageD), (∀ x ∈ pgsP D d p, D'.bytes x = D.bytes x) → okP D d lo hi p →
    okP D' d lo hi p ∧ entP D' d p = entP D d p ∧ pgsP D' d p = pgsP D d p
  | 0, lo, hi, p, _, h => ⟨h, rfl, rfl⟩
  | d + 1, lo, hi, p, hb, h => by
    obtain ⟨h1, h2, h3, h4, h5⟩ := h
    have hp : ∀ k ∈ p.kids, pageD D' k = pageD D k := fun k hk => pageD_congr hn ho (hb k (List.mem_flatMap.2 ⟨k, hk, by simp⟩))
    have hs : ∀ k ∈ p.kids, ∀ x ∈ pgsP D d (pageD D k).1, D'.bytes x = D.bytes x := fun k hk x hx => hb x (List.mem_flatMap.2 ⟨k, hk, List.mem_cons_of_mem _ hx⟩)
    have hk : ∀ k ∈ p.kids, entP D' d (pageD D k).1 = entP D d (pageD D k).1 ∧ pgsP D' d (pageD D k).1 = pgsP D d (pageD D k).1 := fun k hk => by
      obtain ⟨i, hi, he⟩ := List.mem_iff_getElem.1 hk
      have h6 := h5 i k (by rw [List.getElem?_eq_getElem hi, he])
      exact (okP_congr hn ho d _ _ _ (hs k hk) h6.2.2).2
    refine ⟨⟨h1, h2, h3, h4, fun i n hi => ?_⟩, ?_, ?_⟩
    · have hm : n ∈ p.kids := List.mem_of_getElem? hi
      have h6 := h5 i n hi
      rw [hp n hm]
      exact ⟨h6.1, h6.2.1, (okP_congr hn ho d _ _ _ (hs n hm) h6.2.2).1⟩
    · exact flatMap_congr' fun k hkm => by rw [hp k hkm, (hk k hkm).1]
    · exact flatMap_congr' fun k hkm => by rw [hp k hkm, (hk k hkm).2]
theorem Inn.loose {lo hi lo' hi' : Option ByteArray} {k : ByteArray} (h : Inn lo' hi' k) (hl : ∀ l, lo = some l → ∀ l', lo' = some l' → kLt l' l = false) (hl0 : lo' = none → lo = none) (hh : ∀ x, hi = some x → ∀ y, hi' = some y → kLt x y = false) (hh0 : hi' = none → hi = none) : Inn lo hi k := by
  refine ⟨fun l hl1 => ?_, fun x hx => ?_⟩
  · cases hq : lo' with
    | none => rw [hl0 hq] at hl1; cases hl1
    | some l' =>
      have h1 := h.1 l' hq
      have h2 := hl l hl1 l' hq
      cases hk : kLt k l with
      | false => rfl
      | true =>
        rcases kLt_total l' l with h3 | h3 | h3
        · rw [h2] at h3; cases h3
        · rw [h3, hk] at h1; cases h1
        · rw [kLt_trans hk h3] at h1; cases h1
  · cases hq : hi' with
    | none => rw [hh0 hq] at hx; cases hx
    | some y =>
      have h1 := h.2 y hq
      have h2 := hh x hx y hq
      rcases kLt_total x y with h3 | h3 | h3
      · rw [h2] at h3; cases h3
      · rw [h3]; exact h1
      · exact kLt_trans h1 h3
theorem inn_kid {lo hi : Option ByteArray} {ks : List ByteArray} (hk : ∀ k ∈ ks, Inn lo hi k) {i : Nat} (hi' : i ≤ ks.length) {k : ByteArray} (h : Inn (loAt lo ks i) (hiAt hi ks i) k) : Inn lo hi k := by
  refine h.loose (fun l hl l' hl' => ?_) (fun h0 => ?_) (fun x hx y hy => ?_) (fun h0 => ?_)
  · unfold loAt at hl'
    split at hl'
    · rw [hl] at hl'; cases hl'; exact kLt_irrefl _
    · exact (hk l' (List.mem_of_getElem? hl')).1 l hl
  · unfold loAt at h0
    split at h0
    · exact h0
    · rw [List.getElem?_eq_none_iff] at h0; omega
  · unfold hiAt at hy
    split at hy
    · rename_i k' hk'
      cases hy
      exact kLt_asymm ((hk _ (List.mem_of_getElem? hk')).2 x hx)
    · rw [hx] at hy; cases hy; exact kLt_irrefl _
  · unfold hiAt at h0
    split at h0
    · cases h0
    · exact h0
theorem ent_inn {D : Dv} : ∀ (d : Nat) (lo hi : Option ByteArray) (p : PageD), okP D d lo hi p → ∀ x ∈ entP D d p, PairOk x ∧ Inn lo hi x.1
  | 0, lo, hi, p, h, x, hx => h.2.2 x hx
  | d + 1, lo, hi, p, h, x, hx => by
    obtain ⟨h1, h2, h3, h4, h5⟩ := h
    obtain ⟨k, hk, hx⟩ := List.mem_flatMap.1 hx
    obtain ⟨i, hi', he⟩ := List.mem_iff_getElem.1 hk
    have h6 := h5 i k (by rw [List.getElem?_eq_getElem hi', he])
    have h7 := ent_inn d _ _ _ h6.2.2 x hx
    exact ⟨h7.1, inn_kid (fun k hk => (h3 k hk).2.inn) (by omega) h7.2⟩
end Go.Proofs.YtgpohemcfgepeaaGreat

namespace Go.Proofs.YtgpohemcfgepeaaGreat
open Go.RowKit Go.MapKept
theorem takeWhile_at {α : Type} {f : α → Bool} : ∀ (l : List α), (∀ x, l[(l.takeWhile f).length]? = some x → f x = false) ∧ ∀ i x, i < (l.takeWhile f).length → l[i]? = some x → f x = true
  | [] => ⟨fun x h => (by cases h), fun i x h => (by simp at h)⟩
  | a :: l => by
    by_cases ha : f a = true
    · rw [List.takeWhile_cons_of_pos ha]
      have ih := takeWhile_at (f := f) l
      refine ⟨fun x h => ih.1 x (by simpa using h), fun i x h hx => ?_⟩
      cases i with
      | zero => simp at hx; rw [← hx]; exact ha
      | succ i => exact ih.2 i x (by simpa using h) (by simpa using hx)
    · rw [List.takeWhile_cons_of_neg ha]
      refine ⟨fun x h => ?_, fun i x h => by simp at h⟩
      simp at h
      rw [← h]
      simpa using ha
theorem takeWhile_le {α : Type} {f : α → Bool} (l : List α) : (l.takeWhile f).length ≤ l.length := by
  have h := List.takeWhile_append_dropWhile (p := f) (l := l)
  conv => rhs; rw [← h]
  rw [List.length_append]; omega
theorem kidN_le (ks : List ByteArray) (key : ByteArray) : kidN ks key ≤ ks.length := takeWhile_le ks
theorem kidN_inn {lo hi : Option ByteArray} {ks : List ByteArray} {key : ByteArray} (h : Inn lo hi key) : Inn (loAt lo ks (kidN ks key)) (hiAt hi ks (kidN ks key)) key := by
  have ht := takeWhile_at (f := fun k => !kLt key k) ks
  refine ⟨fun l hl => ?_, fun x hx => ?_⟩
  · unfold loAt at hl
    split at hl
    · exact h.1 l hl
    · rename_i h0
      have := ht.2 _ l (by show kidN ks key - 1 < kidN ks key; omega) hl
      simpa using this
  · unfold hiAt at hx
    split at hx
    · rename_i k hk
      cases hx
      have := ht.1 _ hk
      simpa using this
    · exact h.2 x hx
theorem ksorted_lt {ks : List ByteArray} (h : KSorted ks) {i j : Nat} (hij : i < j) {a b : ByteArray} (ha : ks[i]? = some a) (hb : ks[j]? = some b) : kLt a b = true := by
  obtain ⟨h1, e1⟩ := List.getElem?_eq_some_iff.1 ha
  obtain ⟨h2, e2⟩ := List.getElem?_eq_some_iff.1 hb
  have := List.pairwise_iff_getElem.1 h i j h1 h2 hij
  rw [e1, e2] at this
  exact this
theorem kids_lt {lo hi : Option ByteArray} {ks : List ByteArray} (h : KSorted ks) {i j : Nat} (hij : i < j) (hj : j ≤ ks.length) {x y : ByteArray} (hx : Inn (loAt lo ks i) (hiAt hi ks i) x) (hy : Inn (loAt lo ks j) (hiAt hi ks j) y) : kLt x y = true := by
  have hik : ks[i]? = some ks[i] := List.getElem?_eq_getElem (by omega)
  have hjk : ks[j - 1]? = some ks[j - 1] := List.getElem?_eq_getElem (by omega)
  have h1 := hx.2 ks[i] (by unfold hiAt; rw [hik])
  have h2 := hy.1 ks[j - 1] (by unfold loAt; rw [if_neg (by omega), hjk])
  have h3 : kLt x ks[j - 1] = true := by
    by_cases e : i = j - 1
    · have : ks[i]? = ks[j - 1]? := by rw [e]
      rw [hik, hjk] at this
      rw [← Option.some.inj this]; exact h1
    · exact kLt_trans h1 (ksorted_lt h (by omega : i < j - 1) hik hjk)
  rcases kLt_total ks[j - 1] y with h4 | h4 | h4
  · exact kLt_trans h3 h4
  · rw [← h4]; exact h3
  · rw [h2] at h4; cases h4
theorem ent_sorted {D : Dv} : ∀ (d : Nat) (lo hi : Option ByteArray) (p : PageD), okP D d lo hi p → Sorted (entP D d p)
  | 0, lo, hi, p, h => h.2.1
  | d + 1, lo, hi, p, h => by
    obtain ⟨h1, h2, h3, h4, h5⟩ := h
    unfold Sorted entP
    rw [List.pairwise_flatMap]
    constructor
    · intro k hk
      obtain ⟨i, hi', he⟩ := List.mem_iff_getElem.1 hk
      exact ent_sorted d _ _ _ (h5 i k (by rw [List.getElem?_eq_getElem hi', he])).2.2
    · rw [List.pairwise_iff_getElem]
      intro i j hi' hj' hij x hx y hy
      have a := ent_inn d _ _ _ (h5 i _ (List.getElem?_eq_getElem hi')).2.2 x hx
      have b := ent_inn d _ _ _ (h5 j _ (List.getElem?_eq_getElem hj')).2.2 y hy
      exact kids_lt h2 hij (by omega) a.2 b.2
def okKids (D : Dv) (d : Nat) (lo hi : Option ByteArray) (ks : List ByteArray) (gs : List Int) : Prop :=
  gs.length = ks.length + 1 ∧ ∀ i n, gs[i]? = some n → pageD D n = ((pageD D n).1, 0) ∧ Enough (pageD D n).1 ∧ okP D d (loAt lo ks i) (hiAt hi ks i) (pageD D n).1
def okOut (D : Dv) (d : Nat) (lo hi : Option ByteArray) (ks : List ByteArray) (gs : List Int) (fr tt : Nat) : Prop :=
  gs.length = ks.length + 1 ∧ ∀ i n, (i < fr ∨ tt < i) → gs[i]? = some n → pageD D n = ((pageD D n).1, 0) ∧ Enough (pageD D n).1 ∧ okP D d (loAt lo ks i) (hiAt hi ks i) (pageD D n).1
theorem okKids.splice {D : Dv} {d : Nat} {lo hi : Option ByteArray} {ks ks' : List ByteArray} {gs gs' : List Int} {fr tt : Nat} (h : okOut D d lo hi ks gs fr tt) (h' : okKids D d (loAt lo ks fr) (hiAt hi ks tt) ks' gs') (h1 : fr ≤ tt) (h2 : tt ≤ ks.length)  :
    okKids D d lo hi (ks.take fr ++ ks' ++ ks.drop tt) (gs.take fr ++ gs' ++ gs.drop (tt + 1)) := by
  obtain ⟨hl, hk⟩ := h
  obtain ⟨hl', hk'⟩ := h'
  have tk : (ks.take fr).length = fr := by rw [List.length_take]; omega
  have tg : (gs.take fr).length = fr := by rw [List.length_take]; omega
  refine ⟨by simp only [List.length_append, List.length_take, List.length_drop]; omega, fun j n hj => ?_⟩
  have key : ∀ m, (ks.take fr ++ ks' ++ ks.drop tt)[m]? = if m < fr then ks[m]? else if m < fr + ks'.length then ks'[m - fr]? else ks[m - fr - ks'.length + tt]? := fun m => by
    split
    · rename_i hm
      rw [List.getElem?_append_left (by rw [List.length_append, tk]; omega), List.getElem?_append_left (by rw [tk]; exact hm), List.getElem?_take_of_lt hm]
    · split
      · rw [List.getElem?_append_left (by rw [List.length_append, tk]; omega), List.getElem?_append_right (by rw [tk]; omega), tk]
      · rw [List.getElem?_append_right (by rw [List.length_append, tk]; omega), List.getElem?_drop, List.length_append, tk]
        congr 1; omega
  by_cases c1 : j < fr
  · have hg : gs[j]? = some n := by
      rw [List.getElem?_append_left (by rw [List.length_append, tg]; omega), List.getElem?_append_left (by rw [tg]; exact c1), List.getElem?_take_of_lt c1] at hj
      exact hj
    have h3 := hk j n (.inl c1) hg
    have e1 : loAt lo (ks.take fr ++ ks' ++ ks.drop tt) j = loAt lo ks j := by
      unfold loAt
      split
      · rfl
      · rw [key, if_pos (by omega)]
    have e2 : hiAt hi (ks.take fr ++ ks' ++ ks.drop tt) j = hiAt hi ks j := by
      unfold hiAt
      rw [key, if_pos c1]
    rw [e1, e2]; exact h3
  · by_cases c2 : j < fr + gs'.length
    · have hg : gs'[j - fr]? = some n := by
        rw [List.getElem?_append_left (by rw [List.length_append, tg]; omega), List.getElem?_append_right (by rw [tg]; omega), tg] at hj
        exact hj
      have h3 := hk' (j - fr) n hg
      have e1 : loAt lo (ks.take fr ++ ks' ++ ks.drop tt) j = loAt (loAt lo ks fr) ks' (j - fr) := by
        unfold loAt
        by_cases z : j = fr
        · subst z
          rw [if_pos (Nat.sub_self j)]
          split
          · rfl
          · rw [key, if_pos (by omega)]
        · rw [if_neg (by omega : ¬ j = 0), if_neg (by omega : ¬ j - fr = 0), key, if_neg (by omega), if_pos (by omega)]
          congr 1; omega
      have e2 : hiAt hi (ks.take fr ++ ks' ++ ks.drop tt) j = hiAt (hiAt hi ks tt) ks' (j - fr) := by
        unfold hiAt
        rw [key, if_neg (by omega)]
        by_cases z : j < fr + ks'.length
        · rw [if_pos z]
          cases hq : ks'[j - fr]? with
          | some k => rfl
          | none => rw [List.getElem?_eq_none_iff] at hq; omega
        · rw [if_neg z]
          have e3 : ks'[j - fr]? = none := List.getElem?_eq_none (by omega)
          rw [e3, show j - fr - ks'.length + tt = tt by omega]
      rw [e1, e2]; exact h3
    · have hg : gs[j - fr - gs'.length + (tt + 1)]? = some n := by
        rw [List.getElem?_append_right (by rw [List.length_append, tg]; omega), List.getElem?_drop, List.length_append, tg] at hj
        rw [← hj]; congr 1; omega
      have h3 := hk _ n (.inr (by omega)) hg
      have e1 : loAt lo (ks.take fr ++ ks' ++ ks.drop tt) j = loAt lo ks (j - fr - gs'.length + (tt + 1)) := by
        unfold loAt
        rw [if_neg (by omega), if_neg (by omega), key, if_neg (by omega), if_neg (by omega)]
        congr 1; omega
      have e2 : hiAt hi (ks.take fr ++ ks' ++ ks.drop tt) j = hiAt hi ks (j - fr - gs'.length + (tt + 1)) := by
        unfold hiAt
        rw [key, if_neg (by omega), if_neg (by omega), show j - fr - ks'.length + tt = j - fr - gs'.length + (tt + 1) by omega]
      rw [e1, e2]; exact h3
end Go.Proofs.YtgpohemcfgepeaaGreat

namespace Go.Proofs.YtgpohemcfgepeaaGreat
open Go.RowKit Go.MapKept
theorem riseFrom_of : ∀ (ks : List ByteArray) (prev : Option ByteArray), KSorted ks → (∀ k ∈ ks, 1 ≤ k.size ∧ k.size ≤ 48) → (∀ y, prev = some y → ∀ k ∈ ks, kLt y k = true) → riseFrom prev ks = true
  | [], _, _, _, _ => rfl
  | x :: l, prev, h, hk, hp => by
    have h' := List.pairwise_cons.1 h
    unfold riseFrom
    have e1 : keyOk x = true := by unfold keyOk; have := hk x (by simp); simp [this]
    rw [e1, riseFrom_of l (some x) h'.2 (fun k hk' => hk k (by simp [hk'])) (fun y hy k hk' => by cases hy; exact h'.1 k hk')]
    cases prev with
    | none => rfl
    | some y =>
      simp only [strLe_iff, hp y rfl x (by simp)]
      rfl
theorem Sorted.keys {l : List PairD} (h : Sorted l) : KSorted (l.map (·.1)) := List.pairwise_map.2 h
theorem bare_heads : pgZero.heads = false := by decide +kernel
theorem leafPg_check {l : List PairD} (h : Sorted l) (hp : ∀ x ∈ l, PairOk x) (h1 : 1 ≤ l.length) (h2 : l.length ≤ 6) : (leafPg l).check = true := by
  have e : (leafPg l).check = leafP l := by
    unfold PageD.check
    rw [if_pos (show (leafPg l).kind = 1 from rfl), show (leafPg l).hasKids = false from rfl, show (leafPg l).hasPages = false from rfl, show (leafPg l).heads = false from bare_heads, show decide ((leafPg l).next = 0) = true from rfl]
    show (leafP l && true && true && true && true) = _
    simp
  rw [e]
  unfold leafP
  have a1 : l.all (fun p => decide (p.2.size ≤ 100)) = true := List.all_eq_true.2 fun x hx => by simpa using (hp x hx).2.2
  have a2 : riseP (l.map (·.1)) = true := riseFrom_of _ _ h.keys (fun k hk => by
    obtain ⟨x, hx, rfl⟩ := List.mem_map.1 hk
    exact ⟨(hp x hx).1, (hp x hx).2.1⟩) (fun y hy => by cases hy)
  rw [a1, a2]
  simp [h1, h2]
theorem branchPg_check {ks : List ByteArray} {gs : List Int} (h : KSorted ks) (hk : ∀ k ∈ ks, 1 ≤ k.size ∧ k.size ≤ 48) (h1 : 1 ≤ ks.length) (h2 : ks.length ≤ 12) (hl : gs.length = ks.length + 1) (hg : ∀ g ∈ gs, 2 ≤ g ∧ g < 4096) : (branchPg ks gs).check = true := by
  have e : (branchPg ks gs).check = ((branchPg ks gs).fit && riseP ks && !(gs.any fun n => !placeB n)) := by
    unfold PageD.check
    rw [if_neg (show ¬ (branchPg ks gs).kind = 1 by show ¬ (2 : Int) = 1; decide), if_pos (show (branchPg ks gs).kind = 2 from rfl), show (branchPg ks gs).hasPairs = false from rfl, show (branchPg ks gs).hasPages = false from rfl, show (branchPg ks gs).heads = false from bare_heads, show decide ((branchPg ks gs).next = 0) = true from rfl]
    show ((branchPg ks gs).fit && riseP ks && !(gs.any fun n => !placeB n) && true && true && true && true) = _
    simp only [Bool.and_true]
  rw [e]
  have a1 : (branchPg ks gs).fit = true := by
    show (decide (1 ≤ ks.length) && decide (ks.length ≤ 12) && decide (gs.length = ks.length + 1)) = true
    simp [h1, h2, hl]
  have a2 : riseP ks = true := riseFrom_of _ _ h hk (fun y hy => by cases hy)
  have a3 : (gs.any fun n => !placeB n) = false := List.any_eq_false.2 fun x hx => by
    rw [placeB_iff.2 (hg x hx)]; simp
  rw [a1, a2, a3]; rfl
theorem StD.Run.lay_page {T : StD} {A : List Int} (h : T.Run) (hc : T.dev.calm) (ho : T.Owns A) {old : Int} (hold : old = 0 ∨ old ∈ A) {p : PageD} (hk : p.check = true) (hp : (∃ l, p = leafPg l) ∨ ∃ ks gs, p = branchPg ks gs) :
    ((T.lay old p).2.1 = 60 ∧ T.Full) ∨ ((T.lay old p).2.1 = 0 ∧ T.Step (T.lay old p).2.2 ∧ (T.lay old p).2.2.Owns ((T.lay old p).1 :: A.erase old) ∧ (∀ j, j ≠ (T.lay old p).1 → (T.lay old p).2.2.dev.bytes j = T.dev.bytes j) ∧ pageD (T.lay old p).2.2.dev (T.lay old p).1 = (p, 0)) := by
  have h4 : p.kind ≠ 4 := by
    rcases hp with ⟨l, rfl⟩ | ⟨ks, gs, rfl⟩
    · show (1 : Int) ≠ 4; decide
    · show (2 : Int) ≠ 4; decide
  have hl := h.lay hc old p
  rcases h.lay_own hc ho hold hk h4 with h1 | ⟨h1, h2, h3⟩
  · exact .inl h1
  · obtain ⟨q1, q2, q3, q4, q5⟩ := hl.2 h1
    refine .inr ⟨h1, hl.1, h2, h3, ?_⟩
    have hi := hl.1.run.good.pool.hi
    refine page_read hl.1.calm (by have := q1.1; omega) (by omega) ?_ h4
    rw [q4]
    rcases hp with ⟨l, rfl⟩ | ⟨ks, gs, rfl⟩
    · exact dec_leaf q5
    · exact dec_branch q5
theorem okKids.take {D : Dv} {d : Nat} {lo hi : Option ByteArray} {ks : List ByteArray} {gs : List Int} (h : okKids D d lo hi ks gs) {c : Nat} {k : ByteArray} (hc : ks[c]? = some k) : okKids D d lo (some k) (ks.take c) (gs.take (c + 1)) := by
  obtain ⟨hl, hk⟩ := h
  have hcl : c < ks.length := (List.getElem?_eq_some_iff.1 hc).1
  refine ⟨by rw [List.length_take, List.length_take]; omega, fun i n hin => ?_⟩
  have hic : i < c + 1 := by
    have := (List.getElem?_eq_some_iff.1 hin).1
    rw [List.length_take] at this; omega
  rw [List.getElem?_take_of_lt hic] at hin
  have h3 := hk i n hin
  have e1 : loAt lo (ks.take c) i = loAt lo ks i := by
    unfold loAt
    split
    · rfl
    · rw [List.getElem?_take_of_lt (by omega)]
  have e2 : hiAt (some k) (ks.take c) i = hiAt hi ks i := by
    unfold hiAt
    by_cases z : i < c
    · rw [List.getElem?_take_of_lt z]
      cases hq : ks[i]? with
      | some x => rfl
      | none => rw [List.getElem?_eq_none_iff] at hq; omega
    · obtain rfl : i = c := by omega
      rw [hc, List.getElem?_eq_none (by rw [List.length_take]; omega)]
  rw [e1, e2]; exact h3
theorem okKids.drop {D : Dv} {d : Nat} {lo hi : Option ByteArray} {ks : List ByteArray} {gs : List Int} (h : okKids D d lo hi ks gs) {c : Nat} {k : ByteArray} (hc : ks[c]? = some k) : okKids D d (some k) hi (ks.drop (c + 1)) (gs.drop (c + 1)) := by
  obtain ⟨hl, hk⟩ := h
  have hcl : c < ks.length := (List.getElem?_eq_some_iff.1 hc).1
  refine ⟨by rw [List.length_drop, List.length_drop]; omega, fun i n hin => ?_⟩
  rw [List.getElem?_drop] at hin
  have h3 := hk _ n hin
  have e1 : loAt (some k) (ks.drop (c + 1)) i = loAt lo ks (c + 1 + i) := by
    unfold loAt
    rw [if_neg (by omega : ¬ c + 1 + i = 0)]
    split
    · rename_i z; subst z; rw [show c + 1 + 0 - 1 = c by omega, hc]
    · rw [List.getElem?_drop]; congr 1; omega
  have e2 : hiAt hi (ks.drop (c + 1)) i = hiAt hi ks (c + 1 + i) := by
    unfold hiAt
    rw [List.getElem?_drop]
  rw [e1, e2]; exact h3
theorem okP_kids {D : Dv} {d : Nat} {lo hi : Option ByteArray} {p : PageD} (h : okP D (d + 1) lo hi p) : okKids D d lo hi p.keys p.kids := ⟨h.2.2.2.1, h.2.2.2.2⟩
theorem okP_branch {D : Dv} {d : Nat} {lo hi : Option ByteArray} {ks : List ByteArray} {gs : List Int} (h1 : KSorted ks) (h2 : ∀ k ∈ ks, (1 ≤ k.size ∧ k.size ≤ 48) ∧ InnS lo hi k) (h3 : okKids D d lo hi ks gs) : okP D (d + 1) lo hi (branchPg ks gs) := ⟨rfl, h1, h2, h3.1, h3.2⟩
theorem okP_kind {D : Dv} {d : Nat} {lo hi : Option ByteArray} {p : PageD} (h : okP D d lo hi p) : p.kind = if d = 0 then 1 else 2 := by
  cases d with
  | zero => rw [h.1]; rfl
  | succ d => rw [h.1]; rfl
theorem above {l a b : ByteArray} (h : kLt a b = true) (hl : kLt a l = false) : kLt l b = true := by
  rcases kLt_total l a with h1 | h1 | h1
  · exact kLt_trans h1 h
  · rw [h1]; exact h
  · rw [hl] at h1; cases h1
theorem okP_halves {D : Dv} : ∀ {d : Nat} {lo hi : Option ByteArray} {p : PageD}, okP D d lo hi p → mostD p < sizeD p → sizeD p ≤ 2 * mostD p →
    okP D d lo (some (halfK p)) (halfA p) ∧ okP D d (some (halfK p)) hi (halfB p) ∧ entP D d (halfA p) ++ entP D d (halfB p) = entP D d p ∧ pgsP D d (halfA p) ++ pgsP D d (halfB p) = pgsP D d p ∧ Enough (halfA p) ∧ Enough (halfB p) ∧
      (1 ≤ (halfK p).size ∧ (halfK p).size ≤ 48) ∧ InnS lo hi (halfK p) ∧ ((∃ l, halfA p = leafPg l) ∨ ∃ ks gs, halfA p = branchPg ks gs) ∧ ((∃ l, halfB p = leafPg l) ∨ ∃ ks gs, halfB p = branchPg ks gs)
  | 0, lo, hi, p, h, h1, h2 => by
    obtain ⟨e, hs, hp⟩ := h
    generalize p.pairs = l at *
    subst e
    have es : sizeD (leafPg l) = l.length := rfl
    have em : mostD (leafPg l) = 6 := rfl
    rw [es, em] at h1 h2
    have ha : halfA (leafPg l) = leafPg (l.take (l.length / 2)) := rfl
    have hb : halfB (leafPg l) = leafPg (l.drop (l.length / 2)) := rfl
    have hi2 : l.length / 2 < l.length := by omega
    have hk : halfK (leafPg l) = l[l.length / 2].1 := by
      show (match l[l.length / 2]? with | some x => x.1 | none => ⟨#[]⟩) = _
      rw [List.getElem?_eq_getElem hi2]
    have hmem : l[l.length / 2] ∈ l := List.getElem_mem hi2
    rw [ha, hb, hk]
    refine ⟨⟨rfl, hs.sublist (List.take_sublist _ _), fun x hx => ?_⟩, ⟨rfl, hs.sublist (List.drop_sublist _ _), fun x hx => ?_⟩, List.take_append_drop _ _, rfl, ⟨?_, ?_⟩, ⟨?_, ?_⟩, ⟨(hp _ hmem).1.1, (hp _ hmem).1.2.1⟩, ⟨fun y hy => above (List.pairwise_iff_getElem.1 hs 0 (l.length / 2) (by omega) hi2 (by omega)) ((hp _ (List.getElem_mem (by omega : 0 < l.length))).2.1 y hy), (hp _ hmem).2.2⟩, .inl ⟨_, rfl⟩, .inl ⟨_, rfl⟩⟩
    · have hx' := hp x (List.mem_of_mem_take hx)
      refine ⟨hx'.1, hx'.2.1, fun h he => ?_⟩
      cases he
      obtain ⟨i, hi', he⟩ := List.mem_take_iff_getElem.1 hx
      have := List.pairwise_iff_getElem.1 hs i (l.length / 2) (by omega) hi2 (by omega)
      rw [he] at this; exact this
    · have hx' := hp x (List.mem_of_mem_drop hx)
      refine ⟨hx'.1, fun y he => ?_, hx'.2.2⟩
      cases he
      obtain ⟨i, hi', he⟩ := List.mem_drop_iff_getElem.1 hx
      by_cases z : i = 0
      · subst z
        have : l[l.length / 2] = x := by rw [← he]; congr 1
        rw [← this]; exact kLt_irrefl _
      · have := List.pairwise_iff_getElem.1 hs (l.length / 2) (l.length / 2 + i) hi2 (by omega) (by omega)
        rw [show l[l.length / 2 + i] = x from he] at this
        exact kLt_asymm this
    · show 6 / 2 ≤ (l.take (l.length / 2)).length + 0; rw [List.length_take]; omega
    · show (l.take (l.length / 2)).length + 0 ≤ 6; rw [List.length_take]; omega
    · show 6 / 2 ≤ (l.drop (l.length / 2)).length + 0; rw [List.length_drop]; omega
    · show (l.drop (l.length / 2)).length + 0 ≤ 6; rw [List.length_drop]; omega
  | d + 1, lo, hi, p, h, h1, h2 => by
    have hkids := okP_kids h
    obtain ⟨e, hs, hp, hl, _⟩ := h
    generalize p.keys = ks at *
    generalize p.kids = gs at *
    subst e
    have es : sizeD (branchPg ks gs) = ks.length := by show 0 + ks.length = _; omega
    have em : mostD (branchPg ks gs) = 12 := rfl
    rw [es, em] at h1 h2
    have hi2 : ks.length / 2 < ks.length := by omega
    have hck : ks[ks.length / 2]? = some ks[ks.length / 2] := List.getElem?_eq_getElem hi2
    have ha : halfA (branchPg ks gs) = branchPg (ks.take (ks.length / 2)) (gs.take (ks.length / 2 + 1)) := by
      show { branchPg (ks.take (sizeD (branchPg ks gs) / 2)) (gs.take (sizeD (branchPg ks gs) / 2 + 1)) with kind := 2 } = _
      rw [es]; rfl
    have hb : halfB (branchPg ks gs) = branchPg (ks.drop (ks.length / 2 + 1)) (gs.drop (ks.length / 2 + 1)) := by
      show { branchPg (ks.drop (sizeD (branchPg ks gs) / 2 + 1)) (gs.drop (sizeD (branchPg ks gs) / 2 + 1)) with kind := 2 } = _
      rw [es]; rfl
    have hk : halfK (branchPg ks gs) = ks[ks.length / 2] := by
      show ks.getD (sizeD (branchPg ks gs) / 2) ⟨#[]⟩ = _
      rw [es, List.getD_eq_getElem?_getD, hck]; rfl
    have hmem : ks[ks.length / 2] ∈ ks := List.getElem_mem hi2
    rw [ha, hb, hk]
    refine ⟨okP_branch (hs.sublist (List.take_sublist _ _)) (fun k hk' => ?_) (hkids.take hck), okP_branch (hs.sublist (List.drop_sublist _ _)) (fun k hk' => ?_) (hkids.drop hck), ?_, ?_, ⟨?_, ?_⟩, ⟨?_, ?_⟩, (hp _ hmem).1, (hp _ hmem).2, .inr ⟨_, _, rfl⟩, .inr ⟨_, _, rfl⟩⟩
    · have hx' := hp k (List.mem_of_mem_take hk')
      refine ⟨hx'.1, hx'.2.1, fun h he => ?_⟩
      cases he
      obtain ⟨i, hi', he⟩ := List.mem_take_iff_getElem.1 hk'
      have := List.pairwise_iff_getElem.1 hs i (ks.length / 2) (by omega) hi2 (by omega)
      rw [he] at this; exact this
    · have hx' := hp k (List.mem_of_mem_drop hk')
      refine ⟨hx'.1, fun y he => ?_, hx'.2.2⟩
      cases he
      obtain ⟨i, hi', he⟩ := List.mem_drop_iff_getElem.1 hk'
      have := List.pairwise_iff_getElem.1 hs (ks.length / 2) (ks.length / 2 + 1 + i) hi2 (by omega) (by omega)
      rw [he] at this
      exact this
    · show (gs.take _).flatMap _ ++ (gs.drop _).flatMap _ = gs.flatMap _
      rw [← List.flatMap_append, List.take_append_drop]
    · show (gs.take _).flatMap _ ++ (gs.drop _).flatMap _ = gs.flatMap _
      rw [← List.flatMap_append, List.take_append_drop]
    · show 12 / 2 ≤ 0 + (ks.take (ks.length / 2)).length; rw [List.length_take]; omega
    · show 0 + (ks.take (ks.length / 2)).length ≤ 12; rw [List.length_take]; omega
    · show 12 / 2 ≤ 0 + (ks.drop (ks.length / 2 + 1)).length; rw [List.length_drop]; omega
    · show 0 + (ks.drop (ks.length / 2 + 1)).length ≤ 12; rw [List.length_drop]; omega
theorem okP_check {T : StD} {A : List Int} (hr : T.Run) (hc : T.dev.calm) (ho : T.Owns A) {D : Dv} : ∀ {d : Nat} {lo hi : Option ByteArray} {p : PageD}, okP D d lo hi p → 1 ≤ sizeD p → sizeD p ≤ mostD p → (∀ x ∈ pgsP D d p, x ∈ A) → p.check = true ∧ ((∃ l, p = leafPg l) ∨ ∃ ks gs, p = branchPg ks gs)
  | 0, lo, hi, p, h, h1, h2, _ => by
    obtain ⟨e, hs, hp⟩ := h
    generalize p.pairs = l at *
    subst e
    exact ⟨leafPg_check hs (fun x hx => (hp x hx).1) h1 h2, .inl ⟨_, rfl⟩⟩
  | d + 1, lo, hi, p, h, h1, h2, hA => by
    obtain ⟨e, hs, hp, hl, _⟩ := h
    have hkid : ∀ g ∈ p.kids, g ∈ A := fun g hg => hA g (List.mem_flatMap.2 ⟨g, hg, by simp⟩)
    generalize p.keys = ks at *
    generalize p.kids = gs at *
    subst e
    have es : sizeD (branchPg ks gs) = ks.length := by show 0 + ks.length = _; omega
    rw [es] at h1 h2
    have hn4 := hc.fine.n4
    have hi' := hr.good.pool.hi
    exact ⟨branchPg_check hs (fun k hk => (hp k hk).1) h1 h2 hl (fun g hg => by have := ho.inn g (hkid g hg); omega), .inr ⟨_, _, rfl⟩⟩
end Go.Proofs.YtgpohemcfgepeaaGreat

namespace Go.Proofs.YtgpohemcfgepeaaGreat
open Go.RowKit Go.MapKept
structure Laid (T T' : StD) (d : Nat) (lo hi : Option ByteArray) (c : PageD) (R : List Int) (gs : List Int) (ks : List ByteArray) : Prop where
  step : T.Step T'
  owns : T'.Owns ((gs.flatMap fun k => k :: pgsP T'.dev d (pageD T'.dev k).1) ++ R)
  rest : ∀ x ∈ R, T'.dev.bytes x = T.dev.bytes x
  rise : KSorted ks
  keys : ∀ k ∈ ks, (1 ≤ k.size ∧ k.size ≤ 48) ∧ InnS lo hi k
  one : ks.length ≤ 1
  len : gs.length = ks.length + 1
  kids : ∀ i n, gs[i]? = some n → pageD T'.dev n = ((pageD T'.dev n).1, 0) ∧ sizeD (pageD T'.dev n).1 ≤ mostD (pageD T'.dev n).1 ∧ 1 ≤ sizeD (pageD T'.dev n).1 ∧ okP T'.dev d (loAt lo ks i) (hiAt hi ks i) (pageD T'.dev n).1
  enough : mostD c / 2 ≤ sizeD c → okKids T'.dev d lo hi ks gs
  many : 0 < ks.length → okKids T'.dev d lo hi ks gs
  cnt : (gs.flatMap fun k => k :: pgsP T'.dev d (pageD T'.dev k).1).length ≤ (pgsP T.dev d c).length + 2
  ent : (gs.flatMap fun k => entP T'.dev d (pageD T'.dev k).1) = entP T.dev d c
theorem mostD_half {p : PageD} : 3 ≤ mostD p / 2 := by unfold mostD; split <;> omega
theorem Step.same {T T' : StD} (h : T.Step T') (hc : T.dev.calm) : T'.dev.n = T.dev.n ∧ T'.dev.off = T.dev.off := ⟨h.n, by rw [h.calm.off, hc.off]⟩
theorem layK_spec {T : StD} (hr : T.Run) (hc : T.dev.calm) {old : Int} {c : PageD} {R : List Int} {d : Nat} {lo hi : Option ByteArray} (ho : T.Owns (old :: (pgsP T.dev d c ++ R))) (h : okP T.dev d lo hi c) (h1 : 1 ≤ sizeD c) (h2 : sizeD c ≤ 2 * mostD c) :
    ((layK T old c).2.2.1 = 60 ∧ T.Lack (1 + (pgsP T.dev d c).length + R.length)) ∨ ((layK T old c).2.2.1 = 0 ∧ Laid T (layK T old c).2.2.2 d lo hi c R (layK T old c).1 (layK T old c).2.1) := by
  have hmem : old ∈ old :: (pgsP T.dev d c ++ R) := by simp
  have her : (old :: (pgsP T.dev d c ++ R)).erase old = pgsP T.dev d c ++ R := List.erase_cons_head ..
  by_cases hs : sizeD c ≤ mostD c
  · have e : layK T old c = ([(T.lay old c).1], [], (T.lay old c).2.1, (T.lay old c).2.2) := by unfold layK; rw [if_pos hs]
    rw [e]
    obtain ⟨k1, k2⟩ := okP_check hr hc ho h h1 hs (fun x hx => by simp [hx])
    rcases hr.lay_page hc ho (.inr hmem) k1 k2 with l0 | ⟨l0, l1, l2, l3, l4⟩
    · exact .inl ⟨l0.1, T, _, .refl hr hc, ho, l0.2, by simp; omega⟩
    · refine .inr ⟨l0, ?_⟩
      rw [her] at l2
      obtain ⟨⟨n, e1, T'⟩, hR⟩ : ∃ r, T.lay old c = r := ⟨_, rfl⟩
      rw [hR] at l1 l2 l3 l4
      simp only at l1 l2 l3 l4
      rw [hR]
      simp only
      have hn := List.nodup_cons.1 l2.nodup
      have hb : ∀ x ∈ pgsP T.dev d c ++ R, T'.dev.bytes x = T.dev.bytes x := fun x hx => l3 x (fun e => hn.1 (e ▸ hx))
      have hsm := Step.same l1 hc
      obtain ⟨c1, c2, c3⟩ := okP_congr hsm.1 hsm.2 d lo hi c (fun x hx => hb x (by simp [hx])) h
      have hk : ∀ i m, [n][i]? = some m → m = n ∧ i = 0 := fun i m hm => by
        cases i with
        | zero => simp at hm; exact ⟨hm.symm, rfl⟩
        | succ i => simp at hm
      have hkids : ∀ i m, [n][i]? = some m → pageD T'.dev m = ((pageD T'.dev m).1, 0) ∧ okP T'.dev d (loAt lo [] i) (hiAt hi [] i) (pageD T'.dev m).1 ∧ (pageD T'.dev m).1 = c := fun i m hm => by
        obtain ⟨rfl, rfl⟩ := hk i m hm
        rw [l4]
        exact ⟨rfl, c1, rfl⟩
      refine ⟨l1, ?_, fun x hx => hb x (by simp [hx]), List.Pairwise.nil, by simp, by simp, rfl, fun i m hm => ?_, fun hen => ⟨rfl, fun i m hm => ?_⟩, fun h0 => (by simp at h0), ?_, ?_⟩
      · simp only [List.flatMap_cons, List.flatMap_nil, List.append_nil, l4, c3, List.cons_append]
        exact l2
      · have := hkids i m hm
        exact ⟨this.1, by rw [this.2.2]; exact hs, by rw [this.2.2]; exact h1, this.2.1⟩
      · have := hkids i m hm
        exact ⟨this.1, by rw [this.2.2]; exact ⟨hen, hs⟩, this.2.1⟩
      · simp only [List.flatMap_cons, List.flatMap_nil, List.append_nil, l4, c3, List.length_cons]; omega
      · simp only [List.flatMap_cons, List.flatMap_nil, List.append_nil, l4, c2]
  · obtain ⟨a1, a2, a3, a4, a5, a6, a7, a8, a9, a10⟩ := okP_halves h (by omega) h2
    have hpa : ∀ x ∈ pgsP T.dev d (halfA c), x ∈ pgsP T.dev d c := fun x hx => by rw [← a4]; simp [hx]
    have hpb : ∀ x ∈ pgsP T.dev d (halfB c), x ∈ pgsP T.dev d c := fun x hx => by rw [← a4]; simp [hx]
    have sa : 1 ≤ sizeD (halfA c) := by have := a5.1; have := mostD_half (p := halfA c); omega
    have sb : 1 ≤ sizeD (halfB c) := by have := a6.1; have := mostD_half (p := halfB c); omega
    obtain ⟨k1, k2⟩ := okP_check hr hc ho a1 sa a5.2 (fun x hx => by simp [hpa x hx])
    rcases hr.lay_page hc ho (.inr hmem) k1 k2 with l0 | ⟨l0, l1, l2, l3, l4⟩
    · left
      have e : layK T old c = ([], [], (T.lay old (halfA c)).2.1, (T.lay old (halfA c)).2.2) := by unfold layK; rw [if_neg hs, if_pos (by rw [l0.1]; decide)]
      rw [e]; exact ⟨l0.1, T, _, .refl hr hc, ho, l0.2, by simp; omega⟩
    · rw [her] at l2
      have e : layK T old c = ([(T.lay old (halfA c)).1, ((T.lay old (halfA c)).2.2.lay 0 (halfB c)).1], [halfK c], ((T.lay old (halfA c)).2.2.lay 0 (halfB c)).2.1, ((T.lay old (halfA c)).2.2.lay 0 (halfB c)).2.2) := by
        unfold layK; rw [if_neg hs, if_neg (by simp [l0])]
      rw [e]
      obtain ⟨⟨n, e1, T1⟩, hR⟩ : ∃ r, T.lay old (halfA c) = r := ⟨_, rfl⟩
      rw [hR] at l1 l2 l3 l4
      simp only at l1 l2 l3 l4
      rw [hR]
      simp only
      have hn := List.nodup_cons.1 l2.nodup
      have hb1 : ∀ x ∈ pgsP T.dev d c ++ R, T1.dev.bytes x = T.dev.bytes x := fun x hx => l3 x (fun e => hn.1 (e ▸ hx))
      have hsm1 := Step.same l1 hc
      obtain ⟨b1, b2, b3⟩ := okP_congr hsm1.1 hsm1.2 d _ _ _ (fun x hx => hb1 x (by simp [hpb x hx])) a2
      obtain ⟨m1, m2⟩ := okP_check l1.run l1.calm l2 b1 sb a6.2 (fun x hx => by rw [b3] at hx; simp [hpb x hx])
      rcases l1.run.lay_page l1.calm l2 (.inl rfl) m1 m2 with r0 | ⟨r0, r1, r2, r3, r4⟩
      · exact .inl ⟨r0.1, T1, _, l1, l2, r0.2, by simp; omega⟩
      · refine .inr ⟨r0, ?_⟩
        have h0 : (0 : Int) ∉ n :: (pgsP T.dev d c ++ R) := fun hm => by have := (l2.inn 0 hm).1; omega
        rw [List.erase_of_not_mem h0] at r2
        obtain ⟨⟨m, e2, T2⟩, hR2⟩ : ∃ r, T1.lay 0 (halfB c) = r := ⟨_, rfl⟩
        rw [hR2] at r1 r2 r3 r4
        simp only at r1 r2 r3 r4
        rw [hR2]
        simp only
        have hm := List.nodup_cons.1 r2.nodup
        have hb2 : ∀ x ∈ n :: (pgsP T.dev d c ++ R), T2.dev.bytes x = T1.dev.bytes x := fun x hx => r3 x (fun e => hm.1 (e ▸ hx))
        have hst := l1.trans r1
        have hsm := Step.same hst hc
        have hsm2 := Step.same r1 l1.calm
        have hbb : ∀ x ∈ pgsP T.dev d c ++ R, T2.dev.bytes x = T.dev.bytes x := fun x hx => (hb2 x (List.mem_cons_of_mem _ hx)).trans (hb1 x hx)
        obtain ⟨c1, c2, c3⟩ := okP_congr hsm.1 hsm.2 d _ _ _ (fun x hx => hbb x (by simp [hpa x hx])) a1
        obtain ⟨d1, d2, d3⟩ := okP_congr hsm.1 hsm.2 d _ _ _ (fun x hx => hbb x (by simp [hpb x hx])) a2
        have pn : pageD T2.dev n = (halfA c, 0) := by rw [← l4]; exact pageD_congr hsm2.1 hsm2.2 (hb2 n (by simp))
        have hkids : ∀ i x, [n, m][i]? = some x → pageD T2.dev x = ((pageD T2.dev x).1, 0) ∧ Enough (pageD T2.dev x).1 ∧ 1 ≤ sizeD (pageD T2.dev x).1 ∧ okP T2.dev d (loAt lo [halfK c] i) (hiAt hi [halfK c] i) (pageD T2.dev x).1 := fun i x hx => by
          match i, hx with
          | 0, hx =>
            simp at hx
            subst hx
            rw [pn]
            exact ⟨rfl, a5, sa, c1⟩
          | 1, hx =>
            simp at hx
            subst hx
            rw [r4]
            exact ⟨rfl, a6, sb, d1⟩
          | i + 2, hx => simp at hx
        have hkk : okKids T2.dev d lo hi [halfK c] [n, m] := ⟨rfl, fun i x hx => by
          have := hkids i x hx
          exact ⟨this.1, this.2.1, this.2.2.2⟩⟩
        refine ⟨hst, ?_, fun x hx => hbb x (by simp [hx]), List.pairwise_singleton _ _, fun k hk => ?_, by simp, rfl, fun i x hx => ?_, fun _ => hkk, fun _ => hkk, ?_, ?_⟩
        · refine r2.perm ?_
          simp only [List.flatMap_cons, List.flatMap_nil, List.append_nil, pn, r4, c3, d3, ← a4, List.cons_append, List.append_assoc]
          exact (List.Perm.swap n m _).trans (List.Perm.cons n (List.perm_middle.symm))
        · rw [List.mem_singleton.1 hk]; exact ⟨a7, a8⟩
        · have := hkids i x hx
          exact ⟨this.1, this.2.1.2, this.2.2.1, this.2.2.2⟩
        · have hl := congrArg List.length a4
          rw [List.length_append] at hl
          simp only [List.flatMap_cons, List.flatMap_nil, List.append_nil, pn, r4, c3, d3, List.length_append, List.length_cons]; omega
        · simp only [List.flatMap_cons, List.flatMap_nil, List.append_nil, pn, r4, c2, d2, a3]
end Go.Proofs.YtgpohemcfgepeaaGreat

namespace Go.Proofs.YtgpohemcfgepeaaGreat
open Go.RowKit Go.MapKept
def subP (D : Dv) (d : Nat) (gs : List Int) : List Int := gs.flatMap fun k => k :: pgsP D d (pageD D k).1
def subE (D : Dv) (d : Nat) (gs : List Int) : List PairD := gs.flatMap fun k => entP D d (pageD D k).1
theorem sub_congr {D D' : Dv} (hn : D'.n = D.n) (ho : D'.off = D.off) {d : Nat} {gs : List Int} (hb : ∀ x ∈ subP D d gs, D'.bytes x = D.bytes x) (hk : ∀ k ∈ gs, ∃ lo hi, okP D d lo hi (pageD D k).1) :
    subP D' d gs = subP D d gs ∧ subE D' d gs = subE D d gs ∧ ∀ k ∈ gs, pageD D' k = pageD D k ∧ ∀ lo hi, okP D d lo hi (pageD D k).1 → okP D' d lo hi (pageD D' k).1 := by
  have hp : ∀ k ∈ gs, pageD D' k = pageD D k := fun k hk => pageD_congr hn ho (hb k (List.mem_flatMap.2 ⟨k, hk, by simp⟩))
  have hs : ∀ k ∈ gs, ∀ x ∈ pgsP D d (pageD D k).1, D'.bytes x = D.bytes x := fun k hk x hx => hb x (List.mem_flatMap.2 ⟨k, hk, List.mem_cons_of_mem _ hx⟩)
  refine ⟨flatMap_congr' fun k hkm => ?_, flatMap_congr' fun k hkm => ?_, fun k hkm => ⟨hp k hkm, fun lo hi h => ?_⟩⟩
  · obtain ⟨lo, hi, h⟩ := hk k hkm
    rw [hp k hkm, (okP_congr hn ho d lo hi _ (hs k hkm) h).2.2]
  · obtain ⟨lo, hi, h⟩ := hk k hkm
    rw [hp k hkm, (okP_congr hn ho d lo hi _ (hs k hkm) h).2.1]
  · rw [hp k hkm]; exact (okP_congr hn ho d lo hi _ (hs k hkm) h).1
theorem okOut.mem {D : Dv} {d : Nat} {lo hi : Option ByteArray} {ks : List ByteArray} {gs : List Int} {fr tt : Nat} (h : okOut D d lo hi ks gs fr tt) : ∀ k ∈ gs.take fr ++ gs.drop (tt + 1), ∃ lo hi, okP D d lo hi (pageD D k).1 := fun k hk => by
  rcases List.mem_append.1 hk with hk | hk
  · obtain ⟨i, hi, he⟩ := List.mem_take_iff_getElem.1 hk
    exact ⟨_, _, (h.2 i k (.inl (by omega)) (by rw [List.getElem?_eq_getElem (by omega), he])).2.2⟩
  · obtain ⟨i, hi, he⟩ := List.mem_drop_iff_getElem.1 hk
    exact ⟨_, _, (h.2 (tt + 1 + i) k (.inr (by omega)) (by rw [List.getElem?_eq_getElem (by omega), he])).2.2⟩
theorem okOut.congr {D D' : Dv} (hn : D'.n = D.n) (ho : D'.off = D.off) {d : Nat} {lo hi : Option ByteArray} {ks : List ByteArray} {gs : List Int} {fr tt : Nat} (h : okOut D d lo hi ks gs fr tt) (hb : ∀ x ∈ subP D d (gs.take fr ++ gs.drop (tt + 1)), D'.bytes x = D.bytes x) :
    okOut D' d lo hi ks gs fr tt := by
  obtain ⟨_, _, hc⟩ := sub_congr hn ho hb h.mem
  refine ⟨h.1, fun i n hin hg => ?_⟩
  have hl := (List.getElem?_eq_some_iff.1 hg).1
  have hm : n ∈ gs.take fr ++ gs.drop (tt + 1) := by
    rw [List.mem_append]
    rcases hin with hin | hin
    · left
      exact List.mem_of_getElem? (i := i) (by rw [List.getElem?_take_of_lt hin]; exact hg)
    · right
      exact List.mem_of_getElem? (i := i - (tt + 1)) (by rw [List.getElem?_drop, show tt + 1 + (i - (tt + 1)) = i by omega]; exact hg)
  have h3 := h.2 i n hin hg
  have hp := hc n hm
  rw [hp.1]
  refine ⟨h3.1, h3.2.1, ?_⟩
  have := hp.2 _ _ h3.2.2
  rwa [hp.1] at this
structure Bran (D : Dv) (d : Nat) (lo hi : Option ByteArray) (p : PageD) (fr tt : Nat) : Prop where
  is : p = branchPg p.keys p.kids
  rise : KSorted p.keys
  keys : ∀ k ∈ p.keys, (1 ≤ k.size ∧ k.size ≤ 48) ∧ InnS lo hi k
  out : okOut D d lo hi p.keys p.kids fr tt
  ft : fr ≤ tt
  tl : tt ≤ p.keys.length
theorem splice_sorted {lo hi : Option ByteArray} {ks ks' : List ByteArray} {fr tt : Nat} (h : KSorted ks) (h' : KSorted ks') (hi' : ∀ k ∈ ks', InnS (loAt lo ks fr) (hiAt hi ks tt) k) (h1 : fr ≤ tt) (h2 : tt ≤ ks.length) :
    KSorted (ks.take fr ++ ks' ++ ks.drop tt) := by
  have A : ∀ a ∈ ks.take fr, ∃ i, i < fr ∧ ks[i]? = some a := fun a ha => by
    obtain ⟨i, hi, he⟩ := List.mem_take_iff_getElem.1 ha
    exact ⟨i, by omega, by rw [List.getElem?_eq_getElem (by omega), he]⟩
  have B : ∀ b ∈ ks.drop tt, ∃ i, tt ≤ i ∧ ks[i]? = some b := fun b hb => by
    obtain ⟨i, hi, he⟩ := List.mem_drop_iff_getElem.1 hb
    exact ⟨tt + i, by omega, by rw [List.getElem?_eq_getElem (by omega), he]⟩
  unfold KSorted
  rw [List.pairwise_append, List.pairwise_append]
  refine ⟨⟨h.sublist (List.take_sublist _ _), h', fun a ha k hk => ?_⟩, h.sublist (List.drop_sublist _ _), fun a ha b hb => ?_⟩
  · obtain ⟨i, hi1, he⟩ := A a ha
    have hf : ks[fr - 1]? = some ks[fr - 1] := List.getElem?_eq_getElem (by omega)
    have hlt := (hi' k hk).1 ks[fr - 1] (by unfold loAt; rw [if_neg (by omega), hf])
    by_cases z : i = fr - 1
    · subst z
      rw [he] at hf
      rw [Option.some.inj hf]; exact hlt
    · exact kLt_trans (ksorted_lt h (by omega : i < fr - 1) he hf) hlt
  · obtain ⟨j, hj, hbe⟩ := B b hb
    rcases List.mem_append.1 ha with ha | ha
    · obtain ⟨i, hi1, he⟩ := A a ha
      exact ksorted_lt h (by omega : i < j) he hbe
    · have hjl := (List.getElem?_eq_some_iff.1 hbe).1
      have ht : ks[tt]? = some ks[tt] := List.getElem?_eq_getElem (by omega)
      have hlt := (hi' a ha).2 ks[tt] (by unfold hiAt; rw [ht])
      by_cases z : j = tt
      · subst z
        rw [hbe] at ht
        rw [Option.some.inj ht]; exact hlt
      · exact kLt_trans hlt (ksorted_lt h (by omega : tt < j) ht hbe)
theorem inn_between {lo hi : Option ByteArray} {ks : List ByteArray} (hk : ∀ k ∈ ks, InnS lo hi k) {fr tt : Nat} (h1 : fr ≤ tt) (h2 : tt ≤ ks.length) {k : ByteArray} (h : InnS (loAt lo ks fr) (hiAt hi ks tt) k) : InnS lo hi k := by
  refine ⟨fun l hl => ?_, fun x hx => ?_⟩
  · by_cases z : fr = 0
    · exact h.1 l (by unfold loAt; rw [if_pos z]; exact hl)
    · have hf : ks[fr - 1]? = some ks[fr - 1] := List.getElem?_eq_getElem (by omega)
      exact kLt_trans ((hk _ (List.mem_of_getElem? hf)).1 l hl) (h.1 _ (by unfold loAt; rw [if_neg z, hf]))
  · cases hq : ks[tt]? with
    | none => exact h.2 x (by unfold hiAt; rw [hq]; exact hx)
    | some y => exact kLt_trans (h.2 y (by unfold hiAt; rw [hq])) ((hk _ (List.mem_of_getElem? hq)).2 x hx)
structure PutB (T T' : StD) (d : Nat) (lo hi : Option ByteArray) (p p' : PageD) (fr tt : Nat) (c : PageD) (R : List Int) : Prop where
  step : T.Step T'
  ok : okP T'.dev (d + 1) lo hi p'
  ent : entP T'.dev (d + 1) p' = subE T.dev d (p.kids.take fr) ++ entP T.dev d c ++ subE T.dev d (p.kids.drop (tt + 1))
  owns : T'.Owns (pgsP T'.dev (d + 1) p' ++ R)
  rest : ∀ x ∈ R, T'.dev.bytes x = T.dev.bytes x
  cnt : (pgsP T'.dev (d + 1) p').length ≤ (subP T.dev d (p.kids.take fr ++ p.kids.drop (tt + 1))).length + (pgsP T.dev d c).length + 2
  size : sizeD p' + tt = sizeD p + fr ∨ sizeD p' + tt = sizeD p + fr + 1
theorem putK_spec {T : StD} (hr : T.Run) (hc : T.dev.calm) {p c : PageD} {i fr tt d : Nat} {lo hi : Option ByteArray} {R : List Int} (hb : Bran T.dev d lo hi p fr tt) (h : okP T.dev d (loAt lo p.keys fr) (hiAt hi p.keys tt) c) (h1 : mostD c / 2 ≤ sizeD c) (h2 : sizeD c ≤ 2 * mostD c)
    (ho : T.Owns (p.kids.getD i 0 :: (pgsP T.dev d c ++ (subP T.dev d (p.kids.take fr ++ p.kids.drop (tt + 1)) ++ R)))) :
    ((putK T p i fr tt c).2.1 = 60 ∧ T.Lack (1 + (pgsP T.dev d c).length + ((subP T.dev d (p.kids.take fr ++ p.kids.drop (tt + 1))).length + R.length))) ∨ ((putK T p i fr tt c).2.1 = 0 ∧ PutB T (putK T p i fr tt c).2.2 d lo hi p (putK T p i fr tt c).1 fr tt c R) := by
  rcases layK_spec hr hc ho h (by have := mostD_half (p := c); omega) h2 with l0 | ⟨l0, L⟩
  · left
    unfold putK
    rw [if_pos (by rw [l0.1]; decide)]; exact ⟨l0.1, l0.2.mono (by rw [List.length_append]; omega)⟩
  · right
    have e : putK T p i fr tt c = (branchPg (p.keys.take fr ++ (layK T (p.kids.getD i 0) c).2.1 ++ p.keys.drop tt) (p.kids.take fr ++ (layK T (p.kids.getD i 0) c).1 ++ p.kids.drop (tt + 1)), 0, (layK T (p.kids.getD i 0) c).2.2.2) := by
      unfold putK; rw [if_neg (fun hne => hne l0)]
    rw [e]
    obtain ⟨⟨gs', ks', e', T'⟩, hR⟩ : ∃ r, layK T (p.kids.getD i 0) c = r := ⟨_, rfl⟩
    rw [hR] at L ⊢
    simp only at L ⊢
    have hsm := Step.same L.step hc
    have hrest : ∀ x ∈ subP T.dev d (p.kids.take fr ++ p.kids.drop (tt + 1)), T'.dev.bytes x = T.dev.bytes x := fun x hx => L.rest x (List.mem_append.2 (.inl hx))
    obtain ⟨s1, s2, s3⟩ := sub_congr hsm.1 hsm.2 hrest hb.out.mem
    have hk := okKids.splice (hb.out.congr hsm.1 hsm.2 hrest) (L.enough h1) hb.ft hb.tl
    have e1 : subP T.dev d (p.kids.take fr ++ p.kids.drop (tt + 1)) = subP T.dev d (p.kids.take fr) ++ subP T.dev d (p.kids.drop (tt + 1)) := List.flatMap_append
    have e2 : subP T'.dev d (p.kids.take fr ++ p.kids.drop (tt + 1)) = subP T'.dev d (p.kids.take fr) ++ subP T'.dev d (p.kids.drop (tt + 1)) := List.flatMap_append
    have hT : ∀ k ∈ p.kids.take fr, ∃ lo hi, okP T.dev d lo hi (pageD T.dev k).1 := fun k hk => hb.out.mem k (List.mem_append.2 (.inl hk))
    have hD : ∀ k ∈ p.kids.drop (tt + 1), ∃ lo hi, okP T.dev d lo hi (pageD T.dev k).1 := fun k hk => hb.out.mem k (List.mem_append.2 (.inr hk))
    obtain ⟨t1, t2, _⟩ := sub_congr (gs := p.kids.take fr) hsm.1 hsm.2 (fun x hx => hrest x (by rw [e1]; simp [hx])) hT
    obtain ⟨u1, u2, _⟩ := sub_congr (gs := p.kids.drop (tt + 1)) hsm.1 hsm.2 (fun x hx => hrest x (by rw [e1]; simp [hx])) hD
    refine ⟨trivial, L.step, okP_branch (splice_sorted hb.rise L.rise (fun k hk => (L.keys k hk).2) hb.ft hb.tl) (fun k hk => ?_) hk, ?_, ?_, fun x hx => L.rest x (List.mem_append.2 (.inr hx)), ?_, ?_⟩
    · rcases List.mem_append.1 hk with hk | hk
      · rcases List.mem_append.1 hk with hk | hk
        · exact hb.keys k (List.mem_of_mem_take hk)
        · exact ⟨(L.keys k hk).1, inn_between (fun k hk => (hb.keys k hk).2) hb.ft hb.tl (L.keys k hk).2⟩
      · exact hb.keys k (List.mem_of_mem_drop hk)
    · show subE T'.dev d (p.kids.take fr ++ gs' ++ p.kids.drop (tt + 1)) = _
      unfold subE at t2 u2 ⊢
      rw [List.flatMap_append, List.flatMap_append, t2, u2, L.ent]
    · refine L.owns.perm ?_
      show List.Perm (subP T'.dev d gs' ++ (subP T.dev d (p.kids.take fr ++ p.kids.drop (tt + 1)) ++ R)) (subP T'.dev d (p.kids.take fr ++ gs' ++ p.kids.drop (tt + 1)) ++ R)
      have e3 : subP T'.dev d (p.kids.take fr ++ gs' ++ p.kids.drop (tt + 1)) = subP T.dev d (p.kids.take fr) ++ subP T'.dev d gs' ++ subP T.dev d (p.kids.drop (tt + 1)) := by
        unfold subP at t1 u1 ⊢
        rw [List.flatMap_append, List.flatMap_append, t1, u1]
      rw [e3, e1]
      simp only [List.append_assoc]
      rw [← List.append_assoc, ← List.append_assoc (subP T.dev d (p.kids.take fr))]
      exact List.Perm.append_right _ List.perm_append_comm
    · have hcn := L.cnt
      show (subP T'.dev d (p.kids.take fr ++ gs' ++ p.kids.drop (tt + 1))).length ≤ _
      have e3 : subP T'.dev d (p.kids.take fr ++ gs' ++ p.kids.drop (tt + 1)) = subP T.dev d (p.kids.take fr) ++ subP T'.dev d gs' ++ subP T.dev d (p.kids.drop (tt + 1)) := by
        unfold subP at t1 u1 ⊢
        rw [List.flatMap_append, List.flatMap_append, t1, u1]
      have hcn' : (subP T'.dev d gs').length ≤ (pgsP T.dev d c).length + 2 := hcn
      rw [e3, e1]
      simp only [List.length_append]
      omega
    · have hpl : sizeD p = p.keys.length := by rw [hb.is]; show 0 + _ = _; omega
      rw [hpl]
      show 0 + (p.keys.take fr ++ ks' ++ p.keys.drop tt).length + tt = _ ∨ 0 + (p.keys.take fr ++ ks' ++ p.keys.drop tt).length + tt = _
      have h3 := L.one
      have h4 := hb.ft
      have h5 := hb.tl
      simp only [List.length_append, List.length_take, List.length_drop]
      omega
end Go.Proofs.YtgpohemcfgepeaaGreat
