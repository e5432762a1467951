/- maps.Copy at a device's maps, and Sync. -/
import Derived.Test.YtgockpichhgijaaDevE
namespace Go.Proofs.Ytgockpichhgijaa
open Go.RowKit Go.MapKept

def joinM (c l : Int → Option (List UInt8)) : Int → Option (List UInt8) := fun k => match c k with | some x => some x | none => l k

/-- How far maps.Copy has come: of the keys that have come the copy holds what the source does, of others what it held. -/
def Copied (w : World) (S : List Nat) (ml : Nat) (es : Array MapEntry) (seen : Array Nat) (c l : Int → Option (List UInt8)) : Prop :=
  ∃ g, BM S w ml g ∧ (∀ k, (∃ x ∈ es.toList, x.born ∈ seen.toList ∧ x.key = .int .i64 k) → g k = c k) ∧
    (∀ k, (∀ x ∈ es.toList, x.born ∈ seen.toList → x.key ≠ .int .i64 k) → g k = l k)

theorem Copied.end {w : World} {S : List Nat} {ml : Nat} {es : Array MapEntry} {seen : Array Nat} {c l : Int → Option (List UInt8)} {f : Int → Option Value}
    (h : Copied w S ml es seen c l) (hf : ∀ k v, f k = some v ↔ ∃ x ∈ es.toList, x.key = .int .i64 k ∧ x.val = v)
    (hc : ∀ k, (c k = none → f k = none) ∧ ∀ x, c k = some x → ∃ v, f k = some v ∧ Bytes S w v x) (hall : ∀ x ∈ es.toList, x.born ∈ seen.toList) : BM S w ml (joinM c l) := by
  obtain ⟨g, hg, h1, h2⟩ := h
  have : g = joinM c l := by
    funext k
    unfold joinM
    cases hk : c k with
    | some x =>
      obtain ⟨v, hv, _⟩ := (hc k).2 x hk
      obtain ⟨e, he, hek, _⟩ := (hf k v).1 hv
      rw [h1 k ⟨e, he, hall e he, hek⟩, hk]
    | none =>
      refine h2 k (fun e he _ hek => ?_)
      have := (hf k e.val).2 ⟨e, he, hek, rfl⟩
      rw [(hc k).1 hk] at this
      cases this
  rw [← this]; exact hg

theorem Copied.step {w' : World} {S : List Nat} {ml : Nat} {es : Array MapEntry} {clock : Nat} {seen : Array Nat} {c l : Int → Option (List UInt8)} {g : Int → Option (List UInt8)} {e : MapEntry} {k : Int} {x : List UInt8}
    (hs : Stamped es clock) (h1 : ∀ k, (∃ x ∈ es.toList, x.born ∈ seen.toList ∧ x.key = .int .i64 k) → g k = c k)
    (h2 : ∀ k, (∀ x ∈ es.toList, x.born ∈ seen.toList → x.key ≠ .int .i64 k) → g k = l k) (he : e ∈ es.toList) (hk : e.key = .int .i64 k) (hx : c k = some x)
    (hg : BM S w' ml (upd g k (some x))) : Copied w' S ml es (seen.push e.born) c l := by
  refine ⟨_, hg, fun j hj => ?_, fun j hj => ?_⟩
  · by_cases e1 : j = k
    · subst e1; rw [upd_same, hx]
    · rw [upd_ne _ _ e1]
      obtain ⟨y, hy, hyb, hyk⟩ := hj
      refine h1 j ⟨y, hy, ?_, hyk⟩
      simp only [Array.toList_push, List.mem_append, List.mem_singleton] at hyb
      rcases hyb with hyb | hyb
      · exact hyb
      · have hb := hs.2.1
        have : y = e := by
          obtain ⟨i, hi⟩ := List.mem_iff_getElem?.1 hy
          obtain ⟨i', hi'⟩ := List.mem_iff_getElem?.1 he
          have hnd := hs.2.1
          rw [List.Nodup, List.pairwise_iff_getElem] at hnd
          obtain ⟨hl, hv⟩ := List.getElem?_eq_some_iff.1 hi
          obtain ⟨hl', hv'⟩ := List.getElem?_eq_some_iff.1 hi'
          rcases Nat.lt_trichotomy i i' with hlt | rfl | hlt
          · exact (hnd i i' (by simpa using hl) (by simpa using hl') hlt (by rw [List.getElem_map, List.getElem_map, hv, hv', hyb])).elim
          · rw [← hv, ← hv']
          · exact (hnd i' i (by simpa using hl') (by simpa using hl) hlt (by rw [List.getElem_map, List.getElem_map, hv, hv', hyb])).elim
        subst this
        rw [hk] at hyk
        exact absurd (by injection hyk with _ h; exact h.symm) e1
  · have hne : j ≠ k := by
      rintro rfl
      exact hj e he (by simp) hk
    rw [upd_ne _ _ hne]
    exact h2 j (fun y hy hyb => hj y hy (by simp [hyb]))

theorem IterG.kept {w w' : World} {it r : Nat} {es : Array MapEntry} {clock : Nat} {seen : Array Nat} {S : List Nat} (h : IterG w it r es clock seen) (hf : Fr S w w') (h1 : it ∉ S) (h2 : r ∉ S) : IterG w' it r es clock seen := by
  obtain ⟨since, c0, hit, hb, rest⟩ := h
  exact ⟨since, c0, hf.heap hit h1, hf.heap hb h2, rest⟩

set_option maxRecDepth 100000 in
set_option maxHeartbeats 1000000 in
theorem maps_copy_k {b ml mc : Nat} {D : Dv} (w : World) (h : DevAt w b ml mc D) :
    Calls Try.prog 31 #[.map (some ml), .map (some mc)] w fun e w' => e = .returned (.tuple #[]) ∧ DevAt w' b ml mc { D with last := joinM D.cache D.last } ∧ Fr [ml] w w' := by
  have hlt := h.lt
  have hne := h.ne
  obtain ⟨f, ⟨es, clock, hb, hs, hks, hf⟩, hc⟩ := h.cacheM
  obtain ⟨hrg, hit0⟩ := IterG.start (P := Try.prog) Try.underlying58 hb hs
  have hfr0 : Fr [] w (w.alloc (.mapIter (some mc) clock #[] clock)) := Fr.alloc1 _ _
  have hstart : Copied (w.alloc (.mapIter (some mc) clock #[] clock)) [w.heap.size, b, ml, mc] ml es #[] D.cache D.last :=
    ⟨D.last, (h.lastM.more (S' := [w.heap.size, b, ml, mc]) (by simp)).kept hfr0.nil (hfr0.block _ hlt.2.1 (by simp)), by simp, by simp⟩
  have H0 := Lib.hid (And.intro hit0 (And.intro hfr0 hstart))
  have HS := Lib.hid hs
  have HK := Lib.hid (And.intro hks (And.intro hf hc))
  have HD := Lib.hid h
  have HB := Lib.hid hb
  clear hit0 hfr0 hstart hs hks hf hc h hb
  go_enter Try.func31, Try.ntmps31
  go_wp2_with fail
  go_loopw [4] (fun _ wr => ∃ seen, IterG wr w.heap.size mc es clock seen ∧ Fr [ml] w wr ∧ Copied wr [w.heap.size, b, ml, mc] ml es seen D.cache D.last ∧ w.heap.size < wr.heap.size)
    (fun _ wr => match wr.heap[w.heap.size]? with | some (.mapIter _ _ seen _) => (leftOf es seen).size | _ => 0)
  case atStart =>
    exact ⟨#[], H0.out.1, H0.out.2.1.nil, H0.out.2.2, by simp⟩
  case round =>
    obtain ⟨seen, hit, hfr, hcp, hsz⟩ := hrel
    have hm0 : (match wr.heap[w.heap.size]? with | some (.mapIter _ _ seen _) => (leftOf es seen).size | _ => 0) = (leftOf es seen).size := by
      obtain ⟨_, _, hi, _⟩ := hit; rw [hi]
    rcases IterG.step (P := Try.prog) hit with ⟨hn, hall⟩ | ⟨e, he, hnew, w1, hn, hen, hit1, hfr1, hs1, hless⟩
    · have hfin : DevAt wr b ml mc { D with last := joinM D.cache D.last } := by
        have hfS : Fr [w.heap.size, b, ml, mc] w wr := hfr.mono (by simp)
        have hbm := hcp.end HK.out.2.1 (fun k => ⟨(HK.out.2.2 k).1, fun x hx => by obtain ⟨v, hv, hbv⟩ := (HK.out.2.2 k).2 x hx; exact ⟨v, hv, (hbv.more (S' := [w.heap.size, b, ml, mc]) (by simp)).kept hfS⟩⟩) hall
        refine HD.out.lastIs hfr (hbm.more (by simp)) (fun k l hk => ?_)
        unfold joinM at hk
        cases hck : D.cache k with
        | some x => rw [hck] at hk; cases hk; exact HD.out.fine.keysC k _ hck
        | none => rw [hck] at hk; exact HD.out.fine.keysL k _ hk
      have HF := Lib.hid (And.intro hfin hfr)
      clear hfin hfr hall hcp hit hm0
      go_wp2
      go_end0
      exact ⟨rfl, HF.out⟩
    · obtain ⟨k, hk⟩ := HK.out.1 e he
      obtain ⟨g, hg, hg1, hg2⟩ := hcp
      have hfk : f k = some e.val := (HK.out.2.1 k _).2 ⟨e, he, hk, rfl⟩
      obtain ⟨x, hx, hxv⟩ : ∃ x, D.cache k = some x ∧ Bytes [b, ml, mc] w e.val x := by
        cases hck : D.cache k with
        | none => rw [(HK.out.2.2 k).1 hck] at hfk; cases hfk
        | some x =>
          obtain ⟨v, hv, hbv⟩ := (HK.out.2.2 k).2 x hck
          rw [hfk] at hv; cases hv
          exact ⟨x, rfl, hbv⟩
      have hf1 : Fr [ml] w w1 := hfr.andThen hfr1 (by simp)
      have hg' : BM [w.heap.size, b, ml, mc] w1 ml g := hg.kept (hfr1.mono (by simp)) (hfr1.block _ hg.lt (by simp; omega))
      have hxv1 : Bytes [w.heap.size, b, ml, mc] w1 e.val x := (hxv.more (S' := [w.heap.size, b, ml, mc]) (by simp)).kept (hf1.mono (by simp))
      obtain ⟨w2, hmu, hbm2, hf2, hs2⟩ := hg'.put (by simp) k hxv1
      have hit2 := hit1.kept hf2 (by simp; omega) (by simp; omega)
      have hm2 : (match w2.heap[w.heap.size]? with | some (.mapIter _ _ seen _) => (leftOf es seen).size | _ => 0) = (leftOf es (seen.push e.born)).size := by
        obtain ⟨_, _, hi, _⟩ := hit2; rw [hi]
      have hfin : IterG w2 w.heap.size mc es clock (seen.push e.born) ∧ Fr [ml] w w2 ∧ Copied w2 [w.heap.size, b, ml, mc] ml es (seen.push e.born) D.cache D.last ∧ w.heap.size < w2.heap.size :=
        ⟨hit2, hf1.trans hf2, Copied.step HS.out hg1 hg2 he hk hx hbm2, by omega⟩
      have HF := Lib.hid hfin
      have HM := Lib.hid (And.intro hm0 (And.intro hm2 hless))
      rw [hk] at hn hen
      clear hfin hm0 hm2 hless hit2 hbm2 hf2 hs2 hxv1 hg' hf1 hx hxv hfk hg hg1 hg2 hk he hnew hit hfr hsz hit1 hfr1 hs1
      go_wp2
      go_roundw
      case rel => exact ⟨_, HF.out⟩
      case measure => rw [HM.out.1, HM.out.2.1]; exact HM.out.2.2
end Go.Proofs.Ytgockpichhgijaa
