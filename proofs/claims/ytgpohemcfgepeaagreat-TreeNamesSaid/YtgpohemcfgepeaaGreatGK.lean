/- a part. -/
import Derived.Test.YtgpohemcfgepeaaGreatG8
import Derived.Test.YtgpohemcfgepeaaGreatG7
namespace Go.Proofs.YtgpohemcfgepeaaGreat
open Go.RowKit Go.MapKept
theorem MapG.entry {κ : Type} [DecidableEq κ] {d : TypeDesc} {enc : κ → Value} {w : World} {r : Nat} {f : κ → Option Value} {P : Program} (K : KE d enc) {t kt et : TypeId} (ht : P.underlying t = some (.map kt et)) (hk : P.underlying kt = some d) (h : MapG enc w r f) (k : κ) {z : Value} (hz : ∀ w, (zeroValue et).run P w = .ok z w) :
    ∃ (v0 : Value) (bn : Int) (w1 : World), (Instr.mapEntry t (.map (some r)) (enc k)).run P w = .ok (.tuple #[v0, .int .i64 bn]) w1 ∧ Fr [r] w w1 ∧ w1.heap.size = w.heap.size ∧
      ∀ w2 val, w2.heap[r]? = w1.heap[r]? → ∃ w3, (Instr.entryStore t (.map (some r)) (.int .i64 bn) val).run P w2 = .ok () w3 ∧ MapG enc w3 r (upd f k (some val)) ∧ Fr [r] w2 w3 ∧ w3.heap.size = w2.heap.size := by
  obtain ⟨es, clock, hb, hs, hks, hf⟩ := h
  have hks' : ∀ x ∈ es.toList, IsKey d x.key := fun x hx => by obtain ⟨k', e⟩ := hks x hx; rw [e]; exact K.key k'
  rcases findNow_spec (K.key k) es.toList 0 hks' with ⟨h1, h2⟩ | ⟨j, e, h1, h2, h3⟩
  · refine ⟨z, (clock : Int), _, by simp [Instr.mapEntry, goInt, run_underlying ht, MapKept.run_getObj_map hb, run_checkKey hk (K.key k), run_findKey hk h1, run_setObj_map _ hb, hz, Result.andThen]; rfl, Fr.put _ _ _, by simp, ?_⟩
    intro w2 val hw2
    rw [(heap_set hb).1] at hw2
    have hfi : (es.push { key := enc k, val := z, born := clock }).findIdx? (fun e => (e.born : Int) == (clock : Int)) = some es.size := by
      rw [Array.findIdx?_push]
      have hno : es.findIdx? (fun e => (e.born : Int) == (clock : Int)) = none := by
        rw [Array.findIdx?_eq_none_iff]
        intro x hx
        have := hs.1 x (by simpa using hx)
        simp; omega
      rw [hno]
      simp
    refine ⟨_, by simp [Instr.entryStore, MapKept.run_getObj_map hw2, asInt, asIntOf, hfi, run_setObj_map _ hw2, Result.andThen]; rfl, ?_, Fr.put _ _ _, by simp⟩
    have hpm : (es.push { key := enc k, val := z, born := clock }).modify es.size (fun e => { e with val := val }) = es.push { key := enc k, val := val, born := clock } := by
      apply Array.ext'
      apply List.ext_getElem?
      intro i
      simp only [Array.getElem?_toList, Array.getElem?_modify, Array.getElem?_push]
      by_cases hi : es.size = i
      · subst hi; simp
      · rw [if_neg hi]
        by_cases hi2 : i = es.size
        · exact absurd hi2.symm hi
        · simp [hi2]
    refine ⟨_, _, (heap_set hw2).1, by rw [hpm]; exact stamped_push hs h2, ?_, ?_⟩
    · intro x hx
      rw [hpm] at hx
      simp only [Array.toList_push, List.mem_append, List.mem_singleton] at hx
      rcases hx with hx | rfl
      · exact hks x hx
      · exact ⟨k, rfl⟩
    · intro k' v'
      rw [hpm]
      by_cases hkk : k' = k
      · subst hkk
        simp only [upd_same, Array.toList_push, List.mem_append, List.mem_singleton]
        constructor
        · intro e; cases e; exact ⟨_, .inr rfl, rfl, rfl⟩
        · rintro ⟨x, hx | rfl, hxk, hxv⟩
          · exact absurd hxk (h2 x hx)
          · rw [← hxv]
      · rw [upd_ne _ _ hkk, hf]
        simp only [Array.toList_push, List.mem_append, List.mem_singleton]
        constructor
        · rintro ⟨x, hx, e1, e2⟩; exact ⟨x, .inl hx, e1, e2⟩
        · rintro ⟨x, hx | rfl, e1, e2⟩
          · exact ⟨x, hx, e1, e2⟩
          · exact absurd (K.inj _ _ e1).symm hkk
  · have hj : es[j]? = some e := by simpa using h2
    have hjl : j < es.size := (Array.getElem?_eq_some_iff.1 hj).1
    refine ⟨e.val, (e.born : Int), _, by simp [Instr.mapEntry, goInt, run_underlying ht, MapKept.run_getObj_map hb, run_checkKey hk (K.key k), run_findKey hk h1, hj, h3, run_keyThatStays (K.key k), run_setObj_map _ hb, Result.andThen]; rfl, Fr.put _ _ _, by simp, ?_⟩
    intro w2 val hw2
    rw [(heap_set hb).1] at hw2
    have hsm : Stamped (es.modify j fun e => { e with key := enc k }) clock := stamped_modify hs _ _ (fun _ _ => rfl) (fun e' _ he' => by rw [hj] at he'; cases he'; exact h3.symm)
    have hej : (es.modify j fun e => { e with key := enc k })[j]? = some { e with key := enc k } := by rw [Array.getElem?_modify, if_pos rfl, hj]; rfl
    have hfi : (es.modify j fun e => { e with key := enc k }).findIdx? (fun x => (x.born : Int) == (e.born : Int)) = some j := by
      rw [Array.findIdx?_eq_some_iff_getElem]
      have hjl' : j < (es.modify j fun e => { e with key := enc k }).size := by simpa using hjl
      refine ⟨hjl', ?_, fun i hi => ?_⟩
      · have := (Array.getElem?_eq_some_iff.1 hej).2
        rw [this]; simp
      · have hil : i < (es.modify j fun e => { e with key := enc k }).size := by omega
        have hnd := hsm.2.1
        unfold List.Nodup at hnd
        rw [List.pairwise_iff_getElem] at hnd
        simp only [Bool.not_eq_true, beq_eq_false_iff_ne, ne_eq]
        intro hb2
        refine hnd i j (by simpa using hil) (by simpa using hjl') hi ?_
        simp only [List.getElem_map, Array.getElem_toList]
        have := (Array.getElem?_eq_some_iff.1 hej).2
        rw [this]
        simp only
        exact_mod_cast hb2
    have hmm : (es.modify j fun e => { e with key := enc k }).modify j (fun e => { e with val := val }) = es.modify j fun e => { e with key := enc k, val := val } := by
      apply Array.ext'
      apply List.ext_getElem?
      intro i
      simp only [Array.getElem?_toList, Array.getElem?_modify]
      by_cases hi : j = i
      · subst hi; simp [hj]
      · simp [hi]
    have hb4 : ({ w2 with heap := w2.heap.setIfInBounds r (.map es clock) } : World).heap[r]? = some (.map es clock) := by
      have := lt_of_heap hw2
      simp [this]
    obtain ⟨w3, hrun, hmap, hfr, hsz⟩ := MapG.update (P := P) K ht hk (w := { w2 with heap := w2.heap.setIfInBounds r (.map es clock) }) (r := r) (f := f) ⟨es, clock, hb4, hs, hks, hf⟩ k val
    refine ⟨_, by simp [Instr.entryStore, MapKept.run_getObj_map hw2, asInt, asIntOf, hfi, run_setObj_map _ hw2, Result.andThen]; rfl, ?_, Fr.put _ _ _, by simp⟩
    rw [hmm]
    have hrun2 : (Instr.mapUpdate t (.map (some r)) (enc k) val).run P { w2 with heap := w2.heap.setIfInBounds r (.map es clock) } = .ok () { w2 with heap := (w2.heap.setIfInBounds r (.map es clock)).setIfInBounds r (.map (es.modify j fun e => { e with key := enc k, val := val }) clock) } := by
      simp [Instr.mapUpdate, run_underlying ht, MapKept.run_getObj_map hb4, run_checkKey hk (K.key k), run_findKey hk h1, hj, h3, run_keyThatStays (K.key k), run_setObj_map _ hb4, Result.andThen]
    rw [hrun2] at hrun
    simp only [Result.ok.injEq, true_and] at hrun
    subst hrun
    obtain ⟨es', c', hb', rest⟩ := hmap
    refine ⟨es', c', ?_, rest⟩
    simpa using hb'
end Go.Proofs.YtgpohemcfgepeaaGreat

namespace Go.Proofs.YtgpohemcfgepeaaGreat
open Go.RowKit Go.MapKept
structure StD where
  dev : Dv
  super : PageD
  lists : List Int
  base : PoolD
  pool : PoolD
  fresh : Int → Bool
def stL (b fm : Nat) (p : PageD) (pv kv dv gv lv : Value) (bh : Int) (bf bl : Value) (ph : Int) (pf pl : Value) : List Value :=
  [.pointer (some ⟨b, 0, none⟩), .int .i64 p.kind, pv, kv, dv, gv, .int .i64 p.next, .int .u64 p.epoch, .int .i64 p.root, .int .i64 p.depth, .int .i64 p.count, .int .i64 p.high, lv, .int .i64 bh, bf, bl, .int .i64 ph, pf, pl, .map (some fm)]
def freshF (g : Int → Bool) : Int → Option Value := fun k => if g k then some (.int .i64 1) else none
structure StoV (w : World) (S : List Nat) (T : StD) (pv kv dv gv lv bf bl pf pl : Value) : Prop where
  super : PageIn S w T.super pv kv dv gv
  lists : Ints S w lv T.lists
  bfree : Ints S w bf T.base.free
  blimbo : Ints S w bl T.base.limbo
  pfree : Ints S w pf T.pool.free
  plimbo : Ints S w pl T.pool.limbo
structure StoAt (w : World) (sb b ml mc fm : Nat) (T : StD) : Prop where
  blk : ∃ pv kv dv gv lv bf bl pf pl, w.heap[sb]? = some (.cells (stL b fm T.super pv kv dv gv lv T.base.high bf bl T.pool.high pf pl).toArray 113 (0, 0)) ∧ StoV w [sb, fm, b, ml, mc] T pv kv dv gv lv bf bl pf pl
  map : MapG (Value.int .i64) w fm (freshF T.fresh)
  dev : DevAt w b ml mc T.dev
  ne : fm ≠ ml ∧ fm ≠ mc
theorem PageIn.more {S S' : List Nat} {w : World} {p : PageD} {pv kv dv gv : Value} (h : PageIn S w p pv kv dv gv) (hs : ∀ x, x ∈ S' → x ∈ S ∨ w.heap.size ≤ x) : PageIn S' w p pv kv dv gv :=
  ⟨Slc.more h.pairs hs, Slc.more h.keys hs, Slc.more h.kids hs, Slc.more h.pages hs⟩
theorem StoV.kept {w w' : World} {S : List Nat} {T : StD} {pv kv dv gv lv bf bl pf pl : Value} (h : StoV w S T pv kv dv gv lv bf bl pf pl) (hf : Fr S w w') : StoV w' S T pv kv dv gv lv bf bl pf pl :=
  ⟨h.super.kept hf, h.lists.kept hf, h.bfree.kept hf, h.blimbo.kept hf, h.pfree.kept hf, h.plimbo.kept hf⟩
theorem StoV.more {w : World} {S S' : List Nat} {T : StD} {pv kv dv gv lv bf bl pf pl : Value} (h : StoV w S T pv kv dv gv lv bf bl pf pl) (hs : ∀ x, x ∈ S' → x ∈ S ∨ w.heap.size ≤ x) : StoV w S' T pv kv dv gv lv bf bl pf pl :=
  ⟨h.super.more hs, h.lists.more hs, h.bfree.more hs, h.blimbo.more hs, h.pfree.more hs, h.plimbo.more hs⟩
def NoByte (w : World) (x : Nat) : Prop := ∀ i u, w.cell? ⟨x, i, none⟩ ≠ some (byteV u)
theorem Bytes.apart {S R : List Nat} {w w' : World} {v : Value} {l : List UInt8} (h : Bytes S w v l) (hf : Fr R w w') (hR : ∀ x ∈ R, NoByte w x) : Bytes S w' v l := by
  rcases h with h | ⟨B, off, cap, hv, hc, hs, hcs⟩
  · exact .inl h
  · refine .inr ⟨B, off, cap, hv, hc, hs, fun i v hv => ?_⟩
    refine hf.cellSome (hcs i v hv) (fun hm => ?_)
    have := hcs i v hv
    obtain ⟨u, hu, rfl⟩ : ∃ u, l[i]? = some u ∧ byteV u = v := by
      rw [List.getElem?_map] at hv
      cases hq : l[i]? with
      | none => rw [hq] at hv; cases hv
      | some u => rw [hq] at hv; exact ⟨u, rfl, by simpa using hv⟩
    exact hR B hm (off + i) u this
theorem DevAt.apart {R : List Nat} {w w' : World} {b ml mc : Nat} {D : Dv} (h : DevAt w b ml mc D) (hf : Fr R w w') (hR : ∀ x ∈ R, NoByte w x) (h1 : b ∉ R) (h2 : ml ∉ R) (h3 : mc ∉ R) : DevAt w' b ml mc D := by
  refine ⟨hf.heap h.blk h1, ?_, ?_, h.ne, h.fine⟩
  · obtain ⟨f, ⟨es, clock, hb, rest⟩, hg⟩ := h.lastM
    exact ⟨f, ⟨es, clock, hf.heap hb h2, rest⟩, fun k => ⟨(hg k).1, fun l hl => by obtain ⟨v, hv, hb⟩ := (hg k).2 l hl; exact ⟨v, hv, hb.apart hf hR⟩⟩⟩
  · obtain ⟨f, ⟨es, clock, hb, rest⟩, hg⟩ := h.cacheM
    exact ⟨f, ⟨es, clock, hf.heap hb h3, rest⟩, fun k => ⟨(hg k).1, fun l hl => by obtain ⟨v, hv, hb⟩ := (hg k).2 l hl; exact ⟨v, hv, hb.apart hf hR⟩⟩⟩
theorem noByte_map {w : World} {x : Nat} {es : Array MapEntry} {c : Nat} (h : w.heap[x]? = some (.map es c)) : NoByte w x := fun i u he => by
  simp [World.cell?, h] at he
theorem StoV.sl {w : World} {S : List Nat} {T : StD} {pv kv dv gv lv bf bl pf pl : Value} (h : StoV w S T pv kv dv gv lv bf bl pf pl) :
    (∃ a c, pv = .slice a T.super.pairs.length c) ∧ (∃ a c, kv = .slice a T.super.keys.length c) ∧ (∃ a c, dv = .slice a T.super.kids.length c) ∧ (∃ a c, gv = .slice a T.super.pages.length c) ∧ (∃ a c, lv = .slice a T.lists.length c) ∧
    (∃ a c, bf = .slice a T.base.free.length c) ∧ (∃ a c, bl = .slice a T.base.limbo.length c) ∧ (∃ a c, pf = .slice a T.pool.free.length c) ∧ (∃ a c, pl = .slice a T.pool.limbo.length c) := by
  have f : ∀ {v n cs}, Slc S w v n cs → ∃ a c, v = .slice a n c := fun h => by obtain ⟨a, c, h, _⟩ := Slc.form h; exact ⟨a, c, h⟩
  exact ⟨f h.super.pairs, f h.super.keys, f h.super.kids, f h.super.pages, f h.lists, f h.bfree, f h.blimbo, f h.pfree, f h.plimbo⟩
theorem noByte_sto {w : World} {sb b fm : Nat} {p : PageD} {pv kv dv gv lv : Value} {bh : Int} {bf bl : Value} {ph : Int} {pf pl : Value} {T : TypeId} (h : w.heap[sb]? = some (.cells (stL b fm p pv kv dv gv lv bh bf bl ph pf pl).toArray T (0, 0)))
    (hs : ∀ v ∈ [pv, kv, dv, gv, lv, bf, bl, pf, pl], ∃ a n c, v = .slice a n c) : NoByte w sb := fun i u he => by
  rw [blk_cell h, List.getElem?_toArray] at he
  have hm := List.mem_of_getElem? he
  unfold stL at hm
  simp only [List.mem_cons, List.not_mem_nil, or_false, forall_eq_or_imp, forall_eq] at hm hs
  obtain ⟨⟨a1, n1, k1, e1⟩, ⟨a2, n2, k2, e2⟩, ⟨a3, n3, k3, e3⟩, ⟨a4, n4, k4, e4⟩, ⟨a5, n5, k5, e5⟩, ⟨a6, n6, k6, e6⟩, ⟨a7, n7, k7, e7⟩, ⟨a8, n8, k8, e8⟩, ⟨a9, n9, k9, e9⟩⟩ := hs
  subst e1 e2 e3 e4 e5 e6 e7 e8 e9
  simp [byteV] at hm
theorem StoAt.noByte {w : World} {sb b ml mc fm : Nat} {T : StD} (h : StoAt w sb b ml mc fm T) : NoByte w sb ∧ NoByte w fm := by
  obtain ⟨pv, kv, dv, gv, lv, bf, bl, pf, pl, hb, hv⟩ := h.blk
  obtain ⟨⟨a1, k1, e1⟩, ⟨a2, k2, e2⟩, ⟨a3, k3, e3⟩, ⟨a4, k4, e4⟩, ⟨a5, k5, e5⟩, ⟨a6, k6, e6⟩, ⟨a7, k7, e7⟩, ⟨a8, k8, e8⟩, ⟨a9, k9, e9⟩⟩ := hv.sl
  refine ⟨noByte_sto hb ?_, ?_⟩
  · intro v hm
    simp only [List.mem_cons, List.not_mem_nil, or_false] at hm
    rcases hm with h | h | h | h | h | h | h | h | h <;> rw [h] <;> first | exact ⟨_, _, _, e1⟩ | exact ⟨_, _, _, e2⟩ | exact ⟨_, _, _, e3⟩ | exact ⟨_, _, _, e4⟩ | exact ⟨_, _, _, e5⟩ | exact ⟨_, _, _, e6⟩ | exact ⟨_, _, _, e7⟩ | exact ⟨_, _, _, e8⟩ | exact ⟨_, _, _, e9⟩
  · obtain ⟨es, c, hm, _⟩ := h.map
    exact noByte_map hm
theorem StoAt.apart {w : World} {sb b ml mc fm : Nat} {T : StD} (h : StoAt w sb b ml mc fm T) : sb ≠ fm ∧ sb ≠ b ∧ sb ≠ ml ∧ sb ≠ mc ∧ fm ≠ b ∧ fm ≠ ml ∧ fm ≠ mc ∧ b ≠ ml ∧ b ≠ mc ∧ ml ≠ mc := by
  obtain ⟨pv, kv, dv, gv, lv, bf, bl, pf, pl, hb, hv⟩ := h.blk
  obtain ⟨f1, hm1, _⟩ := h.dev.lastM
  obtain ⟨f2, hm2, _⟩ := h.dev.cacheM
  have hne : sb ≠ b := by
    rintro rfl
    have := h.dev.blk
    rw [hb] at this
    injection this with this
    injection this with _ ht _
    exact absurd ht (by decide)
  exact ⟨h.map.notCells hb, hne, hm1.notCells hb, hm2.notCells hb, Ne.symm (h.map.notCells h.dev.blk), h.ne.1, h.ne.2, h.dev.b_ne.1, h.dev.b_ne.2, h.dev.ne⟩
theorem StoAt.lt {w : World} {sb b ml mc fm : Nat} {T : StD} (h : StoAt w sb b ml mc fm T) : sb < w.heap.size ∧ fm < w.heap.size ∧ b < w.heap.size ∧ ml < w.heap.size ∧ mc < w.heap.size := by
  obtain ⟨pv, kv, dv, gv, lv, bf, bl, pf, pl, hb, hv⟩ := h.blk
  exact ⟨lt_of_heap hb, h.map.lt, h.dev.lt⟩
theorem StoAt.kept {w w' : World} {sb b ml mc fm : Nat} {T : StD} (h : StoAt w sb b ml mc fm T) (hf : Fr [] w w') : StoAt w' sb b ml mc fm T := by
  obtain ⟨pv, kv, dv, gv, lv, bf, bl, pf, pl, hb, hv⟩ := h.blk
  exact ⟨⟨pv, kv, dv, gv, lv, bf, bl, pf, pl, hf.heap hb (by simp), hv.kept hf.nil⟩, h.map.kept hf (by simp), h.dev.kept hf, h.ne⟩
def StoAp (w : World) (sb : Nat) (S : List Nat) : Prop := ∀ i B o n c, w.cell? ⟨sb, i, none⟩ = some (.slice (some ⟨B, o, none⟩) n c) → n ≠ 0 → B ∉ S
def ApK (w : World) (sb : Nat) (w' : World) : Prop := ∀ S : List Nat, (∀ x, x ∈ S → x < w.heap.size) → StoAp w sb S → StoAp w' sb S
theorem ApK.trans {w w1 w2 : World} {sb : Nat} (h : ApK w sb w1) (k : ApK w1 sb w2) (hs : w.heap.size ≤ w1.heap.size) : ApK w sb w2 := fun S hS ha => k S (fun x hx => Nat.lt_of_lt_of_le (hS x hx) hs) (h S hS ha)
theorem ApK.ofFr {R : List Nat} {w w' : World} {sb : Nat} (hf : Fr R w w') (hs : sb < w.heap.size) (hn : sb ∉ R) : ApK w sb w' := fun _ _ ha i B o n c hc h0 => ha i B o n c ((hf.cell (a := ⟨sb, i, none⟩) hs hn).symm.trans hc) h0
theorem ints_ap {S : List Nat} {w : World} {B o n c : Nat} {l : List Int} (h : Ints S w (.slice (some ⟨B, o, none⟩) n c) l) (h0 : n ≠ 0) : B ∉ S := by
  rcases h with ⟨a, c', h, _⟩ | ⟨B', o', c', h, _, hs, _⟩
  · cases h; exact absurd rfl h0
  · have hl : n = l.length := by cases h; rfl
    cases h
    rcases hs with hs | hs
    · have : l.length = 0 := by simpa using congrArg List.length hs
      exact absurd this h0
    · exact hs
theorem ap_turn {w w' : World} {sb b fm : Nat} {p : PageD} {pv kv dv gv lv : Value} {bh : Int} {bf bl : Value} {ph ph' : Int} {pf pl pf' pl' : Value} {T : TypeId} (h : w.heap[sb]? = some (.cells (stL b fm p pv kv dv gv lv bh bf bl ph pf pl).toArray T (0, 0)))
    (h' : w'.heap[sb]? = some (.cells (stL b fm p pv kv dv gv lv bh bf bl ph' pf' pl').toArray T (0, 0))) (hi : ∀ S : List Nat, (∀ x, x ∈ S → x < w.heap.size) → (∃ l, Ints S w' pf' l) ∧ (∃ l, Ints S w' pl' l)) : ApK w sb w' := fun S hS ha i B o n c hc h0 => by
  rw [blk_cell h', List.getElem?_toArray] at hc
  have e : stL b fm p pv kv dv gv lv bh bf bl ph' pf' pl' = (((stL b fm p pv kv dv gv lv bh bf bl ph pf pl).set 16 (.int .i64 ph')).set 17 pf').set 18 pl' := rfl
  by_cases h18 : i = 18
  · subst h18
    have hx : pl' = .slice (some ⟨B, o, none⟩) n c := by simpa [stL] using hc
    obtain ⟨l, hl⟩ := (hi S hS).2
    rw [hx] at hl
    exact ints_ap hl h0
  by_cases h17 : i = 17
  · subst h17
    have hx : pf' = .slice (some ⟨B, o, none⟩) n c := by simpa [stL] using hc
    obtain ⟨l, hl⟩ := (hi S hS).1
    rw [hx] at hl
    exact ints_ap hl h0
  by_cases h16 : i = 16
  · subst h16
    simp [stL] at hc
  rw [e, List.getElem?_set_ne (Ne.symm h18), List.getElem?_set_ne (Ne.symm h17), List.getElem?_set_ne (Ne.symm h16)] at hc
  exact ha i B o n c (by rw [blk_cell h, List.getElem?_toArray]; exact hc) h0
theorem ApK.refl (w : World) (sb : Nat) : ApK w sb w := fun _ _ h => h
theorem ap_gen {w w' : World} {sb : Nat} {cs cs' : List Value} {T T' : TypeId} (h : w.heap[sb]? = some (.cells cs.toArray T (0, 0))) (h' : w'.heap[sb]? = some (.cells cs'.toArray T' (0, 0)))
    (hc : ∀ v ∈ cs', v ∈ cs ∨ (∀ B o n c, v ≠ .slice (some ⟨B, o, none⟩) n c) ∨ ∀ S : List Nat, (∀ x, x ∈ S → x < w.heap.size) → ∃ l, Ints S w' v l) : ApK w sb w' := fun S hS ha i B o n c hi h0 => by
  rw [blk_cell h', List.getElem?_toArray] at hi
  rcases hc _ (List.mem_of_getElem? hi) with hm | hm | hm
  · obtain ⟨j, hj⟩ := List.getElem?_of_mem hm
    exact ha j B o n c (by rw [blk_cell h, List.getElem?_toArray]; exact hj) h0
  · exact absurd rfl (hm B o n c)
  · obtain ⟨l, hl⟩ := hm S hS
    exact ints_ap hl h0
def StoR (w : World) (sb b ml mc fm : Nat) (T' : StD) (w' : World) : Prop := ∃ fm', StoAt w' sb b ml mc fm' T' ∧ Fr [sb, fm, b, ml, mc] w w' ∧ (fm' = fm ∨ w.heap.size ≤ fm') ∧ ApK w sb w'
theorem MR.of {w w1 : World} {sb fm : Nat} (hf : Fr [] w w1) (hs : sb < w.heap.size) : (fm = fm ∨ w.heap.size ≤ fm) ∧ ApK w sb w1 := ⟨.inl rfl, ApK.ofFr hf hs (by simp)⟩
theorem StoR.refl {w : World} {sb b ml mc fm : Nat} {T : StD} (h : StoAt w sb b ml mc fm T) : StoR w sb b ml mc fm T w := ⟨fm, h, Fr.refl _ _, .inl rfl, ApK.refl _ _⟩
theorem StoR.ofFr {w w' : World} {sb b ml mc fm : Nat} {T : StD} (h : StoAt w sb b ml mc fm T) (hf : Fr [] w w') : StoR w sb b ml mc fm T w' := ⟨fm, h.kept hf, hf.nil, MR.of hf h.lt.1⟩
theorem StoR.add {w w1 w2 : World} {sb b ml mc fm fm1 fm2 : Nat} (hf : Fr [sb, fm, b, ml, mc] w w1) (hmk : (fm1 = fm ∨ w.heap.size ≤ fm1) ∧ ApK w sb w1) (hf2 : Fr [sb, fm1, b, ml, mc] w1 w2) (hmk2 : (fm2 = fm1 ∨ w1.heap.size ≤ fm2) ∧ ApK w1 sb w2) :
    Fr [sb, fm, b, ml, mc] w w2 ∧ (fm2 = fm ∨ w.heap.size ≤ fm2) ∧ ApK w sb w2 := by
  obtain ⟨hm2, hk2⟩ := hmk2
  obtain ⟨hm, hk⟩ := hmk
  refine ⟨hf.andThen hf2 (fun x hx => ?_), ?_, hk.trans hk2 hf.size⟩
  · simp only [List.mem_cons, List.not_mem_nil, or_false] at hx ⊢
    rcases hx with h | h | h | h | h
    · exact .inl (.inl h)
    · rcases hm with hm | hm
      · exact .inl (.inr (.inl (h.trans hm)))
      · exact .inr (by rw [h]; exact hm)
    · exact .inl (.inr (.inr (.inl h)))
    · exact .inl (.inr (.inr (.inr (.inl h))))
    · exact .inl (.inr (.inr (.inr (.inr h))))
  · rcases hm2 with hm2 | hm2
    · rcases hm with hm | hm
      · exact .inl (hm2.trans hm)
      · exact .inr (by rw [hm2]; exact hm)
    · exact .inr (Nat.le_trans hf.size hm2)
theorem StoR.trans {w w1 w2 : World} {sb b ml mc fm fm1 : Nat} {T2 : StD} (hf : Fr [sb, fm, b, ml, mc] w w1) (hmk : (fm1 = fm ∨ w.heap.size ≤ fm1) ∧ ApK w sb w1) (h : StoR w1 sb b ml mc fm1 T2 w2) : StoR w sb b ml mc fm T2 w2 := by
  obtain ⟨fm2, h2, hf2, hm2⟩ := h
  exact ⟨fm2, h2, StoR.add hf hmk hf2 hm2⟩
def StD.abort (T : StD) : StD := { T with pool := T.base, fresh := fun _ => false }
set_option maxRecDepth 100000 in
set_option maxHeartbeats 1000000 in
theorem abort_k {sb b ml mc fm : Nat} {T : StD} (w : World) (h : StoAt w sb b ml mc fm T) :
    Calls Tryz.prog 79 #[.pointer (some ⟨sb, 0, none⟩)] w fun e w' => e = .returned (.tuple #[]) ∧ StoR w sb b ml mc fm T.abort w' := by
  have HST := Lib.hid h
  obtain ⟨pv, kv, dv, gv, lv, bf, bl, pf, pl, hb, hv⟩ := h.blk
  obtain ⟨_, _, _, _, _, ⟨ba, bc, rfl⟩, ⟨la, lc, rfl⟩, ⟨qa, qc, rfl⟩, ⟨ra, rc, rfl⟩⟩ := hv.sl
  have HB := Lib.hid hb
  have HV := Lib.hid hv
  have c13 := blk_cell hb 13
  have c14 := blk_cell hb 14
  have c15 := blk_cell hb 15
  have c16 := blk_cell hb 16
  have c17 := blk_cell hb 17
  have c18 := blk_cell hb 18
  have c19 := blk_cell hb 19
  have f16 := blk_free hb 16
  have f17 := blk_free hb 17
  have f18 := blk_free hb 18
  have f19 := blk_free hb 19
  simp only [stL, List.getElem?_toArray, List.getElem?_cons_zero, List.getElem?_cons_succ] at c13 c14 c15 c16 c17 c18 c19
  have hal := Fr.alloc1 w (.map #[] 0)
  have hbA := hal.heap hb (by simp)
  have d16 := hal.cellSome c16 (by simp)
  have d17 := hal.cellSome c17 (by simp)
  have d18 := hal.cellSome c18 (by simp)
  have d19 := hal.cellSome c19 (by simp)
  have g16 := blk_free hbA 16
  have g17 := blk_free hbA 17
  have g18 := blk_free hbA 18
  have g19 := blk_free hbA 19
  have hmm := @run_makeMap Tryz.prog
  have HQ : Hid (StoR w sb b ml mc fm T.abort (((((w.alloc (.map #[] 0)).setCell ⟨sb, 16, none⟩ (.int .i64 T.base.high)).setCell ⟨sb, 17, none⟩ (.slice ba T.base.free.length bc)).setCell ⟨sb, 18, none⟩ (.slice la T.base.limbo.length lc)).setCell ⟨sb, 19, none⟩ (.map (some w.heap.size)))) := Lib.hid (by
    have hap := h.apart
    have hlt := h.lt
    have hnb := h.noByte
    obtain ⟨W2, hW2⟩ : ∃ W2, ((((w.alloc (.map #[] 0)).setCell ⟨sb, 16, none⟩ (.int .i64 T.base.high)).setCell ⟨sb, 17, none⟩ (.slice ba T.base.free.length bc)).setCell ⟨sb, 18, none⟩ (.slice la T.base.limbo.length lc)).setCell ⟨sb, 19, none⟩ (.map (some w.heap.size)) = W2 := ⟨_, rfl⟩
    have hf2 : Fr [sb] (w.alloc (.map #[] 0)) W2 := by
      rw [← hW2]
      exact (((Fr.setCell _ ⟨sb, 16, none⟩ _).trans (Fr.setCell _ ⟨sb, 17, none⟩ _)).trans (Fr.setCell _ ⟨sb, 18, none⟩ _)).trans (Fr.setCell _ ⟨sb, 19, none⟩ _)
    have hb2 : W2.heap[sb]? = some (.cells (stL b w.heap.size T.super pv kv dv gv lv T.base.high (.slice ba T.base.free.length bc) (.slice la T.base.limbo.length lc) T.base.high (.slice ba T.base.free.length bc) (.slice la T.base.limbo.length lc)).toArray 113 (0, 0)) := by
      rw [← hW2, blk_set (blk_set (blk_set (blk_set hbA 16 _) 17 _) 18 _) 19 _]
      rfl
    rw [hW2]
    have hv2 : StoV W2 [sb, w.heap.size, b, ml, mc] T pv kv dv gv lv (.slice ba T.base.free.length bc) (.slice la T.base.limbo.length lc) (.slice qa T.pool.free.length qc) (.slice ra T.pool.limbo.length rc) :=
      ((hv.more (S' := [sb, w.heap.size, b, ml, mc]) (fun x hx => by simp only [List.mem_cons, List.not_mem_nil, or_false] at hx ⊢; rcases hx with h | h | h | h | h <;> simp [h])).kept hal.nil).kept (hf2.mono (by simp))
    refine ⟨w.heap.size, ⟨⟨pv, kv, dv, gv, lv, _, _, _, _, hb2, ⟨hv2.super, hv2.lists, hv2.bfree, hv2.blimbo, hv2.bfree, hv2.blimbo⟩⟩, ?_, ?_, ?_⟩, (hal.nil.trans hf2).mono (by simp), .inr (Nat.le_refl _), ap_gen hb hb2 (fun v hv => ?_)⟩
    · refine MapG.congr ((MapG.made w).kept hf2 (by simp; omega)) (fun k => rfl)
    · refine (h.dev.kept hal).apart hf2 (fun x hx => ?_) (by simp; omega) (by simp; omega) (by simp; omega)
      rw [List.mem_singleton.1 hx]
      intro i u he
      exact hnb.1 i u (by rw [← hal.cell (a := ⟨sb, i, none⟩) hlt.1 (by simp)]; exact he)
    · exact ⟨by omega, by omega⟩
    · unfold stL at hv ⊢
      simp only [List.mem_cons, List.not_mem_nil, or_false] at hv ⊢
      rcases hv with h | h | h | h | h | h | h | h | h | h | h | h | h | h | h | h | h | h | h | h <;> subst h <;> simp)
  clear h hb hv hal hbA
  go_enter Tryz.func79, Tryz.ntmps79
  go_wp2
  go_end0
  exact ⟨rfl, HQ.out⟩
def StD.end (T : StD) (e : Int) : StD := if e ≠ 0 ∧ e ≠ 1 ∧ e ≠ 50 then T.abort else T
set_option maxRecDepth 100000 in
theorem end_k {sb b ml mc fm : Nat} {T : StD} (x : Int) (w : World) (h : StoAt w sb b ml mc fm T) :
    Calls Tryz.prog 95 #[.pointer (some ⟨sb, 0, none⟩), .int .i64 x] w fun e w' => e = .returned (.int .i64 x) ∧ StoR w sb b ml mc fm (T.end x) w' := by
  have HA := Lib.hid (abort_k w h)
  by_cases h0 : x = 0
  · subst h0
    have HQ : Hid (StoR w sb b ml mc fm (T.end 0) w) := Lib.hid (by unfold StD.end; rw [if_neg (by simp)]; exact StoR.refl h)
    clear h
    go_enter Tryz.func95, Tryz.ntmps95
    go_wp2_with fail
    go_ret
    exact ⟨rfl, HQ.out⟩
  by_cases h1 : x = 1
  · subst h1
    have HQ : Hid (StoR w sb b ml mc fm (T.end 1) w) := Lib.hid (by unfold StD.end; rw [if_neg (by simp)]; exact StoR.refl h)
    clear h
    go_enter Tryz.func95, Tryz.ntmps95
    go_wp2_with fail
    go_ret
    exact ⟨rfl, HQ.out⟩
  by_cases h50 : x = 50
  · subst h50
    have HQ : Hid (StoR w sb b ml mc fm (T.end 50) w) := Lib.hid (by unfold StD.end; rw [if_neg (by simp)]; exact StoR.refl h)
    clear h
    go_enter Tryz.func95, Tryz.ntmps95
    go_wp2_with fail
    go_ret
    exact ⟨rfl, HQ.out⟩
  have e : T.end x = T.abort := by unfold StD.end; rw [if_pos ⟨h0, h1, h50⟩]
  rw [e]
  have b0 : (x != 0) = true := by simpa using h0
  have b1 : (x != 1) = true := by simpa using h1
  have b5 : (x != 50) = true := by simpa using h50
  clear h h0 h1 h50 e
  go_enter Tryz.func95, Tryz.ntmps95
  go_wp2_with fail
  with_reducible refine HA.out.mono ?_
  rintro e w1 ⟨rfl, hr⟩
  have HR := Lib.hid hr
  clear hr HA
  go_wp2
  go_ret
  exact ⟨rfl, HR.out⟩
end Go.Proofs.YtgpohemcfgepeaaGreat
