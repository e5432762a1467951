/- a part. -/
import Derived.Test.YtgpohemcfgepeaaGreatTB
namespace Go.Proofs.YtgpohemcfgepeaaGreat
open Go.RowKit Go.MapKept
theorem fr_sn {S : List Nat} {a w : World} {b i : Nat} {v : Value} (hp : a.heap.size ≤ b) (h : Fr S a w) : Fr S a (w.setCell ⟨b, i, none⟩ v) := ((h.mono (S' := b :: S) (fun x hx _ => List.mem_cons_of_mem _ hx)).trans ((Fr.setCell w ⟨b, i, none⟩ v).mono (fun x hx _ => by simp at hx; subst hx; simp))).mono (fun x hx hl => by
  rcases List.mem_cons.1 hx with rfl | hx
  · omega
  · exact hx)
theorem drew_sz (w : World) : w.drew.heap.size = w.heap.size := rfl
theorem chg_at {R X : List Nat} {w Wa u W4 : World} {tb sb b ml mc fm fm2 : Nat} {t : TrD} {TC : StD} (ht : TrAt w tb sb b ml mc fm t) (h0 : Fr [] w Wa) (hs : StoAt u sb b ml mc fm2 TC) (hf : Fr (X ++ [sb, fm, b, ml, mc]) Wa u) (hX : ∀ x ∈ X, w.heap.size ≤ x) (hm : (fm2 = fm ∨ Wa.heap.size ≤ fm2) ∧ ApK Wa sb u)
    (hR : ∀ x ∈ R, w.heap.size ≤ x ∧ x < Wa.heap.size) (hn : ∀ x ∈ R, NoByte u x) (hw : Fr R u W4) : TrAt W4 tb sb b ml mc fm2 { t with st := TC } ∧ Fr [tb, sb, fm, b, ml, mc] w W4 ∧ ((fm2 = fm ∨ w.heap.size ≤ fm2) ∧ ApK w sb W4) ∧ (∀ x ∈ R, x ∉ [tb, sb, fm2, b, ml, mc]) ∧ StoAp W4 sb R := by
  have hl := ht.sto.lt
  have hz := h0.size
  have htl := ht.lt
  have hsb : sb ∉ R := fun e => by have := (hR _ e).1; omega
  have htb : tb ∉ R := fun e => by have := (hR _ e).1; omega
  have hRn : ∀ x ∈ R, x ∉ [tb, sb, fm2, b, ml, mc] := fun x hx hm' => by
    have h1 := hR x hx
    simp only [List.mem_cons, List.not_mem_nil, or_false] at hm'
    rcases hm' with h | h | h | h | h | h
    · omega
    · omega
    · rcases hm.1 with h2 | h2 <;> omega
    · omega
    · omega
    · omega
  have hap0 : StoAp w sb R := fun i B o n c hc h0' hmm => by
    have h1 := ht.sto.slcLt i B o n c hc h0'
    have := (hR _ hmm).1; omega
  have hapa : StoAp Wa sb R := hap0.kept h0 hl.1 (by simp)
  have hapu : StoAp u sb R := hm.2 R (fun x hx => (hR x hx).2) hapa
  have hta := ht.kept h0
  have htX : tb ∉ X ++ [sb, fm, b, ml, mc] := by
    rw [List.mem_append, not_or]
    exact ⟨fun e => by have := hX _ e; omega, ht.ne⟩
  have hbu := hf.heap hta.blk htX
  have hapt : StoAp u sb [tb] := hm.2 [tb] (fun x hx => by rw [List.mem_singleton] at hx; omega) hta.ap
  refine ⟨⟨hw.heap hbu htb, hs.beside hapu hw hn (fun x hx hmm => hRn x hx (List.mem_cons_of_mem _ hmm)), hapt.kept hw hs.lt.1 hsb⟩, ?_, ⟨hm.1.imp id (fun h => by omega), ?_⟩, hRn, hapu.kept hw hs.lt.1 hsb⟩
  · refine ((h0.nil.trans hf).andThen hw (fun x hx => .inr (hR x hx).1)).mono (fun x hx hl' => ?_)
    rcases List.mem_append.1 hx with h | h
    · have := hX _ h; omega
    · exact List.mem_cons_of_mem _ h
  · exact ((ApK.ofFr h0 hl.1 (by simp)).trans hm.2 h0.size).trans (.ofFr hw hs.lt.1 hsb) (by have := hf.size; omega)
def ChgAt (w : World) (tb sb b ml mc fm : Nat) (t : TrD) (eb : Nat) (K : Int) (C : PageD × Bool × Int × StD) (pb : Nat) (wx : World) : Prop :=
  ∃ fm2 v1 v2 v3 v4, wx.heap[pb]? = some (.cells (pageCells C.1 v1 v2 v3 v4).toArray 90 (0, 0)) ∧ PageIn [tb, sb, fm2, b, ml, mc] wx C.1 v1 v2 v3 v4 ∧ wx.heap[eb]? = some (.cells #[.int .i64 C.2.2.1] 39 (0, 0)) ∧ TrAt wx tb sb b ml mc fm2 { t with st := C.2.2.2 } ∧ C.2.2.2.good ∧ (Fr [tb, sb, fm, b, ml, mc] w wx ∧ ((fm2 = fm ∨ w.heap.size ≤ fm2) ∧ ApK w sb wx)) ∧ (eb ∉ [tb, sb, fm2, b, ml, mc] ∧ StoAp wx sb [eb]) ∧ (C.2.2.1 = 0 → C.2.1 = true → PgF C.1 ∧ C.1.kind = K)
theorem chg_mk {R X Y : List Nat} {w Wa u W4 : World} {tb sb b ml mc fm fm2 eb pb : Nat} {t : TrD} {K : Int} {C : PageD × Bool × Int × StD} {v1 v2 v3 v4 : Value} (ht : TrAt w tb sb b ml mc fm t) (h0 : Fr [] w Wa) (hs : StoAt u sb b ml mc fm2 C.2.2.2) (hg : C.2.2.2.good) (hf : Fr (X ++ [sb, fm, b, ml, mc]) Wa u) (hX : ∀ x ∈ X, w.heap.size ≤ x) (hm : (fm2 = fm ∨ Wa.heap.size ≤ fm2) ∧ ApK Wa sb u)
    (hc : C.2.2.1 = 0 → C.2.1 = true → PgF C.1 ∧ C.1.kind = K) (hp : PageIn (Y ++ [sb, fm2, b, ml, mc]) u C.1 v1 v2 v3 v4) (hR : ∀ x ∈ R, w.heap.size ≤ x ∧ x < Wa.heap.size) (hY : ∀ x ∈ R, x ∈ Y) (hYt : tb ∈ Y) (hn : ∀ x ∈ R, NoByte u x) (heb : eb ∈ R) (hw : Fr R u W4)
    (h1 : W4.heap[pb]? = some (.cells (pageCells C.1 v1 v2 v3 v4).toArray 90 (0, 0))) (h2 : W4.heap[eb]? = some (.cells #[.int .i64 C.2.2.1] 39 (0, 0))) : ChgAt w tb sb b ml mc fm t eb K C pb W4 := by
  obtain ⟨a1, a2, a3, a4, a5⟩ := chg_at ht h0 hs hf hX hm hR hn hw
  have hp2 : PageIn (Y ++ [sb, fm2, b, ml, mc]) W4 C.1 v1 v2 v3 v4 := hp.kept (hw.mono (fun x hx _ => List.mem_append.2 (.inl (hY x hx))))
  exact ⟨fm2, v1, v2, v3, v4, h1, hp2.mono (fun x hx => by
    rcases List.mem_cons.1 hx with rfl | hx
    · exact List.mem_append.2 (.inl hYt)
    · exact List.mem_append.2 (.inr hx)), h2, a1, hg, ⟨a2, a3⟩, ⟨a4 _ heb, a5.mono (fun x hx => by rw [List.mem_singleton] at hx; rw [hx]; exact heb)⟩, hc⟩
theorem chg_new {X Y : List Nat} {w Wa u : World} {tb sb b ml mc fm fm2 eb : Nat} {t : TrD} {K x0 : Int} {C : PageD × Bool × Int × StD} {v1 v2 v3 v4 : Value} (ht : TrAt w tb sb b ml mc fm t) (h0 : Fr [] w Wa) (hs : StoAt u sb b ml mc fm2 C.2.2.2) (hg : C.2.2.2.good) (hf : Fr (X ++ [sb, fm, b, ml, mc]) Wa u) (hX : ∀ x ∈ X, w.heap.size ≤ x) (hm : (fm2 = fm ∨ Wa.heap.size ≤ fm2) ∧ ApK Wa sb u)
    (hc : C.2.2.1 = 0 → C.2.1 = true → PgF C.1 ∧ C.1.kind = K) (hp : PageIn (Y ++ [sb, fm2, b, ml, mc]) u C.1 v1 v2 v3 v4) (heb : w.heap.size ≤ eb ∧ eb < Wa.heap.size) (hY : eb ∈ Y) (hYt : tb ∈ Y) (he : u.heap[eb]? = some (.cells #[.int .i64 x0] 39 (0, 0))) :
    ChgAt w tb sb b ml mc fm t eb K C u.heap.size ((u.alloc (.cells (pageCells C.1 v1 v2 v3 v4).toArray 90)).setCell ⟨eb, 0, none⟩ (.int .i64 C.2.2.1)) := by
  obtain ⟨U, hU, fU, sU, bU⟩ := al1 u (.cells (pageCells C.1 v1 v2 v3 v4).toArray 90)
  rw [hU]
  have heU := fU.heap he (by simp)
  obtain ⟨W4, hW4, f4, s4, b4⟩ := st1 heU 0 (.int .i64 C.2.2.1)
  rw [hW4]
  have hel := lt_of_heap he
  have hsbl := hs.lt.1
  refine chg_mk (R := [eb]) (X := X) (Y := Y) ht h0 (hs.kept fU) hg (hf.trans fU.nil) hX ⟨hm.1, hm.2.trans (.ofFr fU hsbl (by simp)) hf.size⟩ hc (hp.kept fU.nil) (fun x hx => by rw [List.mem_singleton] at hx; rw [hx]; exact heb) (fun x hx => by rw [List.mem_singleton] at hx; rw [hx]; exact hY) hYt (fun x hx => by rw [List.mem_singleton] at hx; rw [hx]; exact noByte_err heU) (by simp) f4 (f4.heap bU (by rw [List.mem_singleton]; omega)) b4
theorem chg_old {X Y : List Nat} {w Wa u : World} {tb sb b ml mc fm fm2 eb pb : Nat} {t : TrD} {K x0 : Int} {C : PageD × Bool × Int × StD} {v1 v2 v3 v4 : Value} (ht : TrAt w tb sb b ml mc fm t) (h0 : Fr [] w Wa) (hs : StoAt u sb b ml mc fm2 C.2.2.2) (hg : C.2.2.2.good) (hf : Fr (X ++ [sb, fm, b, ml, mc]) Wa u) (hX : ∀ x ∈ X, w.heap.size ≤ x) (hm : (fm2 = fm ∨ Wa.heap.size ≤ fm2) ∧ ApK Wa sb u)
    (hc : C.2.2.1 = 0 → C.2.1 = true → PgF C.1 ∧ C.1.kind = K) (hp : PageIn (Y ++ [sb, fm2, b, ml, mc]) u C.1 v1 v2 v3 v4) (heb : w.heap.size ≤ eb ∧ eb < Wa.heap.size) (hpb : w.heap.size ≤ pb ∧ pb < Wa.heap.size) (hne : eb ≠ pb) (hY : eb ∈ Y ∧ pb ∈ Y) (hYt : tb ∈ Y) (he : u.heap[eb]? = some (.cells #[.int .i64 x0] 39 (0, 0)))
    (hz : u.heap[pb]? = some (.cells (pageCells pgZero nilV nilV nilV nilV).toArray 90 (0, 0))) :
    ChgAt w tb sb b ml mc fm t eb K C pb ((((((((((((u.setCell ⟨pb, 0, none⟩ (.int .i64 C.1.kind)).setCell ⟨pb, 1, none⟩ v1).setCell ⟨pb, 2, none⟩ v2).setCell ⟨pb, 3, none⟩ v3).setCell ⟨pb, 4, none⟩ v4).setCell ⟨pb, 5, none⟩ (.int .i64 C.1.next)).setCell ⟨pb, 6, none⟩ (.int .u64 C.1.epoch)).setCell ⟨pb, 7, none⟩ (.int .i64 C.1.root)).setCell ⟨pb, 8, none⟩ (.int .i64 C.1.depth)).setCell ⟨pb, 9, none⟩ (.int .i64 C.1.count)).setCell ⟨pb, 10, none⟩ (.int .i64 C.1.high)).setCell ⟨eb, 0, none⟩ (.int .i64 C.2.2.1)) := by
  obtain ⟨U, hU, fU, bU⟩ := st11 hz rfl (.int .i64 C.1.kind) v1 v2 v3 v4 (.int .i64 C.1.next) (.int .u64 C.1.epoch) (.int .i64 C.1.root) (.int .i64 C.1.depth) (.int .i64 C.1.count) (.int .i64 C.1.high)
  rw [hU]
  have heU := fU.heap he (by rw [List.mem_singleton]; exact hne)
  obtain ⟨W4, hW4, f4, s4, b4⟩ := st1 heU 0 (.int .i64 C.2.2.1)
  rw [hW4]
  have two : ∀ {P : Nat → Prop}, P eb → P pb → ∀ x ∈ [eb, pb], P x := fun h1 h2 x hx => by
    simp only [List.mem_cons, List.not_mem_nil, or_false] at hx
    rcases hx with rfl | rfl
    · exact h1
    · exact h2
  exact chg_mk (R := [eb, pb]) (X := X) (Y := Y) ht h0 hs hg hf hX hm hc hp (two heb hpb) (two hY.1 hY.2) hYt (two (noByte_err he) (noByte_page hz (fun v hv => by simp only [List.mem_cons, List.not_mem_nil, or_false] at hv; rcases hv with rfl | rfl | rfl | rfl <;> exact ⟨_, _, _, rfl⟩))) (by simp) ((fU.mono (S' := [eb, pb]) (by simp)).trans (f4.mono (by simp))) (f4.heap bU (by rw [List.mem_singleton]; exact fun e => hne e.symm)) b4
theorem top_k {tb sb b ml mc fm : Nat} {t : TrD} {p : PageD} {v : Value} (w : World) (h : TrAt w tb sb b ml mc fm t) (hg : t.st.good) (hp : PageAt [tb, sb, fm, b, ml, mc] w v p) (fp : PgF p) (hd : 0 ≤ t.depth ∧ t.depth ≤ 1000000) :
    Calls Tryz.prog 59 #[.pointer (some ⟨tb, 0, none⟩), v] w fun e w' => e = .returned (.int .i64 (t.top p).1) ∧ TrR w tb sb b ml mc fm (t.top p).2 w' := by
  by_cases hk : p.kind = 1 ∧ p.pairs.length = 0
  · exact top_a w h hg hp fp hk.1 hk.2
  · by_cases hl : p.kind = 2 ∧ p.keys.length = 0
    · exact top_b w h hg hp fp hl.1 hl.2 hd
    · exact top_c w h hg hp fp hk hl hd
theorem top_count (t : TrD) (p : PageD) : (t.top p).2.count = t.count := by
  unfold TrD.top
  split
  · rfl
  · split
    · rfl
    · simp only
      split
      · rfl
      · split <;> rfl
theorem err_ne {w W : World} {tb sb b ml mc fm fm' eb : Nat} {t t0 : TrD} {x : Int} {U : TypeId} (ht : TrAt w tb sb b ml mc fm t0) (heb : w.heap.size ≤ eb) (h : TrAt W tb sb b ml mc fm' t) (he : W.heap[eb]? = some (.cells #[.int .i64 x] U (0, 0))) : eb ∉ [tb, sb, fm', b, ml, mc] := by
  have h1 := ht.lt
  have h2 := ht.sto.lt
  have h3 := h.sto.map.notCells he
  simp only [List.mem_cons, List.not_mem_nil, or_false, not_or]
  exact ⟨by omega, by omega, h3, by omega, by omega, by omega⟩
theorem TrR.beside {w u W : World} {tb sb b ml mc fm eb : Nat} {t t0 : TrD} {x : Int} (h : TrR w tb sb b ml mc fm t u) (ht : TrAt w tb sb b ml mc fm t0) (heb : w.heap.size ≤ eb) (he : u.heap[eb]? = some (.cells #[.int .i64 x] 39 (0, 0))) (hap : StoAp u sb [eb]) (hf : Fr [eb] u W) : TrR w tb sb b ml mc fm t W := by
  obtain ⟨fm', h1, h2, h3, h4⟩ := h
  have hn := err_ne ht heb h1 he
  rw [List.mem_cons, not_or] at hn
  have hsb : sb ∉ [eb] := fun e => hn.2 (by rw [List.mem_singleton] at e; simp [e])
  exact ⟨fm', h1.beside hap (noByte_err he) hn.2 (fun e => hn.1 e.symm) hf, h2.andThen hf (fun x hx => by rw [List.mem_singleton] at hx; right; omega), h3, h4.trans (.ofFr hf h1.sto.lt.1 hsb) h2.size⟩
theorem TrR.lt {w u : World} {tb sb b ml mc fm : Nat} {t : TrD} (h : TrR w tb sb b ml mc fm t u) : sb < u.heap.size := by
  obtain ⟨fm', h1, _⟩ := h
  exact h1.sto.lt.1
theorem TrR.written {w u W : World} {tb sb b ml mc fm : Nat} {t : TrD} {r d c : Int} (h : TrR w tb sb b ml mc fm t u) (hf : Fr [tb] u W) (hb : W.heap[tb]? = some (.cells (trL sb r d c) 83 (0, 0))) : TrR w tb sb b ml mc fm ⟨t.st, r, d, c⟩ W := by
  obtain ⟨fm', h1, h2, h3, h4⟩ := h
  exact TrR.trans h2 ⟨h3, h4⟩ (h1.written hf hb)
end Go.Proofs.YtgpohemcfgepeaaGreat

namespace Go.Proofs.YtgpohemcfgepeaaGreat
open Go.RowKit Go.MapKept
def KeyAt (kb : Nat) (key : ByteArray) (w : World) : Prop := w.heap[kb]? = some (.cells #[.string key] 9 (0, 0))
theorem enter_cut : ∀ (args : Array Value) (w : World), (callFunc 61 args).run Tryz.prog w = .ok (.enter 61 args) w := fun args w => enter_of Tryz.func61 (by kernel_rfl) (by kernel_rfl) args w
theorem cut_doer {N0 sb b ml mc fm kb : Nat} {key : ByteArray} (hkb : kb ∉ [sb, fm, b, ml, mc] ∧ kb < N0) : Doer 61 #[.pointer (some ⟨kb, 0, none⟩)] (cutLeaf key) [] N0 sb b ml mc fm (KeyAt kb key) (fun _ _ => True) where
  ent := enter_cut
  run := fun w1 v p S hJ hS _ hp hd => (cut1_k w1 hJ hS hp hd).mono fun e w2 ⟨v', h1, h2, h3⟩ => ⟨v', h1, h2, h3, trivial⟩
  keepJ := fun w1 w2 R hf hR hJ => hf.heap hJ (fun hm => by
    rcases hR _ hm with h | h
    · exact hkb.1 h
    · have := hkb.2; omega)
  keepM := fun _ _ _ _ _ _ h => h
  byte := fun _ _ x hx => by cases hx
  apart := fun x hx => by cases hx
  fine := fun p hd hi => by
    unfold cutLeaf at hi ⊢
    split
    · exact ⟨leafPg_F (by have := hd.pairs; simp; omega), rfl⟩
    · rename_i h; rw [if_neg h] at hi; cases hi
def CutP (w : World) (tb sb b ml mc fm : Nat) (R : Bool × Int × TrD) (e : Ending) (w' : World) : Prop := e = .returned (.tuple #[.bool R.1, .int .i64 R.2.1]) ∧ TrR w tb sb b ml mc fm R.2.2 w'
theorem cut_out {tmps : Array Value} {w W : World} {tb sb b ml mc fm eb : Nat} {t t0 : TrD} {R : Bool × Int × TrD} {ri : Bool} {re : Int} (hR : R = (ri, re, t.end re)) (h4 : tmps.getD 4 undef = .bool ri) (h5 : tmps.getD 5 undef = .pointer (some ⟨eb, 0, none⟩))
    (hb : W.heap[eb]? = some (.cells #[.int .i64 re] 39 (0, 0))) (h0 : TrAt w tb sb b ml mc fm t0) (heb : w.heap.size ≤ eb) (ht : TrR w tb sb b ml mc fm t W) :
    bodyPostD Tryz.prog Tryz.f23 (CutP w tb sb b ml mc fm R) Exit.ret { tmps := tmps, defers := [{ target := .fn (Fn.func 53) #[], args := #[.pointer (some ⟨tb, 0, none⟩), .pointer (some ⟨eb, 0, none⟩)] }] } W := by
  subst hR
  obtain ⟨fm2, ht, hf, hm⟩ := ht
  refine leaves_cons (f := 53) (args := #[.pointer (some ⟨tb, 0, none⟩), .pointer (some ⟨eb, 0, none⟩)]) (by simp) (by simp [go_sem]) ?_
  refine (tend_k W ht (blk_cell hb 0)).mono ?_
  rintro e u' w2 ⟨rfl, rfl, fm3, r1, r2, r3⟩
  exact ⟨_, cut_result h4 h5 (blk_cell (r2.heap hb (err_ne h0 heb ht hb)) 0), rfl, TrR.trans hf hm ⟨fm3, r1, r2, r3⟩⟩
set_option maxRecDepth 100000 in
set_option maxHeartbeats 8000000 in
theorem cut_k {tb sb b ml mc fm : Nat} {t : TrD} (key : ByteArray) (w : World) (h : TrAt w tb sb b ml mc fm t) (hg : t.st.good) (hd0 : 0 ≤ t.depth) (hd1 : t.depth ≤ 1000) (hc0 : -4611686018427387904 ≤ t.count) (hc1 : t.count ≤ 4611686018427387904) :
    Calls Tryz.prog 23 #[.pointer (some ⟨tb, 0, none⟩), .string key] w (CutP w tb sb b ml mc fm (t.cut key)) := by
  obtain ⟨W2, hW2, hf2, hs2, b1, b2⟩ := al2 w (.cells #[.string key] 9) (.cells #[.int .i64 0] 39)
  have ht2 := h.kept hf2
  have hkN := h.sto.newN (Nat.le_refl _)
  have heN := h.sto.newN (Nat.le_succ w.heap.size)
  have htb := h.lt
  have HT := Lib.hid h
  have HT2 := Lib.hid ht2
  have HF2 := Lib.hid hf2
  have HB := Lib.hid (And.intro b1 b2)
  have HSZ := Lib.hid hs2
  have HN := Lib.hid (And.intro hkN heN)
  have HNE := Lib.hid h.ne
  have hbk := ht2.blk
  have c2 : W2.cell? ⟨tb, 2, none⟩ = some (.int .i64 t.depth) := blk_cell hbk 2
  obtain ⟨R, hR⟩ : ∃ R, t.cut key = R := ⟨_, rfl⟩
  rw [hR]
  by_cases hz : t.depth = 0
  · have HR : Hid (R = (false, 0, t)) := Lib.hid (by rw [← hR]; unfold TrD.cut; rw [if_pos hz])
    obtain ⟨W3, hW3, hf3, hs3, b3⟩ := st1 b2 0 (.int .i64 0)
    have HQ : Hid (TrR w tb sb b ml mc fm t W3) := Lib.hid (.ofFr h ((hf2.nil.trans hf3).drop (fun x hx => by rw [List.mem_singleton] at hx; omega)))
    have HBE := Lib.hid (blk_cell b3 0)
    have e0 := blk_cell b2 0
    have e1 := blk_free b2 0
    simp only [List.getElem?_toArray, List.getElem?_cons_zero] at e0
    rw [hz] at c2
    clear h hg hd0 hd1 hc0 hc1 hf2 hs2 b1 b2 ht2 hkN heN htb hbk hR hz hf3 hs3 b3
    go_enter_defers Tryz.func23, Tryz.ntmps23
    go_wp2_with fail
    exact ⟨_, cut_result rfl rfl HBE.out, by rw [HR.out]; exact ⟨rfl, HQ.out⟩⟩
  · obtain ⟨d, hd⟩ : ∃ d : Nat, t.depth = ((d + 1 : Nat) : Int) := ⟨t.depth.toNat - 1, by omega⟩
    have HCH : Hid (∀ w', Fr [] W2 w' → ∀ Y : List Nat, (∀ x ∈ Y, x < w'.heap.size) → Calls Tryz.prog 55 #[.pointer (some ⟨tb, 0, none⟩), .int .i64 t.root, .int .i64 t.depth, .string key, .func (.func 61) #[] #[.pointer (some ⟨w.heap.size, 0, none⟩)]] w' (ChP w' sb b ml mc fm [] Y (fun _ _ => True) (kindAt t.depth) (changeK (cutLeaf key) key d t.st t.root) (leafK t.st key d t.root))) := Lib.hid fun w' hq Y hY => by
      rw [hd]
      have hq2 := ht2.kept hq
      have hz := hq.size
      have D := cut_doer (N0 := w'.heap.size) (sb := sb) (b := b) (ml := ml) (mc := mc) (fm := fm) (kb := w.heap.size) (key := key) ⟨hkN, by omega⟩
      have hYY : (∀ x, x ∈ ([] : List Nat) → x ∈ Y) ∧ (∀ x, x ∈ Y → x < w'.heap.size) := ⟨(by simp), hY⟩
      exact change_k D hYY d (by omega) fm t.st t.root w' (blk_cell hq2.blk 0) HNE.out (by simp) hq2.sto hg (hq.heap b1 (by simp)) (fun i B o n c _ _ => by simp) (Nat.le_refl _) (.inl rfl)
    have HX : Hid (∀ w', Fr ((w.heap.size + 1) :: [sb, fm, b, ml, mc]) W2 w' → Fr ((w.heap.size + 1) :: [sb, fm, b, ml, mc]) W2 w' ∧ w'.cell? ⟨tb, 1, none⟩ = some (.int .i64 t.root) ∧ w'.cell? ⟨tb, 2, none⟩ = some (.int .i64 t.depth) ∧ w'.cell? ⟨w.heap.size, 0, none⟩ = some (.string key)) := Lib.hid fun w' hq => by
      have hb := hq.heap hbk (by rw [List.mem_cons, not_or]; exact ⟨by omega, HNE.out⟩)
      exact ⟨hq, blk_cell hb 1, blk_cell hb 2, blk_cell (hq.heap b1 (by rw [List.mem_cons, not_or]; exact ⟨by omega, hkN⟩)) 0⟩
    have hdn : (t.depth == 0) = false := by simpa using hz
    have hmf : ∀ (fn : Fn) (first cap : Array Value) (w : World), (Instr.makeFunc fn first cap).run Tryz.prog w = .ok (.func fn first cap) w := fun _ _ _ _ => rfl
    have e1 := blk_free b2 0
    have e0 := blk_cell b2 0
    simp only [List.getElem?_toArray, List.getElem?_cons_zero] at e0
    have HD := Lib.hid hd
    have HR := Lib.hid hR
    have HBD := Lib.hid (And.intro hd1 (And.intro hc0 hc1))
    clear h hg hd0 hd1 hc0 hc1 hf2 hs2 b1 b2 ht2 hkN heN htb hbk hR hz hd
    go_enter_defers Tryz.func23, Tryz.ntmps23
    go_upto_region 6 with fail
    clear hW2
    obtain ⟨⟨pC, isC, eC, TC⟩, hC⟩ : ∃ C, changeK (cutLeaf key) key d t.st t.root = C := ⟨_, rfl⟩
    rw [hC] at HCH
    have HRC : Hid (R = if eC ≠ 0 ∨ isC = false then (false, eC, TrD.end { t with st := TC } eC) else if (TrD.top { t with st := TC } pC).1 ≠ 0 then (false, (TrD.top { t with st := TC } pC).1, TrD.end (TrD.top { t with st := TC } pC).2 (TrD.top { t with st := TC } pC).1) else (true, 0, { (TrD.top { t with st := TC } pC).2 with count := (TrD.top { t with st := TC } pC).2.count - 1 })) := Lib.hid (by
      have hd := HD.out
      rw [← HR.out]
      unfold TrD.cut
      rw [if_neg (by omega), show (t.depth - 1).toNat = d by omega]
      simp only [hC])
    clear hC
    go_cut [4, 6] from 7 (fun is pv wx => ∃ pb, is = .bool isC ∧ pv = .pointer (some ⟨pb, 0, none⟩) ∧ ChgAt w tb sb b ml mc fm t (w.heap.size + 1) (kindAt t.depth) (pC, isC, eC, TC) pb wx)
    case first =>
      have HYY : Hid (∀ x ∈ [tb, w.heap.size + 1], x < W2.drew.heap.size) := Lib.hid fun x hx => by
        rw [drew_sz, HSZ.out]
        have := HT.out.lt
        simp only [List.mem_cons, List.not_mem_nil, or_false] at hx
        omega
      have HAL : Hid (Fr [] W2 (W2.alloc (.cells #[.int .i64 0, .slice none 0 0, .slice none 0 0, .slice none 0 0, .slice none 0 0, .int .i64 0, .int .u64 0, .int .i64 0, .int .i64 0, .int .i64 0, .int .i64 0] 90)).drew ∧ (∀ x ∈ [tb, w.heap.size + 1, W2.heap.size], x < (W2.alloc (.cells #[.int .i64 0, .slice none 0 0, .slice none 0 0, .slice none 0 0, .slice none 0 0, .int .i64 0, .int .u64 0, .int .i64 0, .int .i64 0, .int .i64 0, .int .i64 0] 90)).drew.heap.size) ∧ (W2.alloc (.cells #[.int .i64 0, .slice none 0 0, .slice none 0 0, .slice none 0 0, .slice none 0 0, .int .i64 0, .int .u64 0, .int .i64 0, .int .i64 0, .int .i64 0, .int .i64 0] 90)).drew.heap[W2.heap.size]? = some (.cells #[.int .i64 0, .slice none 0 0, .slice none 0 0, .slice none 0 0, .slice none 0 0, .int .i64 0, .int .u64 0, .int .i64 0, .int .i64 0, .int .i64 0, .int .i64 0] 90) ∧ W2.heap.size ∉ [sb, fm, b, ml, mc]) := Lib.hid ⟨(Fr.alloc1 _ _).drew, (fun x hx => by
        rw [drew_sz, heap_sz, HSZ.out]
        rw [HSZ.out] at hx
        have := HT.out.lt
        simp only [List.mem_cons, List.not_mem_nil, or_false] at hx
        omega), blk_new _ _, HT2.out.sto.newN (Nat.le_refl _)⟩
      have HDR : Hid (Fr [sb, fm, b, ml, mc] W2 W2.drew) := Lib.hid (Fr.refl _ _).drew
      go_region_held3 (fun w' => Fr ((w.heap.size + 1) :: [sb, fm, b, ml, mc]) W2 w' ∧ w'.cell? ⟨tb, 1, none⟩ = some (.int .i64 t.root) ∧ w'.cell? ⟨tb, 2, none⟩ = some (.int .i64 t.depth) ∧ w'.cell? ⟨w.heap.size, 0, none⟩ = some (.string key))
        (first
        | (refine HX.out _ ?_; simp (maxDischargeDepth := 40) only [fr_dr, fr_al, fr_refl])
        | (refine HX.out _ ?_; simp (maxDischargeDepth := 40) only [fr_al, fr_sc, fr_sn, H3.out, Nat.le_refl, List.mem_cons, true_or]))
        (first
        | (go_at_call 55
           refine (HCH.out _ (Fr.refl _ _).drew [tb, w.heap.size + 1] HYY.out).mono ?_
           rintro e u ⟨v, fm2, rfl, c1, c2, c3, c4, c5, c6⟩
           obtain ⟨v1, v2, v3, v4, rfl, hpi⟩ := c1
           obtain ⟨p1, p2, rfl, _⟩ := Slc.form hpi.pairs
           obtain ⟨p3, p4, rfl, _⟩ := Slc.form hpi.keys
           obtain ⟨p5, p6, rfl, _⟩ := Slc.form hpi.kids
           obtain ⟨p7, p8, rfl, _⟩ := Slc.form hpi.pages
           unfold pageCells
           have HPI := Lib.hid hpi
           have HCC := Lib.hid (And.intro c2 (And.intro c3 (And.intro c4 (And.intro c5 c6))))
           have c4 := HDR.out.trans c4
           have H3 : Hid (Fr ((w.heap.size + 1) :: [sb, fm, b, ml, mc]) W2 u) := by
             refine Lib.hid (c4.mono (fun x hx _ => List.mem_cons_of_mem _ hx))
           have HZ3 : Hid (W2.heap.size ≤ u.heap.size) := Lib.hid c4.size
           have hbe := c4.heap HB.out.2 HN.out.2
           have HBE := Lib.hid hbe
           have f0 := blk_cell hbe 0
           have f1 := blk_free hbe 0
           simp only [List.getElem?_toArray, List.getElem?_cons_zero] at f0
           have n1 : w.heap.size + 1 ≠ u.heap.size := by have := HZ3.out; have := HSZ.out; omega
           have n2 : u.heap.size ≠ w.heap.size + 1 := fun e => n1 e.symm
           have a1 : ∀ o, (u.alloc o).cell? ⟨w.heap.size + 1, 0, none⟩ = some (.int .i64 0) := fun o => blk_cell ((Fr.alloc1 u o).heap hbe (by simp)) 0
           have a2 : ∀ o, (u.alloc o).frozen? ⟨w.heap.size + 1, 0, none⟩ = false := fun o => blk_free ((Fr.alloc1 u o).heap hbe (by simp)) 0
           clear hpi c2 c3 c4 c5 c6 hbe)
        | (go_at_call 55
           refine (HCH.out _ HAL.out.1 [tb, w.heap.size + 1, W2.heap.size] HAL.out.2.1).mono ?_
           rintro e u ⟨v, fm2, rfl, c1, c2, c3, c4, c5, c6⟩
           obtain ⟨v1, v2, v3, v4, rfl, hpi⟩ := c1
           obtain ⟨p1, p2, rfl, _⟩ := Slc.form hpi.pairs
           obtain ⟨p3, p4, rfl, _⟩ := Slc.form hpi.keys
           obtain ⟨p5, p6, rfl, _⟩ := Slc.form hpi.kids
           obtain ⟨p7, p8, rfl, _⟩ := Slc.form hpi.pages
           unfold pageCells
           have HPI := Lib.hid hpi
           have hbz := c4.heap HAL.out.2.2.1 HAL.out.2.2.2
           have HBZ := Lib.hid hbz
           have HCC := Lib.hid (And.intro c2 (And.intro c3 (And.intro c4 (And.intro c5 c6))))
           have c4 := HAL.out.1.nil.trans c4
           obtain ⟨z0, z1, z2, z3, z4, z5, z6, z7, z8, z9, z10⟩ := f11 hbz
           have H3 : Hid (Fr ((w.heap.size + 1) :: [sb, fm, b, ml, mc]) W2 u) := by
             refine Lib.hid (c4.mono (fun x hx _ => List.mem_cons_of_mem _ hx))
           have HZ3 : Hid (W2.heap.size ≤ u.heap.size) := Lib.hid c4.size
           have hbe := c4.heap HB.out.2 HN.out.2
           have HBE := Lib.hid hbe
           have f0 := blk_cell hbe 0
           have f1 := blk_free hbe 0
           simp only [List.getElem?_toArray, List.getElem?_cons_zero] at f0
           obtain ⟨y0, y1, y2, y3, y4, y5, y6, y7, y8, y9, y10⟩ := c11 hbz
           have n1 : w.heap.size + 1 ≠ W2.heap.size := by have := HZ3.out; have := HSZ.out; omega
           have n2 : W2.heap.size ≠ w.heap.size + 1 := fun e => n1 e.symm
           clear hpi c2 c3 c4 c5 c6 hbe hbz))
      all_goals
        go_wp2_with fail
        go_meet
        case rel =>
          first
          | (have hz := HBZ.out
             have h := chg_old (X := []) (Y := [tb, w.heap.size + 1, W2.heap.size]) (C := (pC, isC, eC, TC)) HT.out (HF2.out.trans HAL.out.1) HCC.out.1 HCC.out.2.1 HCC.out.2.2.1 (by simp) HCC.out.2.2.2.1 (fun h1 => (HCC.out.2.2.2.2 h1).2) HPI.out (eb := w.heap.size + 1) ⟨by omega, by rw [drew_sz, heap_sz, HSZ.out]; omega⟩ ⟨by rw [HSZ.out]; omega, by rw [drew_sz, heap_sz]; omega⟩ n1 ⟨by simp, by simp⟩ (by simp) HBE.out hz
             dsimp only at h
             exact ⟨_, rfl, rfl, h⟩)
          | (have h := chg_new (X := []) (Y := [tb, w.heap.size + 1]) (C := (pC, isC, eC, TC)) HT.out HF2.out.drew HCC.out.1 HCC.out.2.1 HCC.out.2.2.1 (by simp) HCC.out.2.2.2.1 (fun h1 => (HCC.out.2.2.2.2 h1).2) HPI.out (eb := w.heap.size + 1) ⟨by omega, by rw [drew_sz, HSZ.out]; omega⟩ (by simp) (by simp) HBE.out
             unfold pageCells at h
             dsimp only at h
             exact ⟨_, rfl, rfl, h⟩)
    case rest =>
      obtain ⟨pb, rfl, rfl, fm2, v1, v2, v3, v4, g1, g2, g3, g4, g5, g6, g7, g8⟩ := hcut
      dsimp only at g1 g2 g3 g4 g5 g8
      obtain ⟨p1, p2, rfl, _⟩ := Slc.form g2.pairs
      obtain ⟨p3, p4, rfl, _⟩ := Slc.form g2.keys
      obtain ⟨p5, p6, rfl, _⟩ := Slc.form g2.kids
      obtain ⟨p7, p8, rfl, _⟩ := Slc.form g2.pages
      have x0 := blk_cell g3 0
      have x1 := blk_free g3 0
      simp only [List.getElem?_toArray, List.getElem?_cons_zero] at x0
      have HE := Lib.hid g3
      have HTX := Lib.hid g4
      have HP := Lib.hid g2
      have HG := Lib.hid (And.intro g5 g8)
      have HW := Lib.hid g6
      have HN2 := Lib.hid g7
      unfold pageCells at g1
      obtain ⟨y0, y1, y2, y3, y4, y5, y6, y7, y8, y9, y10⟩ := c11 g1
      clear g1 g2 g3 g4 g5 g6 g7 g8 HCH HX
      have HOUT : Hid (∀ W, Fr [w.heap.size + 1] wc W → TrR w tb sb b ml mc fm { t with st := TC } W) := Lib.hid fun W hW => TrR.beside ⟨fm2, HTX.out, HW.out.1, HW.out.2⟩ HT.out (by omega) HE.out HN2.out.2 hW
      by_cases he : eC = 0
      · subst he
        cases isC
        · have HRX : Hid (R = (false, 0, TrD.end { t with st := TC } 0)) := Lib.hid (by rw [HRC.out, if_pos (.inr rfl)])
          obtain ⟨W5, hW5, hf5, hs5, b5⟩ := st1 HE.out 0 (.int .i64 0)
          have HO := Lib.hid (HOUT.out W5.drew hf5.drew)
          have HB5 : Hid (W5.drew.heap[w.heap.size + 1]? = some (.cells #[.int .i64 0] 39 (0, 0))) := Lib.hid b5
          clear hf5 hs5 b5 y0 y1 y2 y3 y4 y5 y6 y7 y8 y9 y10
          go_upto_region 8 with fail
          go_region
          all_goals
            go_wp2_with fail
            exact cut_out HRX.out rfl rfl HB5.out HT.out (by omega) HO.out
        · have HTP := Lib.hid (top_k wc HTX.out HG.out.1 ⟨_, _, _, _, rfl, HP.out⟩ (HG.out.2 rfl rfl).1 (by have h1 := HBD.out.1; have h2 := HD.out; show 0 ≤ t.depth ∧ t.depth ≤ 1000000; omega))
          have hct := top_count { t with st := TC } pC
          obtain ⟨⟨e3, t3⟩, hT⟩ : ∃ x, TrD.top { t with st := TC } pC = x := ⟨_, rfl⟩
          rw [hT] at HTP hct
          have HRX : Hid (R = if e3 ≠ 0 then (false, e3, t3.end e3) else (true, 0, { t3 with count := t3.count - 1 })) := Lib.hid (by rw [HRC.out, if_neg (by simp), hT])
          have hcn : t3.count = t.count := hct
          have HCN := Lib.hid hcn
          unfold pageCells at HTP
          dsimp only at HTP
          clear hT hct hcn
          go_wp2_with fail
          with_reducible refine HTP.out.mono ?_
          rintro e u5 ⟨rfl, hr5⟩
          have hr5' : TrR w tb sb b ml mc fm t3 u5 := TrR.trans HW.out.1 HW.out.2 hr5
          obtain ⟨fm5, r1, r2, r3⟩ := hr5
          have he5 := r2.heap HE.out HN2.out.1
          have HAP5 := Lib.hid (r3.2 [w.heap.size + 1] (fun x hx => by rw [List.mem_singleton] at hx; rw [hx]; exact lt_of_heap HE.out) HN2.out.2)
          have q0 := blk_free he5 0
          have q1 := blk_cell he5 0
          simp only [List.getElem?_toArray, List.getElem?_cons_zero] at q1
          have hbk := r1.blk
          obtain ⟨W5, hW5, hf5, hs5, b5⟩ := st1 he5 0 (.int .i64 e3)
          have hne : tb ∉ [w.heap.size + 1] := by rw [List.mem_singleton]; have := HT.out.lt; omega
          have HR5 := Lib.hid (hr5'.beside HT.out (by omega) he5 HAP5.out hf5)
          have hb5 := hf5.heap hbk hne
          have k0 := blk_cell b5 0
          have k1 := blk_free b5 0
          have k2 : W5.cell? ⟨tb, 3, none⟩ = some (.int .i64 t3.count) := blk_cell hb5 3
          have k3 := blk_free hb5 3
          have HSB : Hid (sb ∉ [w.heap.size + 1] ∧ sb ≠ tb) := Lib.hid ⟨by rw [List.mem_singleton]; have := HT.out.sto.lt; omega, fun e => HNE.out (by simp [e])⟩
          have HAP6 := Lib.hid (HAP5.out.kept hf5 hr5'.lt HSB.out.1)
          have HB5 := Lib.hid (And.intro b5 hb5)
          clear hr5' r1 r2 r3 he5 hbk hf5 hs5 b5 hb5 y0 y1 y2 y3 y4 y5 y6 y7 y8 y9 y10 x0 x1
          by_cases h3 : e3 = 0
          · subst h3
            have HRY : Hid (R = (true, 0, TrD.end { t3 with count := t3.count - 1 } 0)) := Lib.hid (by rw [TrD.end_ok, HRX.out, if_neg (by simp)])
            have hw64 : IntKind.i64.wrap (t3.count - 1) = t3.count - 1 := IntWalk.i64_in _ (by have := HCN.out; have := HBD.out.2; omega)
            obtain ⟨W6, hW6, hf6, hs6, b6⟩ := st1 HB5.out.2 3 (.int .i64 (t3.count - 1))
            have HR6 : Hid (TrR w tb sb b ml mc fm { t3 with count := t3.count - 1 } W6) := Lib.hid (HR5.out.written hf6 b6)
            have he6 := hf6.heap HB5.out.1 (by rw [List.mem_singleton]; rw [List.mem_singleton] at hne; omega)
            have z1 := blk_free he6 0
            have z2 := blk_cell he6 0
            obtain ⟨W7, hW7, hf7, hs7, b7⟩ := st1 he6 0 (.int .i64 0)
            have HR7 := Lib.hid (HR6.out.beside HT.out (by omega) he6 (HAP6.out.kept hf6 HR5.out.lt (by rw [List.mem_singleton]; exact HSB.out.2)) hf7)
            have HB7 := Lib.hid b7
            clear hf6 hs6 b6 he6 hf7 hs7 b7 hne
            go_wp2_with fail
            exact cut_out HRY.out rfl rfl HB7.out HT.out (by omega) HR7.out
          · have HRY : Hid (R = (false, e3, t3.end e3)) := Lib.hid (by rw [HRX.out, if_pos h3])
            have be : (e3 != 0) = true := by simpa using h3
            obtain ⟨W6, hW6, hf6, hs6, b6⟩ := st1 HB5.out.1 0 (.int .i64 e3)
            have HR6 := Lib.hid (HR5.out.beside HT.out (by omega) HB5.out.1 HAP6.out hf6.drew)
            have HB6 : Hid (W6.drew.heap[w.heap.size + 1]? = some (.cells #[.int .i64 e3] 39 (0, 0))) := Lib.hid b6
            clear h3 hf6 hs6 b6 hne
            go_upto_region 11 with fail
            go_region
            all_goals
              go_wp2_with fail
              exact cut_out HRY.out rfl rfl HB6.out HT.out (by omega) HR6.out
      · have HRX : Hid (R = (false, eC, TrD.end { t with st := TC } eC)) := Lib.hid (by rw [HRC.out, if_pos (.inl he)])
        have be : (eC != 0) = true := by simpa using he
        obtain ⟨W5, hW5, hf5, hs5, b5⟩ := st1 HE.out 0 (.int .i64 eC)
        have HO := Lib.hid (HOUT.out W5.drew hf5.drew)
        have HB5 : Hid (W5.drew.heap[w.heap.size + 1]? = some (.cells #[.int .i64 eC] 39 (0, 0))) := Lib.hid b5
        clear he hf5 hs5 b5 y0 y1 y2 y3 y4 y5 y6 y7 y8 y9 y10
        go_upto_region 8 with fail
        go_region
        all_goals
          go_wp2_with fail
          exact cut_out HRX.out rfl rfl HB5.out HT.out (by omega) HO.out
end Go.Proofs.YtgpohemcfgepeaaGreat

namespace Go.Proofs.YtgpohemcfgepeaaGreat
open Go.RowKit Go.MapKept
def BoxAt (kb mb pb : Nat) (key val : ByteArray) (w : World) : Prop := w.heap[kb]? = some (.cells #[.string key] 9 (0, 0)) ∧ w.heap[mb]? = some (.cells #[.int .i64 0] 3 (0, 0)) ∧ w.heap[pb]? = some (.cells #[.string key, .string val] 36 (0, 0))
def MoreAt (mb : Nat) (key : ByteArray) (p : PageD) (w : World) : Prop := w.heap[mb]? = some (.cells #[.int .i64 (if findB p.pairs key = true then 0 else 1)] 3 (0, 0))
theorem enter_set : ∀ (args : Array Value) (w : World), (callFunc 56 args).run Tryz.prog w = .ok (.enter 56 args) w := fun args w => enter_of Tryz.func56 (by kernel_rfl) (by kernel_rfl) args w
theorem set_doer {N0 sb b ml mc fm kb mb pb : Nat} {key val : ByteArray} (hkb : (kb ∉ [sb, fm, b, ml, mc] ∧ mb ∉ [sb, fm, b, ml, mc] ∧ pb ∉ [sb, fm, b, ml, mc]) ∧ kb < N0 ∧ mb < N0 ∧ pb < N0) : Doer 56 #[.pointer (some ⟨kb, 0, none⟩), .pointer (some ⟨mb, 0, none⟩), .pointer (some ⟨pb, 0, none⟩)] (setLeaf key val) [mb] N0 sb b ml mc fm (BoxAt kb mb pb key val) (MoreAt mb key) where
  ent := enter_set
  run := fun w1 v p S hJ hS hX hp hd => (set1_k w1 hJ.1 hJ.2.1 hJ.2.2 hS (hX _ (by simp)) hp hd).mono fun e w2 ⟨v', h1, h2, h3, h4⟩ => ⟨v', h1, h2, h3, h4⟩
  keepJ := fun w1 w2 R hf hR hJ => by
    have key : ∀ x, x ∉ [sb, fm, b, ml, mc] → x < N0 → x ∉ R := fun x h1 h2 hm => by
      rcases hR _ hm with h | h
      · exact h1 h
      · omega
    exact ⟨hf.heap hJ.1 (key _ hkb.1.1 hkb.2.1), hf.heap hJ.2.1 (key _ hkb.1.2.1 hkb.2.2.1), hf.heap hJ.2.2 (key _ hkb.1.2.2 hkb.2.2.2)⟩
  keepM := fun w1 w2 R p hf hR hM => hf.heap hM (fun hm => by
    rcases hR _ hm with h | h
    · exact hkb.1.2.1 h
    · have := hkb.2.2.1; omega)
  byte := fun w1 hJ x hx => by rw [List.mem_singleton] at hx; subst hx; exact noByte_err hJ.2.1
  apart := fun x hx => by rw [List.mem_singleton] at hx; subst hx; exact ⟨hkb.1.2.1, hkb.2.2.1⟩
  fine := fun p hd _ => ⟨leafPg_F (by have := hd.pairs; simp; omega), rfl⟩
theorem changeK_is (key val : ByteArray) : ∀ (d : Nat) (T : StD) (n : Int), (changeK (setLeaf key val) key d T n).2.2.1 = 0 → (changeK (setLeaf key val) key d T n).2.1 = true
  | 0, T, n => fun h => by
    unfold changeK at h ⊢
    split
    · rename_i h1; rw [if_pos h1] at h; exact absurd h h1
    · rfl
  | d + 1, T, n => fun h => by
    unfold changeK at h ⊢
    split
    · rename_i h1; rw [if_pos h1] at h; exact absurd h h1
    · rename_i h1
      rw [if_neg h1] at h
      simp only at h ⊢
      split
      · rename_i h2
        rw [if_pos h2] at h
        rcases h2 with h2 | h2
        · exact absurd h h2
        · rw [changeK_is key val d T _ h] at h2; cases h2
      · rfl
def SetP (w : World) (tb sb b ml mc fm : Nat) (R : Int × TrD) (e : Ending) (w' : World) : Prop := e = .returned (.int .i64 R.1) ∧ TrR w tb sb b ml mc fm R.2 w'
theorem set_out {tmps : Array Value} {w W : World} {tb sb b ml mc fm eb : Nat} {t t0 : TrD} {R : Int × TrD} {re : Int} (hR : R = (re, t.end re)) (h5 : tmps.getD 6 undef = .pointer (some ⟨eb, 0, none⟩))
    (hb : W.heap[eb]? = some (.cells #[.int .i64 re] 39 (0, 0))) (h0 : TrAt w tb sb b ml mc fm t0) (heb : w.heap.size ≤ eb) (ht : TrR w tb sb b ml mc fm t W) :
    bodyPostD Tryz.prog Tryz.f21 (SetP w tb sb b ml mc fm R) Exit.ret { tmps := tmps, defers := [{ target := .fn (Fn.func 53) #[], args := #[.pointer (some ⟨tb, 0, none⟩), .pointer (some ⟨eb, 0, none⟩)] }] } W := by
  subst hR
  obtain ⟨fm2, ht, hf, hm⟩ := ht
  refine leaves_cons (f := 53) (args := #[.pointer (some ⟨tb, 0, none⟩), .pointer (some ⟨eb, 0, none⟩)]) (by simp) (by simp [go_sem]) ?_
  refine (tend_k W ht (blk_cell hb 0)).mono ?_
  rintro e u' w2 ⟨rfl, rfl, fm3, r1, r2, r3⟩
  exact ⟨_, set_result h5 (blk_cell (r2.heap hb (err_ne h0 heb ht hb)) 0), rfl, TrR.trans hf hm ⟨fm3, r1, r2, r3⟩⟩
theorem set_bad {tb sb b ml mc fm : Nat} {t : TrD} (key val : ByteArray) (w : World) (h : TrAt w tb sb b ml mc fm t) (hb : pairBad key val) :
    Calls Tryz.prog 21 #[.pointer (some ⟨tb, 0, none⟩), .string key, .string val] w (SetP w tb sb b ml mc fm (t.set key val)) := by
  obtain ⟨W1, hW1, hf1, hs1, b0, b1⟩ := al2 w (.cells #[.string key] 9) (.cells #[.int .i64 80] 39)
  have HQ : Hid (SetP w tb sb b ml mc fm (t.set key val) (.returned (.int .i64 80)) W1) := Lib.hid (by
    have e : t.set key val = (80, t) := by unfold TrD.set; rw [if_pos hb]
    rw [e]
    exact ⟨rfl, .ofFr h hf1⟩)
  obtain ⟨W2, hW2, hf2, hs2, d0, d1⟩ := al2 w (.cells #[.string key] 9) (.cells #[.int .i64 0] 39)
  obtain ⟨W3, hW3, hf3, hs3, b3⟩ := st1 d1 0 (.int .i64 80)
  have HQ3 : Hid (SetP w tb sb b ml mc fm (t.set key val) (.returned (.int .i64 80)) W3) := Lib.hid (by
    have e : t.set key val = (80, t) := by unfold TrD.set; rw [if_pos hb]
    rw [e]
    exact ⟨rfl, .ofFr h ((hf2.nil.trans hf3).drop (fun x hx => by rw [List.mem_singleton] at hx; omega))⟩)
  have HB := Lib.hid (blk_cell b3 0)
  have k0 := blk_cell d0 0
  have k1 := blk_cell d1 0
  have k2 := blk_free d1 0
  simp only [List.getElem?_toArray, List.getElem?_cons_zero] at k0 k1
  have h3 : (key.size : Int) < 1 ∨ (¬ (key.size : Int) < 1 ∧ 48 < (key.size : Int)) ∨ (¬ (key.size : Int) < 1 ∧ ¬ 48 < (key.size : Int) ∧ 100 < (val.size : Int)) := by
    unfold pairBad at hb; omega
  clear h hb hW1 hf1 hs1 b0 b1 HQ hf2 hs2 d0 d1 hf3 hs3 b3
  rcases h3 with a1 | ⟨a1, a2⟩ | ⟨a1, a2, a3⟩
  all_goals
    go_enter_defers Tryz.func21, Tryz.ntmps21
    go_wp2_with fail
    exact ⟨_, set_result rfl HB.out, HQ3.out⟩
set_option maxRecDepth 100000 in
set_option maxHeartbeats 4000000 in
theorem set_first {tb sb b ml mc fm : Nat} {t : TrD} (key val : ByteArray) (w : World) (h : TrAt w tb sb b ml mc fm t) (hg : t.st.good) (hb : ¬ pairBad key val) (hz : t.depth = 0) :
    Calls Tryz.prog 21 #[.pointer (some ⟨tb, 0, none⟩), .string key, .string val] w (SetP w tb sb b ml mc fm (t.set key val)) := by
  obtain ⟨W2, hW2, hf2, hs2, d0, d1⟩ := al2 w (.cells #[.string key] 9) (.cells #[.int .i64 0] 39)
  obtain ⟨W3, hW3, hf23, hs3, b2⟩ := al1 W2 (.cells #[.string key, .string val] 36)
  have hf3 := hf2.trans hf23
  have b0 := hf23.heap d0 (by simp)
  have b1 := hf23.heap d1 (by simp)
  have ht3 := h.kept hf3
  have HT := Lib.hid h
  have HT3 := Lib.hid ht3
  have HF3 := Lib.hid hf3
  have HSZ := Lib.hid (And.intro hs2 hs3)
  have HNE := Lib.hid h.ne
  have hkN := h.sto.newN (Nat.le_refl _)
  have heN := h.sto.newN (Nat.le_succ w.heap.size)
  have hpN : W2.heap.size ∉ [sb, fm, b, ml, mc] := h.sto.newN (by omega)
  have HB := Lib.hid (And.intro b0 (And.intro b1 b2))
  have HN := Lib.hid (And.intro hkN (And.intro heN hpN))
  have k5 := blk_cell d0 0
  have k3 := blk_cell b2 0
  have k4 := blk_cell b2 1
  simp only [List.getElem?_toArray, List.getElem?_cons_zero, List.getElem?_cons_succ] at k5 k3 k4
  have c3 : W3.cell? ⟨tb, 2, none⟩ = some (.int .i64 0) := by rw [← hz]; exact blk_cell ht3.blk 2
  have a1 : ¬ (key.size : Int) < 1 := by unfold pairBad at hb; omega
  have a2 : ¬ 48 < (key.size : Int) := by unfold pairBad at hb; omega
  have a3 : ¬ 100 < (val.size : Int) := by unfold pairBad at hb; omega
  obtain ⟨⟨n1, e1, T1⟩, hL⟩ : ∃ L, t.st.lay 0 (leafPg [(key, val)]) = L := ⟨_, rfl⟩
  have HLY : Hid (∀ w', Fr [] W3 w' → w'.heap[W3.heap.size]? = some (.cells #[.string key, .string val] 36 (0, 0)) → Calls Tryz.prog 54 #[.pointer (some ⟨sb, 0, none⟩), .int .i64 0, .agg #[.int .i64 1, .slice (some ⟨W3.heap.size, 0, none⟩) 1 1, .slice none 0 0, .slice none 0 0, .slice none 0 0, .int .i64 0, .int .u64 0, .int .i64 0, .int .i64 0, .int .i64 0, .int .i64 0]] w' fun e u => e = .returned (.tuple #[.int .i64 n1, .int .i64 e1]) ∧ Fr [sb, fm, b, ml, mc] W3 u ∧ TrR w tb sb b ml mc fm { t with st := T1 } u ∧ StoAp u sb [w.heap.size + 1]) := Lib.hid fun w' hq hp => by
    have h1 := lay_s (v := .agg #[.int .i64 1, .slice (some ⟨W3.heap.size, 0, none⟩) 1 1, .slice none 0 0, .slice none 0 0, .slice none 0 0, .int .i64 0, .int .u64 0, .int .i64 0, .int .i64 0, .int .i64 0, .int .i64 0]) (p := leafPg [(key, val)]) 0 w' (ht3.kept hq).sto hg ⟨_, _, _, _, rfl, Slc.ofBlock hp (ht3.sto.newN (Nat.le_refl _)) 1 1 (Nat.le_refl _), Slc.nil _ _, Slc.nil _ _, Slc.nil _ _⟩ (leafPg_F (l := [(key, val)]) (by simp)).sm (by show (0 : Int) ≤ 0; decide) (by show (0 : Int) < 18446744073709551616; decide)
    rw [hL] at h1
    refine h1.mono fun e u ⟨g1, hr⟩ => ⟨g1, ?_⟩
    obtain ⟨fm2, r1, r2, r3⟩ := hr
    have hlt := h.sto.lt
    have hz2 := hq.size
    have hfa := hf3.trans hq
    refine ⟨Fr.trans hq.nil r2, TrR.trans hfa.nil ⟨.inl rfl, .ofFr hfa hlt.1 (by simp)⟩ ((ht3.kept hq).stored ⟨fm2, r1, r2, r3⟩), r3.2 _ (fun x hx => by rw [List.mem_singleton] at hx; omega) ((h.sto.apNew (Nat.le_succ _)).kept hfa hlt.1 (by simp))⟩
  have HX : Hid (∀ w', Fr [sb, fm, b, ml, mc] W3 w' → Fr [sb, fm, b, ml, mc] W3 w' ∧ w'.cell? ⟨tb, 0, none⟩ = some (.pointer (some ⟨sb, 0, none⟩)) ∧ w'.cell? ⟨W2.heap.size, 0, none⟩ = some (.string key) ∧ w'.cell? ⟨W2.heap.size, 1, none⟩ = some (.string val)) := Lib.hid fun w' hq => ⟨hq, blk_cell (hq.heap HT3.out.blk HNE.out) 0, blk_cell (hq.heap HB.out.2.2 HN.out.2.2) 0, blk_cell (hq.heap HB.out.2.2 HN.out.2.2) 1⟩
  obtain ⟨R, hR⟩ : ∃ R, t.set key val = R := ⟨_, rfl⟩
  have HRC : Hid (R = if e1 ≠ 0 then (e1, TrD.end { t with st := T1 } e1) else (0, ⟨T1, n1, 1, 1⟩)) := Lib.hid (by
    rw [← hR]
    unfold TrD.set
    rw [if_neg hb, if_pos hz, hL])
  rw [hR]
  clear h hg hb hz hf3 hs3 b0 b1 b2 hkN heN hpN ht3 hf2 hs2 d0 d1 hL hR hf23
  go_enter_defers Tryz.func21, Tryz.ntmps21
  go_upto_region 8 with fail
  clear hW2 hW3
  go_region_held3 (fun w' => Fr [sb, fm, b, ml, mc] W3 w' ∧ w'.cell? ⟨tb, 0, none⟩ = some (.pointer (some ⟨sb, 0, none⟩)) ∧ w'.cell? ⟨W2.heap.size, 0, none⟩ = some (.string key) ∧ w'.cell? ⟨W2.heap.size, 1, none⟩ = some (.string val))
    (first
    | (refine HX.out _ ?_; simp (maxDischargeDepth := 40) only [fr_dr, fr_al, fr_refl])
    | (refine HX.out _ ?_; simp (maxDischargeDepth := 40) only [H3.out]))
    (first
    | (go_at_call 54
       refine (HLY.out _ (by first | exact Fr.alloc1 _ _ | exact (Fr.alloc1 _ _).drew) (by first | exact blk_new _ _)).mono ?_
       rintro e u ⟨rfl, c1, c2, c3⟩
       have H3 := Lib.hid c1
       have HS := Lib.hid (And.intro c2 c3)
       clear c1 c2 c3))
  have he := H3.out.heap HB.out.2.1 HN.out.2.1
  have HE := Lib.hid he
  have x0 := blk_cell he 0
  have x1 := blk_free he 0
  simp only [List.getElem?_toArray, List.getElem?_cons_zero] at x0
  by_cases h1 : e1 = 0
  · subst h1
    have HRX : Hid (R = (0, TrD.end ⟨T1, n1, 1, 1⟩ 0)) := Lib.hid (by rw [TrD.end_ok, HRC.out, if_neg (by simp)])
    have hbk : u.heap[tb]? = some (.cells (trL sb t.root t.depth t.count) 83 (0, 0)) := H3.out.heap HT3.out.blk HNE.out
    have y1 := blk_cell hbk 1
    have y2 := blk_cell hbk 2
    have y3 := blk_cell hbk 3
    have f1 := blk_free hbk 1
    have f2 := blk_free hbk 2
    have f3 := blk_free hbk 3
    have hne : tb ≠ w.heap.size + 1 := by have := HT.out.lt; omega
    obtain ⟨W5, hW5, hf5, hs5, b5⟩ := st1 hbk 1 (.int .i64 n1)
    obtain ⟨W6, hW6, hf6, hs6, b6⟩ := st1 b5 2 (.int .i64 1)
    obtain ⟨W7, hW7, hf7, hs7, b7⟩ := st1 b6 3 (.int .i64 1)
    have hf57 := (hf5.trans hf6).trans hf7
    have HR7 : Hid (TrR w tb sb b ml mc fm ⟨T1, n1, 1, 1⟩ W7) := Lib.hid (HS.out.1.written hf57 b7)
    have hap7 := HS.out.2.kept hf57 HS.out.1.lt (fun e => HNE.out (by rw [List.mem_singleton] at e; simp [e]))
    have he7 := hf57.heap he (by rw [List.mem_singleton]; exact fun e => hne e.symm)
    have z0 := blk_cell he7 0
    have z1 := blk_free he7 0
    have y5 := blk_cell b5 2
    have f5 := blk_free b5 2
    have y6 := blk_cell b6 3
    have f6 := blk_free b6 3
    obtain ⟨W8, hW8, hf8, hs8, b8⟩ := st1 he7 0 (.int .i64 0)
    have HR8 := Lib.hid (HR7.out.beside HT.out (by omega) he7 hap7 hf8)
    have HB8 := Lib.hid b8
    clear he hbk hf5 hs5 b5 hf6 hs6 b6 hf7 hs7 b7 hf57 hap7 he7 hf8 hs8 b8 hne x0 x1
    go_wp2_with fail
    exact set_out HRX.out rfl HB8.out HT.out (by omega) HR8.out
  · have HRX : Hid (R = (e1, TrD.end { t with st := T1 } e1)) := Lib.hid (by rw [HRC.out, if_pos h1])
    have be : (e1 != 0) = true := by simpa using h1
    obtain ⟨W5, hW5, hf5, hs5, b5⟩ := st1 he 0 (.int .i64 e1)
    have HR5 := Lib.hid (HS.out.1.beside HT.out (by omega) he HS.out.2 hf5)
    have HB5 := Lib.hid b5
    clear h1 he hf5 hs5 b5
    go_wp2_with fail
    exact set_out HRX.out rfl HB5.out HT.out (by omega) HR5.out
end Go.Proofs.YtgpohemcfgepeaaGreat

namespace Go.Proofs.YtgpohemcfgepeaaGreat
open Go.RowKit Go.MapKept
set_option maxRecDepth 100000 in
set_option maxHeartbeats 8000000 in
theorem set_deep {tb sb b ml mc fm : Nat} {t : TrD} (key val : ByteArray) (w : World) (h : TrAt w tb sb b ml mc fm t) (hg : t.st.good) (hb : ¬ pairBad key val) (hd0 : 0 < t.depth) (hd1 : t.depth ≤ 1000) (hc0 : -4611686018427387904 ≤ t.count) (hc1 : t.count ≤ 4611686018427387904) :
    Calls Tryz.prog 21 #[.pointer (some ⟨tb, 0, none⟩), .string key, .string val] w (SetP w tb sb b ml mc fm (t.set key val)) := by
  obtain ⟨W2, hW2, hf2, hs2, d0, d1⟩ := al2 w (.cells #[.string key] 9) (.cells #[.int .i64 0] 39)
  obtain ⟨W3, hW3, hf23, hs3, b2⟩ := al1 W2 (.cells #[.string key, .string val] 36)
  obtain ⟨W4, hW4, hf34, hs4, b3⟩ := al1 W3 (.cells #[.int .i64 0] 3)
  obtain ⟨pp, hpp⟩ : ∃ pp, W2.heap.size = pp := ⟨_, rfl⟩
  obtain ⟨mb, hmb⟩ : ∃ mb, W3.heap.size = mb := ⟨_, rfl⟩
  have HPM : Hid (w.heap.size + 2 = pp ∧ w.heap.size + 3 = mb ∧ W4.heap.size = w.heap.size + 4) := Lib.hid (by omega)
  have hf3 := hf2.trans hf23
  have hf4 := hf3.trans hf34
  have hf24 := hf23.trans hf34
  rw [hpp] at b2
  rw [hmb] at b3
  have b0 := hf24.heap d0 (by simp)
  have b1 := hf24.heap d1 (by simp)
  have b2' := hf34.heap b2 (by simp)
  have ht4 := h.kept hf4
  have HT := Lib.hid h
  have HT2 := Lib.hid ht4
  have HF2 := Lib.hid hf4
  have HNE := Lib.hid h.ne
  have hkN := h.sto.newN (Nat.le_refl _)
  have heN := h.sto.newN (Nat.le_succ w.heap.size)
  have hpN : pp ∉ [sb, fm, b, ml, mc] := h.sto.newN (by have := HPM.out; omega)
  have hmN : mb ∉ [sb, fm, b, ml, mc] := h.sto.newN (by have := HPM.out; omega)
  have HB := Lib.hid (And.intro b0 (And.intro b1 (And.intro b2' b3)))
  have HN := Lib.hid (And.intro hkN (And.intro heN (And.intro hpN hmN)))
  have k5 := blk_cell d0 0
  have k3 := blk_cell b2 0
  have k4 := blk_cell b2 1
  have k6 := blk_cell b0 0
  simp only [List.getElem?_toArray, List.getElem?_cons_zero, List.getElem?_cons_succ] at k5 k3 k4 k6
  have hdn : (t.depth == 0) = false := by rw [beq_eq_false_iff_ne]; omega
  have hbk := ht4.blk
  have c3 : W3.cell? ⟨tb, 2, none⟩ = some (.int .i64 t.depth) := blk_cell (h.kept hf3).blk 2
  have a1 : ¬ (key.size : Int) < 1 := by unfold pairBad at hb; omega
  have a2 : ¬ 48 < (key.size : Int) := by unfold pairBad at hb; omega
  have a3 : ¬ 100 < (val.size : Int) := by unfold pairBad at hb; omega
  obtain ⟨R, hR⟩ : ∃ R, t.set key val = R := ⟨_, rfl⟩
  rw [hR]
  obtain ⟨d, hd⟩ : ∃ d : Nat, t.depth = ((d + 1 : Nat) : Int) := ⟨t.depth.toNat - 1, by omega⟩
  obtain ⟨⟨pC, isC, eC, TC⟩, hC⟩ : ∃ C, changeK (setLeaf key val) key d t.st t.root = C := ⟨_, rfl⟩
  have HIS : Hid (eC = 0 → isC = true) := Lib.hid (fun h0 => by have := changeK_is key val d t.st t.root; rw [hC] at this; exact this h0)
  have HCH : Hid (∀ w', Fr [] W4 w' → ∀ Y : List Nat, mb ∈ Y → (∀ x ∈ Y, x < w'.heap.size) → Calls Tryz.prog 55 #[.pointer (some ⟨tb, 0, none⟩), .int .i64 t.root, .int .i64 t.depth, .string key, .func (.func 56) #[] #[.pointer (some ⟨w.heap.size, 0, none⟩), .pointer (some ⟨mb, 0, none⟩), .pointer (some ⟨pp, 0, none⟩)]] w' (ChP w' sb b ml mc fm [mb] Y (MoreAt mb key) (kindAt t.depth) (pC, isC, eC, TC) (leafK t.st key d t.root))) := Lib.hid fun w' hq Y hmY hY => by
    rw [← hC, hd]
    have hq2 := ht4.kept hq
    have hz := hq.size
    have hlt := h.lt
    have hsl := h.sto.lt
    have D := set_doer (N0 := w'.heap.size) (sb := sb) (b := b) (ml := ml) (mc := mc) (fm := fm) (kb := w.heap.size) (mb := mb) (pb := pp) (key := key) (val := val) ⟨⟨hkN, hmN, hpN⟩, by omega, by omega, by omega⟩
    have hYY : (∀ x, x ∈ [mb] → x ∈ Y) ∧ (∀ x, x ∈ Y → x < w'.heap.size) := ⟨(fun x hx => by rw [List.mem_singleton] at hx; rw [hx]; exact hmY), hY⟩
    exact change_k D hYY d (by omega) fm t.st t.root w' (blk_cell hq2.blk 0) HNE.out (by rw [List.mem_singleton]; omega) hq2.sto hg ⟨hq.heap b0 (by simp), hq.heap b3 (by simp), hq.heap b2' (by simp)⟩ ((h.sto.apNew (x := mb) (by omega)).kept (hf4.trans hq) hsl.1 (by simp)) (Nat.le_refl _) (.inl rfl)
  have HX : Hid (∀ w', Fr ((w.heap.size + 1) :: mb :: [sb, fm, b, ml, mc]) W4 w' → Fr ((w.heap.size + 1) :: mb :: [sb, fm, b, ml, mc]) W4 w' ∧ w'.cell? ⟨tb, 1, none⟩ = some (.int .i64 t.root) ∧ w'.cell? ⟨tb, 2, none⟩ = some (.int .i64 t.depth) ∧ w'.cell? ⟨w.heap.size, 0, none⟩ = some (.string key)) := Lib.hid fun w' hq => by
    have hlt := HT.out.lt
    have hpm := HPM.out
    have hb := hq.heap hbk (by rw [List.mem_cons, List.mem_cons, not_or, not_or]; exact ⟨by omega, by omega, HNE.out⟩)
    exact ⟨hq, blk_cell hb 1, blk_cell hb 2, blk_cell (hq.heap b0 (by rw [List.mem_cons, List.mem_cons, not_or, not_or]; exact ⟨by omega, by omega, hkN⟩)) 0⟩
  have hmf : ∀ (fn : Fn) (first cap : Array Value) (w : World), (Instr.makeFunc fn first cap).run Tryz.prog w = .ok (.func fn first cap) w := fun _ _ _ _ => rfl
  have HD := Lib.hid hd
  have HMK : Hid (moreK t key = if findB (leafK t.st key d t.root).pairs key = true then 0 else 1) := Lib.hid (by unfold moreK; rw [show (t.depth - 1).toNat = d by omega])
  have HRC : Hid (R = if eC ≠ 0 then (eC, TrD.end { t with st := TC } eC) else if (TrD.top { t with st := TC } pC).1 ≠ 0 then ((TrD.top { t with st := TC } pC).1, TrD.end (TrD.top { t with st := TC } pC).2 (TrD.top { t with st := TC } pC).1) else (0, { (TrD.top { t with st := TC } pC).2 with count := (TrD.top { t with st := TC } pC).2.count + moreK t key })) := Lib.hid (by
    rw [← hR]
    unfold TrD.set
    rw [if_neg hb, if_neg (by omega), show (t.depth - 1).toNat = d by omega]
    simp only [hC])
  have HBD := Lib.hid (And.intro hd1 (And.intro hc0 hc1))
  obtain ⟨mo, hmo⟩ : ∃ mo, moreK t key = mo := ⟨_, rfl⟩
  have HMO : Hid (0 ≤ mo ∧ mo ≤ 1) := Lib.hid (by rw [← hmo, HMK.out]; split <;> omega)
  rw [hmo] at HMK HRC
  clear h hg hb hd0 hd1 hc0 hc1 hf2 hf3 hf4 hf23 hf24 hf34 hs2 hs3 hs4 b0 b1 b2 b2' b3 d0 d1 ht4 hkN heN hpN hmN hbk hR hd hC hmo
  have HW4 := Lib.hid hW4
  clear hW4
  go_enter_defers Tryz.func21, Tryz.ntmps21
  go_upto_region 14 with fail
  rw [HW4.out]
  clear hW2 hW3 hpp hmb
  go_cut [11, 12] from 13 (fun pv is wx => ∃ pb, pv = .pointer (some ⟨pb, 0, none⟩) ∧ is = .bool isC ∧ ChgAt w tb sb b ml mc fm t (w.heap.size + 1) (kindAt t.depth) (pC, isC, eC, TC) pb wx ∧ (eC = 0 → wx.heap[mb]? = some (.cells #[.int .i64 mo] 3 (0, 0))))
  case first =>
    have HYY : Hid (∀ x ∈ [tb, mb, w.heap.size + 1], x < W4.drew.heap.size) := Lib.hid fun x hx => by
      rw [drew_sz, HPM.out.2.2]
      have := HT.out.lt
      have := HPM.out
      simp only [List.mem_cons, List.not_mem_nil, or_false] at hx
      omega
    have HAL : Hid (Fr [] W4 (W4.alloc (.cells #[.int .i64 0, .slice none 0 0, .slice none 0 0, .slice none 0 0, .slice none 0 0, .int .i64 0, .int .u64 0, .int .i64 0, .int .i64 0, .int .i64 0, .int .i64 0] 90)).drew ∧ (∀ x ∈ [tb, mb, w.heap.size + 1, W4.heap.size], x < (W4.alloc (.cells #[.int .i64 0, .slice none 0 0, .slice none 0 0, .slice none 0 0, .slice none 0 0, .int .i64 0, .int .u64 0, .int .i64 0, .int .i64 0, .int .i64 0, .int .i64 0] 90)).drew.heap.size) ∧ (W4.alloc (.cells #[.int .i64 0, .slice none 0 0, .slice none 0 0, .slice none 0 0, .slice none 0 0, .int .i64 0, .int .u64 0, .int .i64 0, .int .i64 0, .int .i64 0, .int .i64 0] 90)).drew.heap[W4.heap.size]? = some (.cells #[.int .i64 0, .slice none 0 0, .slice none 0 0, .slice none 0 0, .slice none 0 0, .int .i64 0, .int .u64 0, .int .i64 0, .int .i64 0, .int .i64 0, .int .i64 0] 90) ∧ W4.heap.size ∉ [sb, fm, b, ml, mc]) := Lib.hid ⟨(Fr.alloc1 _ _).drew, (fun x hx => by
      rw [drew_sz, heap_sz, HPM.out.2.2]
      rw [HPM.out.2.2] at hx
      have := HT.out.lt
      have := HPM.out
      simp only [List.mem_cons, List.not_mem_nil, or_false] at hx
      omega), blk_new _ _, HT2.out.sto.newN (Nat.le_refl _)⟩
    have HDR : Hid (Fr (mb :: [sb, fm, b, ml, mc]) W4 W4.drew) := Lib.hid (Fr.refl _ _).drew
    have HMN : Hid (w.heap.size + 1 ∉ mb :: [sb, fm, b, ml, mc] ∧ W4.heap.size ∉ mb :: [sb, fm, b, ml, mc]) := Lib.hid (by
      have := HPM.out
      refine ⟨fun hm => ?_, fun hm => ?_⟩
      · rcases List.mem_cons.1 hm with hm | hm
        · omega
        · exact HN.out.2.1 hm
      · rcases List.mem_cons.1 hm with hm | hm
        · omega
        · exact HAL.out.2.2.2 hm)
    go_region_held3 (fun w' => Fr ((w.heap.size + 1) :: mb :: [sb, fm, b, ml, mc]) W4 w' ∧ w'.cell? ⟨tb, 1, none⟩ = some (.int .i64 t.root) ∧ w'.cell? ⟨tb, 2, none⟩ = some (.int .i64 t.depth) ∧ w'.cell? ⟨w.heap.size, 0, none⟩ = some (.string key))
      (first
      | (refine HX.out _ ?_; simp (maxDischargeDepth := 40) only [fr_dr, fr_al, fr_refl])
      | (refine HX.out _ ?_; simp (maxDischargeDepth := 40) only [fr_al, fr_sc, fr_sn, H3.out, Nat.le_refl, List.mem_cons, true_or]))
      (first
      | (go_at_call 55
         refine (HCH.out _ (Fr.refl _ _).drew [tb, mb, w.heap.size + 1] (List.mem_cons_of_mem _ (List.mem_cons_self ..)) HYY.out).mono ?_
         rintro e u ⟨v, fm2, rfl, c1, c2, c3, c4, c5, c6⟩
         obtain ⟨v1, v2, v3, v4, rfl, hpi⟩ := c1
         obtain ⟨p1, p2, rfl, _⟩ := Slc.form hpi.pairs
         obtain ⟨p3, p4, rfl, _⟩ := Slc.form hpi.keys
         obtain ⟨p5, p6, rfl, _⟩ := Slc.form hpi.kids
         obtain ⟨p7, p8, rfl, _⟩ := Slc.form hpi.pages
         unfold pageCells
         have HPI := Lib.hid hpi
         have HCC := Lib.hid (And.intro c2 (And.intro c3 (And.intro c4 (And.intro c5 c6))))
         have c4 := HDR.out.trans c4
         have H3 : Hid (Fr ((w.heap.size + 1) :: mb :: [sb, fm, b, ml, mc]) W4 u) := by
           refine Lib.hid (c4.mono (fun x hx _ => List.mem_cons_of_mem _ hx))
         have HZ3 : Hid (W4.heap.size ≤ u.heap.size) := Lib.hid c4.size
         have hbe := c4.heap HB.out.2.1 HMN.out.1
         have HBE := Lib.hid hbe
         have f0 := blk_cell hbe 0
         have f1 := blk_free hbe 0
         simp only [List.getElem?_toArray, List.getElem?_cons_zero] at f0
         have n1 : w.heap.size + 1 ≠ u.heap.size := by have := HZ3.out; have := HPM.out; omega
         have n2 : u.heap.size ≠ w.heap.size + 1 := fun e => n1 e.symm
         have a1 : ∀ o, (u.alloc o).cell? ⟨w.heap.size + 1, 0, none⟩ = some (.int .i64 0) := fun o => blk_cell ((Fr.alloc1 u o).heap hbe (by simp)) 0
         have a2 : ∀ o, (u.alloc o).frozen? ⟨w.heap.size + 1, 0, none⟩ = false := fun o => blk_free ((Fr.alloc1 u o).heap hbe (by simp)) 0
         clear hpi c2 c3 c4 c5 c6 hbe)
      | (go_at_call 55
         refine (HCH.out _ HAL.out.1 [tb, mb, w.heap.size + 1, W4.heap.size] (List.mem_cons_of_mem _ (List.mem_cons_self ..)) HAL.out.2.1).mono ?_
         rintro e u ⟨v, fm2, rfl, c1, c2, c3, c4, c5, c6⟩
         obtain ⟨v1, v2, v3, v4, rfl, hpi⟩ := c1
         obtain ⟨p1, p2, rfl, _⟩ := Slc.form hpi.pairs
         obtain ⟨p3, p4, rfl, _⟩ := Slc.form hpi.keys
         obtain ⟨p5, p6, rfl, _⟩ := Slc.form hpi.kids
         obtain ⟨p7, p8, rfl, _⟩ := Slc.form hpi.pages
         unfold pageCells
         have HPI := Lib.hid hpi
         have hbz := c4.heap HAL.out.2.2.1 HMN.out.2
         have HBZ := Lib.hid hbz
         have HCC := Lib.hid (And.intro c2 (And.intro c3 (And.intro c4 (And.intro c5 c6))))
         have c4 := HAL.out.1.nil.trans c4
         obtain ⟨z0, z1, z2, z3, z4, z5, z6, z7, z8, z9, z10⟩ := f11 hbz
         have H3 : Hid (Fr ((w.heap.size + 1) :: mb :: [sb, fm, b, ml, mc]) W4 u) := by
           refine Lib.hid (c4.mono (fun x hx _ => List.mem_cons_of_mem _ hx))
         have HZ3 : Hid (W4.heap.size ≤ u.heap.size) := Lib.hid c4.size
         have hbe := c4.heap HB.out.2.1 HMN.out.1
         have HBE := Lib.hid hbe
         have f0 := blk_cell hbe 0
         have f1 := blk_free hbe 0
         simp only [List.getElem?_toArray, List.getElem?_cons_zero] at f0
         obtain ⟨y0, y1, y2, y3, y4, y5, y6, y7, y8, y9, y10⟩ := c11 hbz
         have n1 : w.heap.size + 1 ≠ W4.heap.size := by have := HZ3.out; have := HPM.out; omega
         have n2 : W4.heap.size ≠ w.heap.size + 1 := fun e => n1 e.symm
         clear hpi c2 c3 c4 c5 c6 hbe hbz))
    all_goals
      have HML : Hid (mb < u.heap.size) := Lib.hid (by have := HZ3.out; have := HPM.out; omega)
      go_wp2_with fail
      go_meet
      case rel =>
        first
        | (have hz := HBZ.out
           have h := chg_old (X := [mb]) (Y := [tb, mb, w.heap.size + 1, W4.heap.size]) (C := (pC, isC, eC, TC)) HT.out (HF2.out.trans HAL.out.1) HCC.out.1 HCC.out.2.1 HCC.out.2.2.1 (by have := HPM.out; simp; omega) HCC.out.2.2.2.1 (fun h1 => (HCC.out.2.2.2.2 h1).2) HPI.out (eb := w.heap.size + 1) ⟨by omega, by rw [drew_sz, heap_sz, HPM.out.2.2]; omega⟩ ⟨by rw [HPM.out.2.2]; omega, by rw [drew_sz, heap_sz]; omega⟩ n1 ⟨by simp, by simp⟩ (by simp) HBE.out hz
           dsimp only at h
           refine ⟨_, rfl, rfl, h, fun h0 => ?_⟩
           have hm := (HCC.out.2.2.2.2 h0).1
           unfold MoreAt at hm
           rw [← HMK.out] at hm
           refine Fr.heap (S := [w.heap.size + 1, W4.heap.size]) (w := u) ?_ hm (by have := HPM.out; simp; omega)
           simp (maxDischargeDepth := 40) only [fr_sc, fr_refl, List.mem_cons, true_or, or_true])
        | (have h := chg_new (X := [mb]) (Y := [tb, mb, w.heap.size + 1]) (C := (pC, isC, eC, TC)) HT.out HF2.out.drew HCC.out.1 HCC.out.2.1 HCC.out.2.2.1 (by have := HPM.out; simp; omega) HCC.out.2.2.2.1 (fun h1 => (HCC.out.2.2.2.2 h1).2) HPI.out (eb := w.heap.size + 1) ⟨by omega, by rw [drew_sz, HPM.out.2.2]; omega⟩ (by simp) (by simp) HBE.out
           unfold pageCells at h
           dsimp only at h
           refine ⟨_, rfl, rfl, h, fun h0 => ?_⟩
           have hm := (HCC.out.2.2.2.2 h0).1
           unfold MoreAt at hm
           rw [← HMK.out] at hm
           refine Fr.heap (S := [w.heap.size + 1]) (w := u) ?_ hm (by have := HPM.out; simp; omega)
           simp (maxDischargeDepth := 40) only [fr_al, fr_sc, fr_refl, List.mem_cons, true_or])
  case rest =>
    obtain ⟨pb, rfl, rfl, ⟨fm2, v1, v2, v3, v4, g1, g2, g3, g4, g5, g6, g7, g8⟩, g9⟩ := hcut
    dsimp only at g1 g2 g3 g4 g5 g8
    obtain ⟨p1, p2, rfl, _⟩ := Slc.form g2.pairs
    obtain ⟨p3, p4, rfl, _⟩ := Slc.form g2.keys
    obtain ⟨p5, p6, rfl, _⟩ := Slc.form g2.kids
    obtain ⟨p7, p8, rfl, _⟩ := Slc.form g2.pages
    have x0 := blk_cell g3 0
    have x1 := blk_free g3 0
    simp only [List.getElem?_toArray, List.getElem?_cons_zero] at x0
    have HE := Lib.hid g3
    have HTX := Lib.hid g4
    have HP := Lib.hid g2
    have HG := Lib.hid (And.intro g5 g8)
    have HW := Lib.hid g6
    have HN2 := Lib.hid g7
    have HMB := Lib.hid g9
    unfold pageCells at g1
    obtain ⟨y0, y1, y2, y3, y4, y5, y6, y7, y8, y9, y10⟩ := c11 g1
    clear g1 g2 g3 g4 g5 g6 g7 g8 g9 HCH HX
    by_cases he : eC = 0
    · subst he
      have HTP := Lib.hid (top_k wc HTX.out HG.out.1 ⟨_, _, _, _, rfl, HP.out⟩ (HG.out.2 rfl (HIS.out rfl)).1 (by have h1 := HBD.out.1; have h2 := HD.out; show 0 ≤ t.depth ∧ t.depth ≤ 1000000; omega))
      have hct := top_count { t with st := TC } pC
      obtain ⟨⟨e3, t3⟩, hT⟩ : ∃ x, TrD.top { t with st := TC } pC = x := ⟨_, rfl⟩
      rw [hT] at HTP hct
      have HRX : Hid (R = if e3 ≠ 0 then (e3, t3.end e3) else (0, { t3 with count := t3.count + mo })) := Lib.hid (by rw [HRC.out, if_neg (by simp), hT])
      have hcn : t3.count = t.count := hct
      have HCN := Lib.hid hcn
      unfold pageCells at HTP
      dsimp only at HTP
      clear hT hct hcn
      go_wp2_with fail
      with_reducible refine HTP.out.mono ?_
      rintro e u5 ⟨rfl, hr5⟩
      have hr5' : TrR w tb sb b ml mc fm t3 u5 := TrR.trans HW.out.1 HW.out.2 hr5
      obtain ⟨fm5, r1, r2, r3⟩ := hr5
      have he5 := r2.heap HE.out HN2.out.1
      have HAP5 := Lib.hid (r3.2 [w.heap.size + 1] (fun x hx => by rw [List.mem_singleton] at hx; rw [hx]; exact lt_of_heap HE.out) HN2.out.2)
      have q0 := blk_free he5 0
      have q1 := blk_cell he5 0
      simp only [List.getElem?_toArray, List.getElem?_cons_zero] at q1
      have hbk := r1.blk
      obtain ⟨W5, hW5, hf5, hs5, b5⟩ := st1 he5 0 (.int .i64 e3)
      have hne : tb ∉ [w.heap.size + 1] := by rw [List.mem_singleton]; have := HT.out.lt; omega
      have HR5 := Lib.hid (hr5'.beside HT.out (by omega) he5 HAP5.out hf5)
      have hb5 := hf5.heap hbk hne
      have hmn : mb ∉ [tb, sb, fm2, b, ml, mc] := err_ne HT.out (by have := HPM.out; omega) HTX.out (HMB.out (by trivial))
      have hm5 := hf5.heap (r2.heap (HMB.out (by trivial)) hmn) (by have := HPM.out; rw [List.mem_singleton]; omega)
      have k0 := blk_cell b5 0
      have k1 := blk_free b5 0
      have k2 : W5.cell? ⟨tb, 3, none⟩ = some (.int .i64 t3.count) := blk_cell hb5 3
      have k3 := blk_free hb5 3
      have k4 : W5.cell? ⟨mb, 0, none⟩ = some (.int .i64 mo) := blk_cell hm5 0
      have HSB : Hid (sb ∉ [w.heap.size + 1] ∧ sb ≠ tb) := Lib.hid ⟨by rw [List.mem_singleton]; have := HT.out.sto.lt; omega, fun e => HNE.out (by simp [e])⟩
      have HAP6 := Lib.hid (HAP5.out.kept hf5 hr5'.lt HSB.out.1)
      have HB5 := Lib.hid (And.intro b5 hb5)
      clear hr5' r1 r2 r3 he5 hbk hf5 hs5 b5 hb5 hm5 hmn y0 y1 y2 y3 y4 y5 y6 y7 y8 y9 y10 x0 x1
      by_cases h3 : e3 = 0
      · subst h3
        have HRY : Hid (R = (0, TrD.end { t3 with count := t3.count + mo } 0)) := Lib.hid (by rw [TrD.end_ok, HRX.out, if_neg (by simp)])
        have hw64 : IntKind.i64.wrap (t3.count + mo) = t3.count + mo := IntWalk.i64_in _ (by have := HCN.out; have := HBD.out.2; have := HMO.out; omega)
        obtain ⟨W6, hW6, hf6, hs6, b6⟩ := st1 HB5.out.2 3 (.int .i64 (t3.count + mo))
        have HR6 : Hid (TrR w tb sb b ml mc fm { t3 with count := t3.count + mo } W6.drew) := Lib.hid (HR5.out.written hf6.drew b6)
        have he6 : W6.drew.heap[w.heap.size + 1]? = _ := hf6.heap HB5.out.1 (by rw [List.mem_singleton]; rw [List.mem_singleton] at hne; omega)
        have z1 := blk_free he6 0
        have z2 := blk_cell he6 0
        obtain ⟨W7, hW7, hf7, hs7, b7⟩ := st1 he6 0 (.int .i64 0)
        have HR7 := Lib.hid (HR6.out.beside HT.out (by omega) he6 (HAP6.out.kept hf6.drew HR5.out.lt (by rw [List.mem_singleton]; exact HSB.out.2)) hf7)
        have HB7 := Lib.hid b7
        clear hf6 hs6 b6 he6 hf7 hs7 b7 hne
        go_upto_region 18 with fail
        go_region
        all_goals
          go_wp2_with fail
          exact set_out HRY.out rfl HB7.out HT.out (by omega) HR7.out
      · have HRY : Hid (R = (e3, t3.end e3)) := Lib.hid (by rw [HRX.out, if_pos h3])
        have be : (e3 == 0) = false := by simpa using h3
        obtain ⟨W6, hW6, hf6, hs6, b6⟩ := st1 HB5.out.1 0 (.int .i64 e3)
        have HR6 := Lib.hid (HR5.out.beside HT.out (by omega) HB5.out.1 HAP6.out hf6)
        have HB6 := Lib.hid b6
        clear h3 hf6 hs6 b6 hne
        go_wp2_with fail
        exact set_out HRY.out rfl HB6.out HT.out (by omega) HR6.out
    · have HRX : Hid (R = (eC, TrD.end { t with st := TC } eC)) := Lib.hid (by rw [HRC.out, if_pos he])
      have be : (eC == 0) = false := by simpa using he
      obtain ⟨W5, hW5, hf5, hs5, b5⟩ := st1 HE.out 0 (.int .i64 eC)
      have HO : Hid (TrR w tb sb b ml mc fm { t with st := TC } W5) := Lib.hid (TrR.beside ⟨fm2, HTX.out, HW.out.1, HW.out.2⟩ HT.out (by omega) HE.out HN2.out.2 hf5)
      have HB5 := Lib.hid b5
      clear he hf5 hs5 b5 y0 y1 y2 y3 y4 y5 y6 y7 y8 y9 y10
      go_wp2_with fail
      exact set_out HRX.out rfl HB5.out HT.out (by omega) HO.out
theorem set_k {tb sb b ml mc fm : Nat} {t : TrD} (key val : ByteArray) (w : World) (h : TrAt w tb sb b ml mc fm t) (hg : t.st.good) (hd0 : 0 ≤ t.depth) (hd1 : t.depth ≤ 1000) (hc0 : -4611686018427387904 ≤ t.count) (hc1 : t.count ≤ 4611686018427387904) :
    Calls Tryz.prog 21 #[.pointer (some ⟨tb, 0, none⟩), .string key, .string val] w (SetP w tb sb b ml mc fm (t.set key val)) := by
  by_cases hb : pairBad key val
  · exact set_bad key val w h hb
  · by_cases hz : t.depth = 0
    · exact set_first key val w h hg hb hz
    · exact set_deep key val w h hg hb (by omega) hd1 hc0 hc1
end Go.Proofs.YtgpohemcfgepeaaGreat
