/- a part. -/
import Derived.Test.YtgpohemcfgepeaaGreatTK
import Derived.Test.YtgpohemcfgepeaaGreatT8
namespace Go.Proofs.YtgpohemcfgepeaaGreat
open Go.RowKit Go.MapKept
theorem change_results {tmps : Array Value} {w : World} {g : Nat} {x0 x1 x2 x3 x4 x5 x6 x7 x8 x9 x10 : Value} {is : Bool} {x : Int} (h4 : tmps.getD 10 undef = .pointer (some ⟨g, 0, none⟩)) (h5 : tmps.getD 11 undef = .bool is) (h6 : tmps.getD 12 undef = .int .i64 x)
    (hp : w.heap[g]? = some (.cells #[x0, x1, x2, x3, x4, x5, x6, x7, x8, x9, x10] 90 (0, 0))) :
    (results Tryz.f55 tmps).run Tryz.prog w = .ok (.tuple #[.agg #[x0, x1, x2, x3, x4, x5, x6, x7, x8, x9, x10], .bool is, .int .i64 x]) w := by
  obtain ⟨q0, q1, q2, q3, q4, q5, q6, q7, q8, q9, q10⟩ := c11 hp
  rw [Array.getD_eq_getD_getElem?] at h4 h5 h6
  simp [results, Tryz.results55, go_sem, h4, h5, h6, q0, q1, q2, q3, q4, q5, q6, q7, q8, q9, q10]
theorem wroteR {R : List Nat} {w W Wa : World} {sb b ml mc fm fm' g : Nat} {T : StD} (hg : w.heap.size ≤ g) (hs : StoAt W sb b ml mc fm' T) (hf : Fr R w W) (hm : (fm' = fm ∨ w.heap.size ≤ fm') ∧ ApK w sb W) (hap : StoAp W sb [g]) (hnb : NoByte W g) (hn : g ∉ [sb, fm', b, ml, mc]) (hw : Fr [g] W Wa) :
    StoAt Wa sb b ml mc fm' T ∧ Fr R w Wa ∧ (fm' = fm ∨ w.heap.size ≤ fm') ∧ ApK w sb Wa := by
  refine ⟨hs.beside hap hw (by intro x hx; simp at hx; subst hx; exact hnb) (by intro x hx; simp at hx; subst hx; exact hn), ?_, hm.1, hm.2.trans (.ofFr hw hs.lt.1 (by intro e; simp at e; exact hn (by simp [e]))) hf.size⟩
  exact (hf.mono (S' := g :: R) (fun x hx _ => List.mem_cons_of_mem _ hx)).trans (hw.mono (by simp)) |>.mono (fun x hx hl => by
    rcases List.mem_cons.1 hx with rfl | hx
    · omega
    · exact hx)
structure Doer (F : Nat) (caps : Array Value) (act : PageD → PageD × Bool) (X : List Nat) (N0 sb b ml mc fm : Nat) (J : World → Prop) (Mo : PageD → World → Prop) : Prop where
  ent : ∀ args w, (callFunc F args).run Tryz.prog w = .ok (.enter F args) w
  run : ∀ (w1 : World) (v : Value) (p : PageD) (S : List Nat), J w1 → (∀ x ∈ S, x < w1.heap.size) → (∀ x ∈ X, x ∈ S) → PageAt S w1 v p → PgD p 1 →
    Calls Tryz.prog F (#[v] ++ caps) w1 fun e w2 => ∃ v', e = .returned (.tuple #[v', .bool (act p).2]) ∧ PageAt S w2 v' (act p).1 ∧ Fr X w1 w2 ∧ Mo p w2
  keepJ : ∀ w1 w2 R, Fr R w1 w2 → (∀ x ∈ R, x ∈ [sb, fm, b, ml, mc] ∨ N0 ≤ x) → J w1 → J w2
  keepM : ∀ w1 w2 R p, Fr R w1 w2 → (∀ x ∈ R, x ∈ [sb, fm, b, ml, mc] ∨ N0 ≤ x) → Mo p w1 → Mo p w2
  byte : ∀ w1, J w1 → ∀ x ∈ X, NoByte w1 x
  apart : ∀ x ∈ X, x ∉ [sb, fm, b, ml, mc] ∧ x < N0
  fine : ∀ p, PgD p 1 → (act p).2 = true → PgF (act p).1 ∧ (act p).1.kind = 1
def ChP (w : World) (sb b ml mc fm : Nat) (X Y : List Nat) (Mo : PageD → World → Prop) (K : Int) (R : PageD × Bool × Int × StD) (q : PageD) (e : Ending) (w' : World) : Prop :=
  ∃ v fm2, e = .returned (.tuple #[v, .bool R.2.1, .int .i64 R.2.2.1]) ∧ PageAt (Y ++ [sb, fm2, b, ml, mc]) w' v R.1 ∧ StoAt w' sb b ml mc fm2 R.2.2.2 ∧ R.2.2.2.good ∧ Fr (X ++ [sb, fm, b, ml, mc]) w w' ∧ ((fm2 = fm ∨ w.heap.size ≤ fm2) ∧ ApK w sb w') ∧ (R.2.2.1 = 0 → Mo q w' ∧ (R.2.1 = true → PgF R.1 ∧ R.1.kind = K))
theorem change_told {tmps : Array Value} {w W : World} {p : PageD} {v1 v2 v3 v4 : Value} {cs : Array Value} {is : Bool} {x : Int} {sb b ml mc fm fm2 g : Nat} {X Y : List Nat} {Mo : PageD → World → Prop} {K : Int} {q : PageD} {R : PageD × Bool × Int × StD} {T : StD} (hR : R = (p, is, x, T)) (h4 : tmps.getD 10 undef = .pointer (some ⟨g, 0, none⟩)) (h5 : tmps.getD 11 undef = .bool is) (h6 : tmps.getD 12 undef = .int .i64 x)
    (hb : W.heap[g]? = some (.cells cs 90 (0, 0))) (hl : cs.size = 11) (hg : w.heap.size ≤ g) (hs : StoAt W sb b ml mc fm2 T) (hgd : T.good) (hf : Fr (X ++ [sb, fm, b, ml, mc]) w W) (hm : (fm2 = fm ∨ w.heap.size ≤ fm2) ∧ ApK w sb W) (hap : StoAp W sb [g]) (hnb : NoByte W g) (hn : g ∉ [sb, fm2, b, ml, mc])
    (hi : PageIn (g :: (Y ++ [sb, fm2, b, ml, mc])) W p v1 v2 v3 v4) (hM : ∀ Wa, Fr [g] W Wa → x = 0 → Mo q Wa ∧ (is = true → PgF p ∧ p.kind = K)) :
    bodyPost Tryz.prog Tryz.f55 (ChP w sb b ml mc fm X Y Mo K R q) Exit.ret { tmps := tmps, defers := [] } (((((((((((W.setCell ⟨g, 0, none⟩ (.int .i64 p.kind)).setCell ⟨g, 1, none⟩ (v1)).setCell ⟨g, 2, none⟩ (v2)).setCell ⟨g, 3, none⟩ (v3)).setCell ⟨g, 4, none⟩ (v4)).setCell ⟨g, 5, none⟩ (.int .i64 p.next)).setCell ⟨g, 6, none⟩ (.int .u64 p.epoch)).setCell ⟨g, 7, none⟩ (.int .i64 p.root)).setCell ⟨g, 8, none⟩ (.int .i64 p.depth)).setCell ⟨g, 9, none⟩ (.int .i64 p.count)).setCell ⟨g, 10, none⟩ (.int .i64 p.high)) := by
  subst hR
  obtain ⟨Wa, hWa, fa, ba⟩ := st11 hb hl (.int .i64 p.kind) v1 v2 v3 v4 (.int .i64 p.next) (.int .u64 p.epoch) (.int .i64 p.root) (.int .i64 p.depth) (.int .i64 p.count) (.int .i64 p.high)
  rw [hWa]
  obtain ⟨w1, w2, w3⟩ := wroteR hg hs hf hm hap hnb hn fa
  exact bodyPost_ret (v := .tuple #[.agg (pageCells p v1 v2 v3 v4).toArray, .bool is, .int .i64 x]) (change_results h4 h5 h6 ba) rfl ⟨_, fm2, rfl, ⟨_, _, _, _, rfl, (hi.kept (fa.mono (by simp))).mono (fun x hx => List.mem_cons_of_mem _ hx)⟩, w1, hgd, w2, w3, hM Wa fa⟩
set_option maxRecDepth 100000 in
set_option maxHeartbeats 8000000 in
theorem change_0 {F : Nat} {caps : Array Value} {act : PageD → PageD × Bool} {X Y : List Nat} {N0 tb sb b ml mc fm0 : Nat} {J : World → Prop} {Mo : PageD → World → Prop} (D : Doer F caps act X N0 sb b ml mc fm0 J Mo) (hY : (∀ x, x ∈ X → x ∈ Y) ∧ ∀ x, x ∈ Y → x < N0) {key : ByteArray} {fm : Nat} {T : StD} (n : Int) (w : World) (hc0 : w.cell? ⟨tb, 0, none⟩ = some (.pointer (some ⟨sb, 0, none⟩))) (hne : tb ∉ [sb, fm, b, ml, mc]) (htX : tb ∉ X) (h : StoAt w sb b ml mc fm T) (hg : T.good) (hJ : J w) (hap : StoAp w sb X) (hN : N0 ≤ w.heap.size) (hfm : fm = fm0 ∨ N0 ≤ fm) :
    Calls Tryz.prog 55 #[.pointer (some ⟨tb, 0, none⟩), .int .i64 n, .int .i64 1, .string key, .func (.func F) #[] caps] w (ChP w sb b ml mc fm X Y Mo (kindAt 1) (changeK act key 0 T n) (leafK T key 0 n)) := by
  have hlt := h.lt
  have htb : tb < w.heap.size := lt_of_cell hc0
  obtain ⟨W1, hW1, hf1, hs1, b1⟩ := al1 w (.cells #[.int .i64 0, .slice none 0 0, .slice none 0 0, .slice none 0 0, .slice none 0 0, .int .i64 0, .int .u64 0, .int .i64 0, .int .i64 0, .int .i64 0, .int .i64 0] 90)
  have b1z : W1.heap[w.heap.size]? = some (.cells (pageCells pgZero nilV nilV nilV nilV).toArray 90 (0, 0)) := b1
  have hXlt : ∀ x ∈ X, x < w.heap.size := fun x hx => Nat.lt_of_lt_of_le (D.apart x hx).2 hN
  have hXfm : ∀ x ∈ X, x ∉ [sb, fm, b, ml, mc] := fun x hx hm => by
    have h1 := (D.apart x hx).1
    have h2 := (D.apart x hx).2
    simp only [List.mem_cons, List.not_mem_nil, or_false, not_or] at h1 hm
    rcases hfm with e | e
    · subst e; simp [h1] at hm
    · omega
  have HD := Lib.hid D
  have HY : Hid ((∀ x, x ∈ X → x ∈ Y) ∧ ∀ x, x ∈ Y → x < w.heap.size) := Lib.hid ⟨hY.1, fun x hx => Nat.lt_of_lt_of_le (hY.2 x hx) hN⟩
  have HX := Lib.hid (And.intro hXlt hXfm)
  have HN := Lib.hid (And.intro hN hfm)
  have HNE := Lib.hid (And.intro hne (And.intro htX htb))
  have HG0 : Hid (w.heap.size ∉ [sb, fm, b, ml, mc]) := Lib.hid (h.newN (Nat.le_refl _))
  have HGX : Hid (w.heap.size ∉ X) := Lib.hid (fun hm => Nat.lt_irrefl _ (hXlt _ hm))
  have HST := Lib.hid (h.kept hf1)
  have HSB := Lib.hid h.lt.1
  have HG := Lib.hid hg
  have HF1 := Lib.hid hf1
  have HB := Lib.hid b1
  have HAP : Hid (∀ w', Fr [] W1 w' → StoAp w' sb X ∧ StoAp w' sb [w.heap.size] ∧ NoByte w' w.heap.size) := Lib.hid fun w' hq =>
    ⟨(hap.kept hf1 h.lt.1 (by simp)).kept hq (h.kept hf1).lt.1 (by simp), ((h.apNew (Nat.le_refl _)).kept hf1 h.lt.1 (by simp)).kept hq (h.kept hf1).lt.1 (by simp), noByte_page (hq.heap b1z (by simp)) (by intro v hv; simp at hv; subst hv; exact ⟨_, _, _, rfl⟩)⟩
  have HSZ := Lib.hid hs1
  have HC0 := Lib.hid (hf1.cellSome hc0 (by simp))
  have HPS : Hid (∀ x, x ∈ w.heap.size :: (Y ++ [sb, fm, b, ml, mc]) → x < W1.heap.size) := Lib.hid (fun x hx => by
    rw [HSZ.out]
    rcases List.mem_cons.1 hx with rfl | hx
    · omega
    · rcases List.mem_append.1 hx with hx | hx
      · have := HY.out.2 x hx; omega
      · have := HST.out.lt; have := HSZ.out; simp at hx; omega)
  have HJ := Lib.hid (D.keepJ _ _ [] hf1 (by simp) hJ)
  have HTP := Lib.hid (tpage_k n 1 W1 (hf1.cellSome hc0 (by simp)) (h.kept hf1))
  have hent := D.ent
  obtain ⟨⟨p, e1⟩, hR⟩ : ∃ x, pageK T n 1 = x := ⟨_, rfl⟩
  have HPK := Lib.hid hR
  rw [hR] at HTP
  unfold PageOut pageCells at HTP
  dsimp only at HTP
  clear h hg hJ hap hN hfm hne htX hlt htb hf1 hs1 b1 b1z hXlt hXfm hc0 hR D hY
  go_enter Tryz.func55, Tryz.ntmps55
  go_wp2_with fail
  clear hW1
  with_reducible refine HTP.out.mono ?_
  rintro e u1 ⟨pp, pk, pd, pg, rfl, hpi, hu1⟩
  obtain ⟨p1, p2, rfl, _⟩ := Slc.form (hpi [] (by simp)).pairs
  obtain ⟨p3, p4, rfl, _⟩ := Slc.form (hpi [] (by simp)).keys
  obtain ⟨p5, p6, rfl, hp6⟩ := Slc.form (hpi [] (by simp)).kids
  obtain ⟨p7, p8, rfl, _⟩ := Slc.form (hpi [] (by simp)).pages
  obtain ⟨W5, hW5, hf5, hs5, b5⟩ := al1 u1 (.cells (pageCells p (.slice p1 p.pairs.length p2) (.slice p3 p.keys.length p4) (.slice p5 p.kids.length p6) (.slice p7 p.pages.length p8)).toArray 90)
  have HPI := Lib.hid fun (S : List Nat) (hS : ∀ x, x ∈ S → x < W1.heap.size) => (hpi S hS).kept hf5.nil
  have HQ5 := Lib.hid (hu1.trans hf5)
  have hst1 := HST.out.kept hu1
  have HPIZ : Hid (PageIn (u1.heap.size :: w.heap.size :: (Y ++ [sb, fm, b, ml, mc])) W5 p _ _ _ _) := Lib.hid ((((hpi (w.heap.size :: (Y ++ [sb, fm, b, ml, mc])) HPS.out).more (S' := u1.heap.size :: w.heap.size :: (Y ++ [sb, fm, b, ml, mc])) (fun x hx => by
    rcases List.mem_cons.1 hx with rfl | hx
    · exact .inr (Nat.le_refl _)
    · exact .inl hx)).kept hf5.nil))
  have HAPZ : Hid (∀ w', Fr [] W5 w' → StoAp w' sb (u1.heap.size :: w.heap.size :: X)) := Lib.hid fun w' hq => by
    have h1 := (HAP.out W5 (hu1.trans hf5))
    have h2 : StoAp W5 sb [u1.heap.size] := (hst1.apNew (Nat.le_refl _)).kept hf5 hst1.lt.1 (by simp)
    exact ((h2.and (h1.2.1.and h1.1)).kept hq (hst1.kept hf5).lt.1 (by simp)).mono (fun x hx => by simpa using hx)
  have HB13 : Hid (u1.heap.size ∉ [sb, fm, b, ml, mc] ∧ u1.heap.size ∉ X ∧ u1.heap.size ≠ w.heap.size) := Lib.hid ⟨hst1.newN (Nat.le_refl _), fun hm => by have h1 := HX.out.1 _ hm; have h2 := hu1.size; have h3 := HSZ.out; omega, by have h2 := hu1.size; have h3 := HSZ.out; omega⟩
  have HB5 := Lib.hid (And.intro ((hu1.trans hf5).heap HB.out (by simp)) b5)
  have HU1 : Hid (W1.heap.size ≤ u1.heap.size ∧ W5.heap.size = u1.heap.size + 1) := Lib.hid ⟨hu1.size, hs5⟩
  have HCAP := Lib.hid hp6
  unfold pageCells at hW5 HB5
  clear hpi hu1 hf5 hs5 b5 HTP hp6 hst1
  by_cases he : e1 = 0
  · subst he
    have HPD : Hid (PgD p 1) := Lib.hid (by have := pageK_D (T := T) (n := n) (d := 1) (by rw [HPK.out]); rw [HPK.out] at this; exact this)
    have hj5 := HD.out.keepJ W1 W5 [] HQ5.out (by simp) HJ.out
    have HRUN := Lib.hid (HD.out.run W5 _ p (w.heap.size :: (Y ++ [sb, fm, b, ml, mc])) hj5 (fun x hx => Nat.lt_of_lt_of_le (HPS.out x hx) HQ5.out.size) (fun x hx => List.mem_cons_of_mem _ (List.mem_append.2 (.inl (HY.out.1 x hx)))) ⟨_, _, _, _, rfl, HPI.out _ HPS.out⟩ HPD.out)
    have HJ5 := Lib.hid hj5
    have HFN := Lib.hid (HD.out.fine p HPD.out)
    obtain ⟨⟨q, is⟩, hA⟩ : ∃ x, act p = x := ⟨_, rfl⟩
    have HRS : Hid (changeK act key 0 T n = (q, is, 0, T)) := Lib.hid (by
      unfold changeK
      rw [show pageK T n 1 = (p, 0) from HPK.out, if_neg (by simp), hA])
    have HLF : Hid (leafK T key 0 n = p) := Lib.hid (by unfold leafK; rw [show pageK T n 1 = (p, 0) from HPK.out])
    rw [hA] at HRUN HFN
    dsimp only at HFN
    obtain ⟨q0, q1, q2, q3, q4, q5, q6, q7, q8, q9, q10⟩ := c11 HB5.out.2
    unfold pageCells at HRUN
    clear hj5 hA
    go_wp2_with fail
    with_reducible refine HRUN.out.mono ?_
    rintro e u2 ⟨v', rfl, hpv, hu2, hmo⟩
    obtain ⟨_, _, _, _, rfl, hpv⟩ := hpv
    obtain ⟨y1, y2, rfl, _⟩ := Slc.form hpv.pairs
    obtain ⟨y3, y4, rfl, _⟩ := Slc.form hpv.keys
    obtain ⟨y5, y6, rfl, _⟩ := Slc.form hpv.kids
    obtain ⟨y7, y8, rfl, _⟩ := Slc.form hpv.pages
    have hst6 := (HST.out.kept HQ5.out).beside (HAP.out _ HQ5.out).1 hu2 (HD.out.byte W5 HJ5.out) HX.out.2
    have hsX : sb ∉ X := fun hm => HX.out.2 sb hm (by simp)
    have hmk := ((ApK.ofFr (HF1.out.trans HQ5.out) HSB.out (by simp)).trans (ApK.ofFr hu2 (HST.out.kept HQ5.out).lt.1 hsX) (HF1.out.trans HQ5.out).size)
    obtain ⟨W6, hW6, hf6, hs6, b6⟩ := al1 u2 (.cells (pageCells q (.slice y1 q.pairs.length y2) (.slice y3 q.keys.length y4) (.slice y5 q.kids.length y6) (.slice y7 q.pages.length y8)).toArray 90)
    have HB6 := Lib.hid (hf6.heap (hu2.heap HB5.out.1 HGX.out) (by simp))
    have HST6 := Lib.hid (hst6.kept hf6)
    have HF6 : Hid (Fr (X ++ [sb, fm, b, ml, mc]) w W6) := Lib.hid (((HF1.out.trans HQ5.out).nil.trans (hu2.mono (fun x hx _ => List.mem_append.2 (.inl hx)))).trans hf6.nil)
    have HMK := Lib.hid (hmk.trans (ApK.ofFr hf6 hst6.lt.1 (by simp)) (Nat.le_trans (HF1.out.trans HQ5.out).size hu2.size))
    have HAP6 := Lib.hid (((HAP.out _ HQ5.out).2.1.kept hu2 (HST.out.kept HQ5.out).lt.1 hsX).kept hf6 hst6.lt.1 (by simp))
    have HPQ := Lib.hid (hpv.kept hf6.nil)
    have HMO := Lib.hid (HD.out.keepM u2 W6 [] p hf6 (by simp) hmo)
    unfold pageCells at hW6 b6 ⊢
    obtain ⟨t0, t1, t2, t3, t4, t5, t6, t7, t8, t9, t10⟩ := c11 HB6.out
    obtain ⟨z0, z1, z2, z3, z4, z5, z6, z7, z8, z9, z10⟩ := f11 HB6.out
    clear q0 q1 q2 q3 q4 q5 q6 q7 q8 q9 q10
    obtain ⟨q0, q1, q2, q3, q4, q5, q6, q7, q8, q9, q10⟩ := c11 b6
    clear hpv hu2 hmo hst6 hsX hmk hf6 hs6 b6 HRUN
    go_wp2_with fail
    rw [HLF.out]
    exact change_told HRS.out rfl rfl rfl HB6.out rfl (Nat.le_refl _) HST6.out HG.out HF6.out ⟨.inl rfl, HMK.out⟩ HAP6.out (noByte_page (p := pgZero) (pv := nilV) (kv := nilV) (dv := nilV) (gv := nilV) HB6.out (by intro v hv; simp at hv; subst hv; exact ⟨_, _, _, rfl⟩)) HG0.out HPQ.out (fun Wa hfa _ => ⟨HD.out.keepM W6 Wa _ p hfa (fun x hx => .inr (by rw [List.mem_singleton] at hx; subst hx; exact HN.out.1)) HMO.out, fun hi => HFN.out hi⟩)
  · have HRS : Hid (changeK act key 0 T n = (p, false, e1, T)) := Lib.hid (by unfold changeK; rw [show pageK T n 1 = (p, e1) from HPK.out, if_pos he])
    have be : (e1 != 0) = true := by simpa using he
    have HE := Lib.hid he
    clear he
    obtain ⟨q0, q1, q2, q3, q4, q5, q6, q7, q8, q9, q10⟩ := c11 HB5.out.2
    obtain ⟨t0, t1, t2, t3, t4, t5, t6, t7, t8, t9, t10⟩ := c11 HB5.out.1
    obtain ⟨z0, z1, z2, z3, z4, z5, z6, z7, z8, z9, z10⟩ := f11 HB5.out.1
    go_wp2_with fail
    exact change_told HRS.out rfl rfl rfl HB5.out.1 rfl (Nat.le_refl _) (HST.out.kept HQ5.out) HG.out (HF1.out.trans HQ5.out).nil (MR.of (HF1.out.trans HQ5.out) HSB.out) (HAP.out _ HQ5.out).2.1 (HAP.out _ HQ5.out).2.2 HG0.out (HPI.out _ HPS.out) (fun _ _ h0 => absurd h0 HE.out)
end Go.Proofs.YtgpohemcfgepeaaGreat

namespace Go.Proofs.YtgpohemcfgepeaaGreat
open Go.RowKit Go.MapKept
set_option maxRecDepth 100000 in
set_option maxHeartbeats 8000000 in
theorem change_s {F : Nat} {caps : Array Value} {act : PageD → PageD × Bool} {X Y : List Nat} {N0 tb sb b ml mc fm0 : Nat} {J : World → Prop} {Mo : PageD → World → Prop} (D : Doer F caps act X N0 sb b ml mc fm0 J Mo) (hY : (∀ x, x ∈ X → x ∈ Y) ∧ ∀ x, x ∈ Y → x < N0) {key : ByteArray} {d : Nat} {dd : Int} (hdd : dd = ((d + 2 : Nat) : Int) ∧ d ≤ 1000) (ih : ∀ (fm : Nat) (T : StD) (n : Int) (w : World), w.cell? ⟨tb, 0, none⟩ = some (.pointer (some ⟨sb, 0, none⟩)) → tb ∉ [sb, fm, b, ml, mc] → tb ∉ X → StoAt w sb b ml mc fm T → T.good → J w → StoAp w sb X → N0 ≤ w.heap.size → (fm = fm0 ∨ N0 ≤ fm) → Calls Tryz.prog 55 #[.pointer (some ⟨tb, 0, none⟩), .int .i64 n, .int .i64 ((d + 1 : Nat) : Int), .string key, .func (.func F) #[] caps] w (ChP w sb b ml mc fm X Y Mo (kindAt ((d + 1 : Nat) : Int)) (changeK act key d T n) (leafK T key d n))) {fm : Nat} {T : StD} (n : Int) (w : World) (hc0 : w.cell? ⟨tb, 0, none⟩ = some (.pointer (some ⟨sb, 0, none⟩))) (hne : tb ∉ [sb, fm, b, ml, mc]) (htX : tb ∉ X) (h : StoAt w sb b ml mc fm T) (hg : T.good) (hJ : J w) (hap : StoAp w sb X) (hN : N0 ≤ w.heap.size) (hfm : fm = fm0 ∨ N0 ≤ fm) :
    Calls Tryz.prog 55 #[.pointer (some ⟨tb, 0, none⟩), .int .i64 n, .int .i64 dd, .string key, .func (.func F) #[] caps] w (ChP w sb b ml mc fm X Y Mo (kindAt dd) (changeK act key (d + 1) T n) (leafK T key (d + 1) n)) := by
  have HDD := Lib.hid hdd
  have hlt := h.lt
  have htb : tb < w.heap.size := lt_of_cell hc0
  obtain ⟨W1, hW1, hf1, hs1, b1⟩ := al1 w (.cells #[.int .i64 0, .slice none 0 0, .slice none 0 0, .slice none 0 0, .slice none 0 0, .int .i64 0, .int .u64 0, .int .i64 0, .int .i64 0, .int .i64 0, .int .i64 0] 90)
  have b1z : W1.heap[w.heap.size]? = some (.cells (pageCells pgZero nilV nilV nilV nilV).toArray 90 (0, 0)) := b1
  have hXlt : ∀ x ∈ X, x < w.heap.size := fun x hx => Nat.lt_of_lt_of_le (D.apart x hx).2 hN
  have hXfm : ∀ x ∈ X, x ∉ [sb, fm, b, ml, mc] := fun x hx hm => by
    have h1 := (D.apart x hx).1
    have h2 := (D.apart x hx).2
    simp only [List.mem_cons, List.not_mem_nil, or_false, not_or] at h1 hm
    rcases hfm with e | e
    · subst e; simp [h1] at hm
    · omega
  have HD := Lib.hid D
  have HY : Hid ((∀ x, x ∈ X → x ∈ Y) ∧ ∀ x, x ∈ Y → x < w.heap.size) := Lib.hid ⟨hY.1, fun x hx => Nat.lt_of_lt_of_le (hY.2 x hx) hN⟩
  have HX := Lib.hid (And.intro hXlt hXfm)
  have HN := Lib.hid (And.intro hN hfm)
  have HNE := Lib.hid (And.intro hne (And.intro htX htb))
  have HG0 : Hid (w.heap.size ∉ [sb, fm, b, ml, mc]) := Lib.hid (h.newN (Nat.le_refl _))
  have HGX : Hid (w.heap.size ∉ X) := Lib.hid (fun hm => Nat.lt_irrefl _ (hXlt _ hm))
  have HST := Lib.hid (h.kept hf1)
  have HSB := Lib.hid h.lt.1
  have HG := Lib.hid hg
  have HF1 := Lib.hid hf1
  have HB := Lib.hid b1
  have HAP : Hid (∀ w', Fr [] W1 w' → StoAp w' sb X ∧ StoAp w' sb [w.heap.size] ∧ NoByte w' w.heap.size) := Lib.hid fun w' hq =>
    ⟨(hap.kept hf1 h.lt.1 (by simp)).kept hq (h.kept hf1).lt.1 (by simp), ((h.apNew (Nat.le_refl _)).kept hf1 h.lt.1 (by simp)).kept hq (h.kept hf1).lt.1 (by simp), noByte_page (hq.heap b1z (by simp)) (by intro v hv; simp at hv; subst hv; exact ⟨_, _, _, rfl⟩)⟩
  have HSZ := Lib.hid hs1
  have HC0 := Lib.hid (hf1.cellSome hc0 (by simp))
  have HPS : Hid (∀ x, x ∈ w.heap.size :: (Y ++ [sb, fm, b, ml, mc]) → x < W1.heap.size) := Lib.hid (fun x hx => by
    rw [HSZ.out]
    rcases List.mem_cons.1 hx with rfl | hx
    · omega
    · rcases List.mem_append.1 hx with hx | hx
      · have := HY.out.2 x hx; omega
      · have := HST.out.lt; have := HSZ.out; simp at hx; omega)
  have HJ := Lib.hid (D.keepJ _ _ [] hf1 (by simp) hJ)
  have HTP := Lib.hid (tpage_k n dd W1 (hf1.cellSome hc0 (by simp)) (h.kept hf1))
  have hent := D.ent
  obtain ⟨⟨p, e1⟩, hR⟩ : ∃ x, pageK T n dd = x := ⟨_, rfl⟩
  have HPK := Lib.hid hR
  rw [hR] at HTP
  unfold PageOut pageCells at HTP
  dsimp only at HTP
  clear h hg hJ hap hN hfm hne htX hlt htb hf1 hs1 b1 b1z hXlt hXfm hc0 hR D hY hdd
  go_enter Tryz.func55, Tryz.ntmps55
  go_wp2_with fail
  clear hW1
  with_reducible refine HTP.out.mono ?_
  rintro e u1 ⟨pp, pk, pd, pg, rfl, hpi, hu1⟩
  obtain ⟨p1, p2, rfl, _⟩ := Slc.form (hpi [] (by simp)).pairs
  obtain ⟨p3, p4, rfl, _⟩ := Slc.form (hpi [] (by simp)).keys
  obtain ⟨p5, p6, rfl, hp6⟩ := Slc.form (hpi [] (by simp)).kids
  obtain ⟨p7, p8, rfl, _⟩ := Slc.form (hpi [] (by simp)).pages
  obtain ⟨W5, hW5, hf5, hs5, b5⟩ := al1 u1 (.cells (pageCells p (.slice p1 p.pairs.length p2) (.slice p3 p.keys.length p4) (.slice p5 p.kids.length p6) (.slice p7 p.pages.length p8)).toArray 90)
  have HPI := Lib.hid fun (S : List Nat) (hS : ∀ x, x ∈ S → x < W1.heap.size) => (hpi S hS).kept hf5.nil
  have HQ5 := Lib.hid (hu1.trans hf5)
  have hst1 := HST.out.kept hu1
  have HPIZ : Hid (PageIn (u1.heap.size :: w.heap.size :: (Y ++ [sb, fm, b, ml, mc])) W5 p _ _ _ _) := Lib.hid ((((hpi (w.heap.size :: (Y ++ [sb, fm, b, ml, mc])) HPS.out).more (S' := u1.heap.size :: w.heap.size :: (Y ++ [sb, fm, b, ml, mc])) (fun x hx => by
    rcases List.mem_cons.1 hx with rfl | hx
    · exact .inr (Nat.le_refl _)
    · exact .inl hx)).kept hf5.nil))
  have HAPZ : Hid (∀ w', Fr [] W5 w' → StoAp w' sb (u1.heap.size :: w.heap.size :: X)) := Lib.hid fun w' hq => by
    have h1 := (HAP.out W5 (hu1.trans hf5))
    have h2 : StoAp W5 sb [u1.heap.size] := (hst1.apNew (Nat.le_refl _)).kept hf5 hst1.lt.1 (by simp)
    exact ((h2.and (h1.2.1.and h1.1)).kept hq (hst1.kept hf5).lt.1 (by simp)).mono (fun x hx => by simpa using hx)
  have HB13 : Hid (u1.heap.size ∉ [sb, fm, b, ml, mc] ∧ u1.heap.size ∉ X ∧ u1.heap.size ≠ w.heap.size) := Lib.hid ⟨hst1.newN (Nat.le_refl _), fun hm => by have h1 := HX.out.1 _ hm; have h2 := hu1.size; have h3 := HSZ.out; omega, by have h2 := hu1.size; have h3 := HSZ.out; omega⟩
  have HB5 := Lib.hid (And.intro ((hu1.trans hf5).heap HB.out (by simp)) b5)
  have HU1 : Hid (W1.heap.size ≤ u1.heap.size ∧ W5.heap.size = u1.heap.size + 1) := Lib.hid ⟨hu1.size, hs5⟩
  have HCAP := Lib.hid hp6
  unfold pageCells at hW5 HB5
  clear hpi hu1 hf5 hs5 b5 HTP hp6 hst1
  by_cases he : e1 = 0
  · subst he
    have HPD : Hid (PgD p dd) := Lib.hid (by have := pageK_D (T := T) (n := n) (d := dd) (by rw [HPK.out]); rw [HPK.out] at this; exact this)
    have HKD : Hid (p.kind = 2 ∧ dd - 1 = ((d + 1 : Nat) : Int) ∧ dd = ((d + 2 : Nat) : Int) ∧ d ≤ 1000) := Lib.hid (by
      have h1 := HPD.out.kind
      have h2 := HDD.out
      unfold kindAt at h1
      rw [if_neg (by omega)] at h1
      exact ⟨h1, by omega, h2.1, h2.2⟩)
    have bdd : (dd == 1) = false := by have := HDD.out; simp; omega
    obtain ⟨dd1, hdd1⟩ : ∃ x : Int, dd - 1 = x := ⟨_, rfl⟩
    have hd0 : (2 : Int) ≤ dd := by have := HDD.out; omega
    have hd1 : dd ≤ 2000 := by have := HDD.out; omega
    have HKK : Hid (p.kids.length = p.keys.length + 1) := Lib.hid (by
      rcases HPD.out.f.form with h | h
      · have := HKD.out.1; omega
      · exact h.2.2)
    obtain ⟨i, hi⟩ : ∃ i, kidN p.keys key = i := ⟨_, rfl⟩
    have hil : i ≤ p.keys.length := by rw [← hi]; exact kidN_le _ _
    have HIL := Lib.hid hil
    have HI := Lib.hid hi
    have HKID := Lib.hid (kid_k (S := []) (c := i) key W5 (HPI.out [] (by simp)) (by have := HPD.out.keys; omega) hil (by rw [← hi]; exact kidN_at (HPD.out.ks HKD.out.1)))
    have hsl := HPI.out [] (by simp)
    obtain ⟨Bk, ok, rfl⟩ : ∃ B off, p5 = some ⟨B, off, none⟩ := by
      rcases hsl.kids with ⟨_, _, _, h0, _⟩ | ⟨B, off, cap, h, _⟩
      · have := HKK.out; omega
      · cases h; exact ⟨B, off, rfl⟩
    have hkat := fun (w' : World) (hq : Fr [] W5 w') => Ints.at (hsl.kids.kept hq) (i := i) (by have := HKK.out; omega)
    obtain ⟨kd, hkd⟩ : ∃ kd, p.kids[i]'(by have := HKK.out; omega) = kd := ⟨_, rfl⟩
    rw [hkd] at hkat
    have HKAT := Lib.hid hkat
    have HKDI : Hid (p.kids.getD i 0 = kd) := Lib.hid (by rw [List.getD_eq_getElem?_getD, List.getElem?_eq_getElem (by have := HKK.out; omega), hkd]; rfl)
    have hiI : (i : Int) < p.kids.length := by have := HKK.out; omega
    obtain ⟨q0, q1, q2, q3, q4, q5, q6, q7, q8, q9, q10⟩ := c11 HB5.out.2
    unfold pageCells at HKID
    clear hi hil hsl hkat hkd
    go_wp2_with fail
    with_reducible refine HKID.out.mono ?_
    rintro e u2 ⟨rfl, hu2⟩
    have hkc := HKAT.out u2 hu2
    have HU2 := Lib.hid hu2
    have HQ2 := Lib.hid (HQ5.out.trans hu2)
    have HB2 := Lib.hid (And.intro (hu2.heap HB5.out.1 (by simp)) (hu2.heap HB5.out.2 (by simp)))
    have HIH := Lib.hid (ih fm T kd u2 (HQ2.out.cellSome HC0.out (by simp)) HNE.out.1 HNE.out.2.1 (HST.out.kept HQ2.out) HG.out (HD.out.keepJ W1 u2 [] HQ2.out (by simp) HJ.out) (HAP.out _ HQ2.out).1 (by have := HQ2.out.size; have := HSZ.out; have := HN.out.1; omega) HN.out.2)
    clear q0 q1 q2 q3 q4 q5 q6 q7 q8 q9 q10
    have q3 := (c11 HB2.out.2).2.2.2.1
    rw [show ((d + 1 : Nat) : Int) = dd1 by rw [← hdd1]; exact HKD.out.2.1.symm] at HIH
    have HDD1 : Hid (dd1 = ((d + 1 : Nat) : Int)) := Lib.hid (by rw [← hdd1]; exact HKD.out.2.1)
    unfold ChP at HIH
    obtain ⟨⟨c, is, e2, T2⟩, hR2⟩ : ∃ x, changeK act key d T kd = x := ⟨_, rfl⟩
    have HR2 := Lib.hid hR2
    rw [hR2] at HIH
    dsimp only at HIH
    clear hu2 hR2
    go_wp2_with fail
    with_reducible refine HIH.out.mono ?_
    rintro e u3 ⟨v3, fm2, rfl, hv3, s1, s2, s3, s4, s5⟩
    obtain ⟨_, _, _, _, rfl, hv3⟩ := hv3
    obtain ⟨y1, y2, rfl, _⟩ := Slc.form hv3.pairs
    obtain ⟨y3, y4, rfl, _⟩ := Slc.form hv3.keys
    obtain ⟨y5, y6, rfl, _⟩ := Slc.form hv3.kids
    obtain ⟨y7, y8, rfl, _⟩ := Slc.form hv3.pages
    obtain ⟨W6, hW6, hf6, hs6, b6⟩ := al1 u3 (.cells (pageCells c (.slice y1 c.pairs.length y2) (.slice y3 c.keys.length y4) (.slice y5 c.kids.length y6) (.slice y7 c.pages.length y8)).toArray 90)
    have hz2 : u1.heap.size < u2.heap.size ∧ w.heap.size < u1.heap.size := by have h1 := HU1.out; have h2 := HU2.out.size; have h3 := HSZ.out; omega
    have hfm2 : ∀ x, x ∈ [sb, fm2, b, ml, mc] → x ∈ [sb, fm, b, ml, mc] ∨ u2.heap.size ≤ x := fun x hx => by
      have h1 := s4.1
      simp only [List.mem_cons, List.not_mem_nil, or_false] at hx ⊢
      rcases h1 with h1 | h1
      · subst h1; exact .inl hx
      · rcases hx with h | h | h | h | h
        · simp [h]
        · right; omega
        · simp [h]
        · simp [h]
        · simp [h]
    have hN2 : ∀ y, y < u2.heap.size → y ∉ [sb, fm, b, ml, mc] → y ∉ [sb, fm2, b, ml, mc] := fun y hy hn h => by
      rcases hfm2 y h with h | h
      · exact hn h
      · omega
    have hap : ∀ y, y ∉ X → y ∉ [sb, fm, b, ml, mc] → y ∉ X ++ [sb, fm, b, ml, mc] := fun y h1 h2 h => by
      rcases List.mem_append.1 h with h | h
      · exact h1 h
      · exact h2 h
    have h0 := hap _ HGX.out HG0.out
    have h13 := hap _ HB13.out.2.1 HB13.out.1
    have HG2 : Hid (w.heap.size ∉ [sb, fm2, b, ml, mc] ∧ u1.heap.size ∉ [sb, fm2, b, ml, mc] ∧ tb ∉ [sb, fm2, b, ml, mc]) := Lib.hid ⟨hN2 _ (by omega) HG0.out, hN2 _ (by omega) HB13.out.1, hN2 _ (by have := HNE.out.2.2; omega) HNE.out.1⟩
    have HZ2 := Lib.hid hz2
    have HB6 := Lib.hid (And.intro (hf6.heap (s3.heap HB2.out.1 h0) (by simp)) (And.intro (hf6.heap (s3.heap HB2.out.2 h13) (by simp)) b6))
    have HC6 := Lib.hid (hf6.cellSome (s3.cellSome (HQ2.out.cellSome HC0.out (by simp)) (hap _ HNE.out.2.1 HNE.out.1)) (by simp))
    have HP6 : Hid (PageIn ((u1.heap.size :: w.heap.size :: (Y ++ [sb, fm, b, ml, mc])) ++ [sb, fm2, b, ml, mc]) W6 p _ _ _ _) := Lib.hid ((((HPIZ.out.kept HU2.out.nil).more (S' := (u1.heap.size :: w.heap.size :: (Y ++ [sb, fm, b, ml, mc])) ++ [sb, fm2, b, ml, mc]) (fun x hx => by
      rcases List.mem_append.1 hx with hx | hx
      · exact .inl hx
      · rcases hfm2 x hx with h | h
        · exact .inl (List.mem_cons_of_mem _ (List.mem_cons_of_mem _ (List.mem_append.2 (.inr h))))
        · exact .inr h)).kept (s3.mono (fun x hx _ => List.mem_append.2 (.inl (List.mem_cons_of_mem _ (List.mem_cons_of_mem _ (by
      rcases List.mem_append.1 hx with hx | hx
      · exact List.mem_append.2 (.inl (HY.out.1 x hx))
      · exact List.mem_append.2 (.inr hx)))))))).kept hf6.nil)
    have HV6 := Lib.hid (hv3.kept hf6.nil)
    have HS6 := Lib.hid (s1.kept hf6)
    have HG6 := Lib.hid s2
    have hw2 : Fr [] w u2 := HF1.out.trans HQ2.out
    have HF6 : Hid (Fr (X ++ [sb, fm, b, ml, mc]) w W6) := Lib.hid ((hw2.nil.trans s3).trans hf6.nil)
    have HM6 : Hid ((fm2 = fm ∨ w.heap.size ≤ fm2) ∧ ApK w sb W6) := Lib.hid ⟨s4.1.imp id (fun h => by have := hw2.size; omega), ((ApK.ofFr hw2 HSB.out (by simp)).trans s4.2 hw2.size).trans (ApK.ofFr hf6 s1.lt.1 (by simp)) (Nat.le_trans hw2.size s3.size)⟩
    have hz3 : ∀ x, x ∈ u1.heap.size :: w.heap.size :: X → x < u2.heap.size := fun x hx => by
      rcases List.mem_cons.1 hx with rfl | hx
      · omega
      · rcases List.mem_cons.1 hx with rfl | hx
        · omega
        · have := HX.out.1 x hx; omega
    have HA6 := Lib.hid ((s4.2 _ hz3 (HAPZ.out u2 HU2.out)).kept hf6 s1.lt.1 (by simp))
    have HS5 : Hid (e2 = 0 → ∀ R w', Fr R W6 w' → (∀ x ∈ R, x ∈ [sb, fm0, b, ml, mc] ∨ N0 ≤ x) → Mo (leafK T key d kd) w' ∧ (is = true → PgF c ∧ c.kind = kindAt dd1)) := Lib.hid fun h0 R w' hR hm => ⟨HD.out.keepM W6 w' R _ hR hm (HD.out.keepM u3 W6 [] _ hf6 (by simp) (s5 h0).1), fun hi => (s5 h0).2 hi⟩
    have HLF : Hid (leafK T key (d + 1) n = leafK T key d kd) := Lib.hid (by
      conv => lhs; unfold leafK
      rw [show pageK T n ((d + 2 : Nat) : Int) = (p, 0) by rw [← HDD.out.1]; exact HPK.out]
      dsimp only
      rw [HI.out, HKDI.out])
    have HZ6 : Hid (W6.heap.size = u3.heap.size + 1 ∧ u2.heap.size ≤ u3.heap.size) := Lib.hid ⟨hs6, s3.size⟩
    have HPK2 : Hid (pageK T n ((d + 2 : Nat) : Int) = (p, 0)) := Lib.hid (by rw [← HDD.out.1]; exact HPK.out)
    unfold pageCells at hW6 HB6 ⊢
    clear hv3 s1 s2 s3 s4 s5 hf6 hs6 b6 hz2 hfm2 hN2 hap h0 h13 hz3 hw2 hkc q3 HIH ih
    have hcs : e2 ≠ 0 ∨ is = false ∨ (e2 = 0 ∧ is = true) := by
      by_cases h : e2 = 0
      · cases is
        · exact .inr (.inl rfl)
        · exact .inr (.inr ⟨h, rfl⟩)
      · exact .inl h
    by_cases hbad : e2 ≠ 0 ∨ is = false
    · have HRS : Hid (changeK act key (d + 1) T n = (p, false, e2, T2)) := Lib.hid (by
        unfold changeK
        rw [HPK2.out, if_neg (by simp)]
        dsimp only
        rw [HI.out, HKDI.out, HR2.out]
        dsimp only
        rw [if_pos hbad])
      have hbb : (e2 != 0) = true ∨ ((e2 != 0) = false ∧ is = false) := by
        by_cases h : e2 = 0
        · right
          rcases hbad with h1 | h1
          · exact absurd h h1
          · exact ⟨by simpa using h, h1⟩
        · left; simpa using h
      obtain ⟨q0, q1, q2, q3, q4, q5, q6, q7, q8, q9, q10⟩ := c11 HB6.out.2.1
      obtain ⟨t0, t1, t2, t3, t4, t5, t6, t7, t8, t9, t10⟩ := c11 HB6.out.1
      obtain ⟨z0, z1, z2, z3, z4, z5, z6, z7, z8, z9, z10⟩ := f11 HB6.out.1
      clear hcs hbad
      rcases hbb with hbb | ⟨hbb, rfl⟩
      all_goals
        go_wp2_with fail
        exact change_told HRS.out rfl rfl rfl HB6.out.1 rfl (Nat.le_refl _) HS6.out HG6.out HF6.out HM6.out (HA6.out.mono (by simp)) (noByte_page (p := pgZero) (pv := nilV) (kv := nilV) (dv := nilV) (gv := nilV) HB6.out.1 (by intro v hv; simp at hv; subst hv; exact ⟨_, _, _, rfl⟩)) HG2.out.1 (HP6.out.mono (fun x hx => by
          rcases List.mem_cons.1 hx with rfl | hx
          · exact List.mem_append.2 (.inl (by simp))
          · rcases List.mem_append.1 hx with hx | hx
            · exact List.mem_append.2 (.inl (List.mem_cons_of_mem _ (List.mem_cons_of_mem _ (List.mem_append.2 (.inl hx)))))
            · exact List.mem_append.2 (.inr hx))) (fun Wa hfa h0 => ⟨by rw [HLF.out]; exact (HS5.out h0 _ Wa hfa (fun x hx => .inr (by rw [List.mem_singleton] at hx; subst hx; exact HN.out.1))).1, fun h => by cases h⟩)
    · obtain ⟨rfl, rfl⟩ : e2 = 0 ∧ is = true := by
        rcases hcs with h | h | h
        · exact absurd (.inl h) hbad
        · exact absurd (.inr h) hbad
        · exact h
      have hs5 := HS5.out rfl [] W6 (Fr.refl _ _) (by simp)
      have HPP := Lib.hid (hs5.2 rfl)
      have HRS : Hid (changeK act key (d + 1) T n = ((settleK T2 p i dd1 c).1, true, (settleK T2 p i dd1 c).2.1, (settleK T2 p i dd1 c).2.2)) := Lib.hid (by
        unfold changeK
        rw [HPK2.out, if_neg (by simp)]
        dsimp only
        rw [HI.out, HKDI.out, HR2.out]
        dsimp only
        rw [if_neg (by simp), HDD1.out])
      have HSF := Lib.hid fun h0 => settleK_F (T := T2) (c := c) (i := i) (d := dd1) HPD.out.f HKD.out.1 HPD.out.keys HIL.out (HPD.out.one HKD.out.1) h0
      have HSE := Lib.hid (settle_k (S0 := u1.heap.size :: w.heap.size :: Y) i dd1 W6 HC6.out HG2.out.2.2 HS6.out HG6.out (fun x hx => by
          have := HZ6.out
          have := HZ2.out
          rcases List.mem_cons.1 hx with rfl | hx
          · omega
          · rcases List.mem_cons.1 hx with rfl | hx
            · omega
            · have := HY.out.2 x hx; omega) ⟨_, _, _, _, rfl, HP6.out.mono (fun x hx => by
          rcases List.mem_append.1 hx with hx | hx
          · exact List.mem_append.2 (.inl (by
              rcases List.mem_cons.1 hx with rfl | hx
              · simp
              · rcases List.mem_cons.1 hx with rfl | hx
                · simp
                · exact List.mem_cons_of_mem _ (List.mem_cons_of_mem _ (List.mem_append.2 (.inl hx)))))
          · exact List.mem_append.2 (.inr hx))⟩ ⟨_, _, _, _, rfl, HV6.out.mono (fun x hx => List.mem_append.2 (.inr hx))⟩ HPD.out.f HPP.out.1 HIL.out (HPD.out.one HKD.out.1) HKD.out.1 HPP.out.2)
      have HGG := Lib.hid (settleK_good HG6.out p i dd1 c)
      unfold PgP pageCells at HSE
      obtain ⟨⟨q, e3, T3⟩, hR3⟩ : ∃ x, settleK T2 p i dd1 c = x := ⟨_, rfl⟩
      rw [hR3] at HRS HSF HSE HGG
      dsimp only at HRS HSF HSE
      obtain ⟨q0, q1, q2, q3, q4, q5, q6, q7, q8, q9, q10⟩ := c11 HB6.out.2.1
      obtain ⟨t0, t1, t2, t3, t4, t5, t6, t7, t8, t9, t10⟩ := c11 HB6.out.2.2
      clear hcs hbad hs5 hR3
      go_wp2_with fail
      with_reducible refine HSE.out.mono ?_
      rintro e u4 ⟨v4, fm3, rfl, hv4, s1, s2, s3⟩
      obtain ⟨_, _, _, _, rfl, hv4⟩ := hv4
      obtain ⟨r1, r2, rfl, _⟩ := Slc.form hv4.pairs
      obtain ⟨r3, r4, rfl, _⟩ := Slc.form hv4.keys
      obtain ⟨r5, r6, rfl, _⟩ := Slc.form hv4.kids
      obtain ⟨r7, r8, rfl, _⟩ := Slc.form hv4.pages
      have hz6 := HZ6.out
      have hz2 := HZ2.out
      have hN3 : ∀ y, y < W6.heap.size → y ∉ [sb, fm2, b, ml, mc] → y ∉ [sb, fm3, b, ml, mc] := fun y hy hn h => by
        have h1 := s3.1
        simp only [List.mem_cons, List.not_mem_nil, or_false, not_or] at h hn
        rcases h1 with h1 | h1
        · subst h1; simp [hn] at h
        · omega
      have hfm2 : ∀ x, x ∈ [sb, fm2, b, ml, mc] → x ∈ X ++ [sb, fm, b, ml, mc] ∨ w.heap.size ≤ x := fun x hx => by
        have h1 := HM6.out.1
        simp only [List.mem_cons, List.not_mem_nil, or_false, List.mem_append] at hx ⊢
        rcases h1 with h1 | h1
        · subst h1; exact .inl (.inr hx)
        · rcases hx with h | h | h | h | h
          · simp [h]
          · right; omega
          · simp [h]
          · simp [h]
          · simp [h]
      have hz3 : ∀ x, x ∈ u1.heap.size :: w.heap.size :: X → x < W6.heap.size := fun x hx => by
        rcases List.mem_cons.1 hx with rfl | hx
        · omega
        · rcases List.mem_cons.1 hx with rfl | hx
          · omega
          · have := HX.out.1 x hx; omega
      have hA4 := s3.2 _ hz3 HA6.out
      have b0 := s2.heap HB6.out.1 HG2.out.1
      have b13 := s2.heap HB6.out.2.1 HG2.out.2.1
      have hnb0 := noByte_page (p := pgZero) (pv := nilV) (kv := nilV) (dv := nilV) (gv := nilV) b0 (by intro v hv; simp at hv; subst hv; exact ⟨_, _, _, rfl⟩)
      have hnb13 := noByte_page (p := p) (pv := .slice p1 p.pairs.length p2) (kv := .slice p3 p.keys.length p4) (dv := .slice (some ⟨Bk, ok, none⟩) p.kids.length p6) (gv := .slice p7 p.pages.length p8) b13 (by intro v hv; simp at hv; rcases hv with rfl | rfl | rfl | rfl <;> exact ⟨_, _, _, rfl⟩)
      obtain ⟨W7, hW7, fa, ba⟩ := st11 b13 rfl (.int .i64 q.kind) (.slice r1 q.pairs.length r2) (.slice r3 q.keys.length r4) (.slice r5 q.kids.length r6) (.slice r7 q.pages.length r8) (.int .i64 q.next) (.int .u64 q.epoch) (.int .i64 q.root) (.int .i64 q.depth) (.int .i64 q.count) (.int .i64 q.high)
      have hf4 : Fr (X ++ [sb, fm, b, ml, mc]) w u4 := HF6.out.andThen s2 hfm2
      have hm4 : (fm3 = fm ∨ w.heap.size ≤ fm3) ∧ ApK w sb u4 := ⟨by
        have h1 := s3.1
        have h2 := HM6.out.1
        omega, HM6.out.2.trans s3.2 HF6.out.size⟩
      have hwr := wroteR (by omega : w.heap.size ≤ u1.heap.size) s1 hf4 hm4 (hA4.mono (by simp)) hnb13 (hN3 _ (by omega) HG2.out.2.1) fa
      have h07 := fa.heap b0 (by rw [List.mem_singleton]; omega)
      have HB7 := Lib.hid (And.intro h07 ba)
      have HW7 := Lib.hid hwr
      have HA7 : Hid (StoAp W7 sb [w.heap.size]) := Lib.hid ((hA4.mono (R := [w.heap.size]) (by simp)).kept fa s1.lt.1 (by intro e; rw [List.mem_singleton] at e; exact HG2.out.2.1 (by simp [e])))
      have HG3 := Lib.hid (hN3 _ (by omega) HG2.out.1)
      have HV7 := Lib.hid (hv4.kept (fa.mono (by simp)))
      have hNN : ∀ x, x ∈ u1.heap.size :: w.heap.size :: [sb, fm2, b, ml, mc] → x ∈ [sb, fm0, b, ml, mc] ∨ N0 ≤ x := fun x hx => by
        have h1 := HN.out
        have h2 := HM6.out.1
        simp only [List.mem_cons, List.not_mem_nil, or_false] at hx ⊢
        omega
      have HMF : Hid (∀ Wa, Fr [w.heap.size] W7 Wa → e3 = 0 → Mo (leafK T key (d + 1) n) Wa ∧ (true = true → PgF q ∧ q.kind = kindAt dd)) := Lib.hid fun Wa hfa h0 => ⟨by
          rw [HLF.out]
          exact (HS5.out (by simp) _ Wa (((s2.mono (S' := u1.heap.size :: w.heap.size :: [sb, fm2, b, ml, mc]) (fun x hx _ => List.mem_cons_of_mem _ (List.mem_cons_of_mem _ hx))).trans (fa.mono (by simp))).trans (hfa.mono (by simp))) hNN).1, fun _ => by
          have h1 := HSF.out h0
          refine ⟨h1.1, ?_⟩
          rw [h1.2]
          unfold kindAt
          rw [if_neg (by have := HKD.out; omega)]⟩
      obtain ⟨z0, z1, z2, z3, z4, z5, z6, z7, z8, z9, z10⟩ := f11 b13
      clear q0 q1 q2 q3 q4 q5 q6 q7 q8 q9 q10 t0 t1 t2 t3 t4 t5 t6 t7 t8 t9 t10
      obtain ⟨q0, q1, q2, q3, q4, q5, q6, q7, q8, q9, q10⟩ := c11 b13
      clear hv4 s1 s2 s3 hz6 hz2 hN3 hfm2 hz3 hA4 b0 b13 hnb0 hnb13 fa ba hf4 hm4 hwr h07 hNN
      unfold pageCells
      go_upto_region 12 with fail
      obtain ⟨t0, t1, t2, t3, t4, t5, t6, t7, t8, t9, t10⟩ := c11 HB7.out.2
      obtain ⟨s0, s1, s2, s3, s4, s5, s6, s7, s8, s9, s10⟩ := c11 HB7.out.1
      clear z0 z1 z2 z3 z4 z5 z6 z7 z8 z9 z10 hW7
      obtain ⟨z0, z1, z2, z3, z4, z5, z6, z7, z8, z9, z10⟩ := f11 HB7.out.1
      clear q0 q1 q2 q3 q4 q5 q6 q7 q8 q9 q10
      go_wp2_with fail
      exact change_told HRS.out rfl rfl rfl HB7.out.1 rfl (Nat.le_refl _) HW7.out.1 HGG.out HW7.out.2.1 HW7.out.2.2 HA7.out (noByte_page (p := pgZero) (pv := nilV) (kv := nilV) (dv := nilV) (gv := nilV) HB7.out.1 (by intro v hv; simp at hv; subst hv; exact ⟨_, _, _, rfl⟩)) HG3.out (HV7.out.mono (fun x hx => by
          rcases List.mem_cons.1 hx with rfl | hx
          · simp
          · rcases List.mem_append.1 hx with hx | hx
            · exact List.mem_append.2 (.inl (List.mem_cons_of_mem _ (List.mem_cons_of_mem _ hx)))
            · exact List.mem_append.2 (.inr hx))) (fun Wa hfa h0 => ⟨(HMF.out Wa hfa h0).1, fun _ => (HMF.out Wa hfa h0).2 trivial⟩)
  · have HRS : Hid (changeK act key (d + 1) T n = (p, false, e1, T)) := Lib.hid (by unfold changeK; rw [show pageK T n ((d + 2 : Nat) : Int) = (p, e1) by rw [← HDD.out.1]; exact HPK.out, if_pos he])
    have be : (e1 != 0) = true := by simpa using he
    have HE := Lib.hid he
    clear he
    obtain ⟨q0, q1, q2, q3, q4, q5, q6, q7, q8, q9, q10⟩ := c11 HB5.out.2
    obtain ⟨t0, t1, t2, t3, t4, t5, t6, t7, t8, t9, t10⟩ := c11 HB5.out.1
    obtain ⟨z0, z1, z2, z3, z4, z5, z6, z7, z8, z9, z10⟩ := f11 HB5.out.1
    go_wp2_with fail
    exact change_told HRS.out rfl rfl rfl HB5.out.1 rfl (Nat.le_refl _) (HST.out.kept HQ5.out) HG.out (HF1.out.trans HQ5.out).nil (MR.of (HF1.out.trans HQ5.out) HSB.out) (HAP.out _ HQ5.out).2.1 (HAP.out _ HQ5.out).2.2 HG0.out (HPI.out _ HPS.out) (fun _ _ h0 => absurd h0 HE.out)
theorem change_k {F : Nat} {caps : Array Value} {act : PageD → PageD × Bool} {X Y : List Nat} {N0 tb sb b ml mc fm0 : Nat} {J : World → Prop} {Mo : PageD → World → Prop} (D : Doer F caps act X N0 sb b ml mc fm0 J Mo) (hY : (∀ x, x ∈ X → x ∈ Y) ∧ ∀ x, x ∈ Y → x < N0) {key : ByteArray} : ∀ (d : Nat), d ≤ 1001 → ∀ (fm : Nat) (T : StD) (n : Int) (w : World), w.cell? ⟨tb, 0, none⟩ = some (.pointer (some ⟨sb, 0, none⟩)) → tb ∉ [sb, fm, b, ml, mc] → tb ∉ X → StoAt w sb b ml mc fm T → T.good → J w → StoAp w sb X → N0 ≤ w.heap.size → (fm = fm0 ∨ N0 ≤ fm) →
    Calls Tryz.prog 55 #[.pointer (some ⟨tb, 0, none⟩), .int .i64 n, .int .i64 ((d + 1 : Nat) : Int), .string key, .func (.func F) #[] caps] w (ChP w sb b ml mc fm X Y Mo (kindAt ((d + 1 : Nat) : Int)) (changeK act key d T n) (leafK T key d n))
  | 0, _, fm, T, n, w, h1, h2, h3, h4, h5, h6, h7, h8, h9 => change_0 D hY n w h1 h2 h3 h4 h5 h6 h7 h8 h9
  | d + 1, hd, fm, T, n, w, h1, h2, h3, h4, h5, h6, h7, h8, h9 => change_s D hY ⟨rfl, by omega⟩ (fun fm T n w => change_k D hY d (by omega) fm T n w) n w h1 h2 h3 h4 h5 h6 h7 h8 h9
end Go.Proofs.YtgpohemcfgepeaaGreat
