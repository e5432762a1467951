/- a part. -/
import Derived.Test.YtgpohemcfgepeaaGreatT7
import Derived.StillTailTactics
namespace Go.Proofs.YtgpohemcfgepeaaGreat
open Go.RowKit Go.MapKept
theorem settle_results {tmps : Array Value} {w : World} {g : Nat} {x0 x1 x2 x3 x4 x5 x6 x7 x8 x9 x10 : Value} {x : Int} (h4 : tmps.getD 10 undef = .pointer (some ⟨g, 0, none⟩)) (h5 : tmps.getD 11 undef = .int .i64 x)
    (hp : w.heap[g]? = some (.cells #[x0, x1, x2, x3, x4, x5, x6, x7, x8, x9, x10] 90 (0, 0))) :
    (results Tryz.f98 tmps).run Tryz.prog w = .ok (.tuple #[.agg #[x0, x1, x2, x3, x4, x5, x6, x7, x8, x9, x10], .int .i64 x]) w := by
  obtain ⟨q0, q1, q2, q3, q4, q5, q6, q7, q8, q9, q10⟩ := c11 hp
  rw [Array.getD_eq_getD_getElem?] at h4 h5
  simp [results, Tryz.results98, go_sem, h4, h5, q0, q1, q2, q3, q4, q5, q6, q7, q8, q9, q10]
def PgP (S0 : List Nat) (w : World) (sb b ml mc fm : Nat) (R : PageD × Int × StD) (e : Ending) (w' : World) : Prop :=
  ∃ v fm', e = .returned (.tuple #[v, .int .i64 R.2.1]) ∧ PageAt (S0 ++ [sb, fm', b, ml, mc]) w' v R.1 ∧ StoAt w' sb b ml mc fm' R.2.2 ∧ Fr [sb, fm, b, ml, mc] w w' ∧ (fm' = fm ∨ w.heap.size ≤ fm') ∧ ApK w sb w'
theorem layK_len (T : StD) (old : Int) (p : PageD) : (layK T old p).1.length ≤ 2 ∧ (layK T old p).2.1.length ≤ 1 := by
  unfold layK
  split
  · exact ⟨by simp, by simp⟩
  · split
    · exact ⟨by simp, by simp⟩
    · exact ⟨by simp, by simp⟩
theorem Txts.dropC {S : List Nat} {w : World} {B off cap : Nat} {l : List ByteArray} (h : Txts S w (.slice (some ⟨B, off, none⟩) l.length cap) l) {k : Nat} (hk : k ≤ l.length) (hc : l.length ≤ cap) : Txts S w (.slice (if cap = k then some ⟨B, off, none⟩ else some ⟨B, off + k, none⟩) (l.length - k) (cap - k)) (l.drop k) := by
  by_cases e : cap = k
  · rw [if_pos e, List.drop_eq_nil_of_le (by omega), show l.length - k = 0 by omega, show cap - k = 0 by omega]
    exact .inl ⟨_, _, rfl, rfl, rfl, fun h => by cases h⟩
  · rw [if_neg e]; exact Txts.drop h hk
theorem Ints.dropC {S : List Nat} {w : World} {B off cap : Nat} {l : List Int} (h : Ints S w (.slice (some ⟨B, off, none⟩) l.length cap) l) {k : Nat} (hk : k ≤ l.length) (hc : l.length ≤ cap) : Ints S w (.slice (if cap = k then some ⟨B, off, none⟩ else some ⟨B, off + k, none⟩) (l.length - k) (cap - k)) (l.drop k) := by
  by_cases e : cap = k
  · rw [if_pos e, List.drop_eq_nil_of_le (by omega), show l.length - k = 0 by omega, show cap - k = 0 by omega]
    exact .inl ⟨_, _, rfl, rfl, rfl, fun h => by cases h⟩
  · rw [if_neg e]; exact Ints.drop h hk
theorem noByte_page {w : World} {g : Nat} {T : TypeId} {p : PageD} {pv kv dv gv : Value} (h : w.heap[g]? = some (.cells (pageCells p pv kv dv gv).toArray T (0, 0))) (hs : ∀ v ∈ [pv, kv, dv, gv], ∃ a n c, v = .slice a n c) : NoByte w g := fun i u he => by
  rw [blk_cell h, List.getElem?_toArray] at he
  have hm := List.mem_of_getElem? he
  unfold pageCells at hm
  simp only [List.mem_cons, List.not_mem_nil, or_false, forall_eq_or_imp, forall_eq] at hm hs
  obtain ⟨⟨a1, n1, k1, e1⟩, ⟨a2, n2, k2, e2⟩, ⟨a3, n3, k3, e3⟩, ⟨a4, n4, k4, e4⟩⟩ := hs
  subst e1 e2 e3 e4
  simp [byteV] at hm
theorem StoR.wrote {w W Wa : World} {sb b ml mc fm fm' g : Nat} {T : StD} (hg : w.heap.size ≤ g) (hs : StoAt W sb b ml mc fm' T) (hf : Fr [sb, fm, b, ml, mc] w W) (hm : (fm' = fm ∨ w.heap.size ≤ fm') ∧ ApK w sb W) (hap : StoAp W sb [g]) (hnb : NoByte W g) (hn : g ∉ [sb, fm', b, ml, mc]) (hw : Fr [g] W Wa) :
    StoAt Wa sb b ml mc fm' T ∧ Fr [sb, fm, b, ml, mc] w Wa ∧ (fm' = fm ∨ w.heap.size ≤ fm') ∧ ApK w sb Wa := by
  refine ⟨hs.beside hap hw (by intro x hx; simp at hx; subst hx; exact hnb) (by intro x hx; simp at hx; subst hx; exact hn), ?_, hm.1, hm.2.trans (.ofFr hw hs.lt.1 (by intro e; simp at e; exact hn (by simp [e]))) hf.size⟩
  exact (hf.mono (S' := g :: [sb, fm, b, ml, mc]) (fun x hx _ => List.mem_cons_of_mem _ hx)).trans (hw.mono (by simp)) |>.mono (fun x hx hl => by
    rcases List.mem_cons.1 hx with rfl | hx
    · omega
    · exact hx)
theorem settle_told {S0 : List Nat} {tmps : Array Value} {w W : World} {p : PageD} {v1 v2 v3 v4 : Value} {cs : Array Value} {x : Int} {sb b ml mc fm fm' g : Nat} {R : PageD × Int × StD} {T : StD} (hR : R = (p, x, T)) (h4 : tmps.getD 10 undef = .pointer (some ⟨g, 0, none⟩)) (h5 : tmps.getD 11 undef = .int .i64 x)
    (hb : W.heap[g]? = some (.cells cs 90 (0, 0))) (hl : cs.size = 11) (hg : w.heap.size ≤ g) (hs : StoAt W sb b ml mc fm' T) (hf : Fr [sb, fm, b, ml, mc] w W) (hm : (fm' = fm ∨ w.heap.size ≤ fm') ∧ ApK w sb W) (hap : StoAp W sb [g]) (hnb : NoByte W g) (hn : g ∉ [sb, fm', b, ml, mc])
    (hi : PageIn (g :: (S0 ++ [sb, fm', b, ml, mc])) W p v1 v2 v3 v4) :
    bodyPost Tryz.prog Tryz.f98 (PgP S0 w sb b ml mc fm R) Exit.ret { tmps := tmps, defers := [] } (((((((((((W.setCell ⟨g, 0, none⟩ (.int .i64 p.kind)).setCell ⟨g, 1, none⟩ (v1)).setCell ⟨g, 2, none⟩ (v2)).setCell ⟨g, 3, none⟩ (v3)).setCell ⟨g, 4, none⟩ (v4)).setCell ⟨g, 5, none⟩ (.int .i64 p.next)).setCell ⟨g, 6, none⟩ (.int .u64 p.epoch)).setCell ⟨g, 7, none⟩ (.int .i64 p.root)).setCell ⟨g, 8, none⟩ (.int .i64 p.depth)).setCell ⟨g, 9, none⟩ (.int .i64 p.count)).setCell ⟨g, 10, none⟩ (.int .i64 p.high)) := by
  subst hR
  obtain ⟨Wa, hWa, fa, ba⟩ := st11 hb hl (.int .i64 p.kind) v1 v2 v3 v4 (.int .i64 p.next) (.int .u64 p.epoch) (.int .i64 p.root) (.int .i64 p.depth) (.int .i64 p.count) (.int .i64 p.high)
  rw [hWa]
  have hw := StoR.wrote hg hs hf hm hap hnb hn fa
  exact bodyPost_ret (v := .tuple #[.agg (pageCells p v1 v2 v3 v4).toArray, .int .i64 x]) (settle_results h4 h5 ba) rfl ⟨_, fm', rfl, ⟨_, _, _, _, rfl, (hi.kept (fa.mono (by simp))).mono (fun x hx => List.mem_cons_of_mem _ hx)⟩, hw⟩
def SetM (W3 : World) (g sb b ml mc fm : Nat) (R : PageD × Int × StD) (p : PageD) (i : Nat) (x y : Value) (wr : World) : Prop :=
  ∃ (fr tt : Nat) (c : PageD) (T : StD) (fm' : Nat) (pv kv dv gv : Value), x = .int .i64 fr ∧ y = .int .i64 tt ∧ fr ≤ tt ∧ tt ≤ p.keys.length ∧ R = putK T p i fr tt c ∧ StoAt wr sb b ml mc fm' T ∧ T.good ∧ Fr [g, sb, fm, b, ml, mc] W3 wr ∧ ((fm' = fm ∨ W3.heap.size ≤ fm') ∧ ApK W3 sb wr) ∧
    wr.heap[g]? = some (.cells (pageCells c pv kv dv gv).toArray 90 (0, 0)) ∧ PageIn [g, sb, fm', b, ml, mc] wr c pv kv dv gv ∧ PgF c
set_option maxRecDepth 100000 in
set_option maxHeartbeats 8000000 in
theorem settle_k {S0 : List Nat} {tb sb b ml mc fm : Nat} {T : StD} {p c : PageD} {vp vc : Value} (i : Nat) (d : Int) (w : World) (hc0 : w.cell? ⟨tb, 0, none⟩ = some (.pointer (some ⟨sb, 0, none⟩))) (hne : tb ∉ [sb, fm, b, ml, mc]) (h : StoAt w sb b ml mc fm T) (hg : T.good) (hS0 : ∀ x, x ∈ S0 → x < w.heap.size) (hp : PageAt (S0 ++ [sb, fm, b, ml, mc]) w vp p) (hc : PageAt [sb, fm, b, ml, mc] w vc c) (fp : PgF p) (fc : PgF c) (hi : i ≤ p.keys.length) (h1 : 1 ≤ p.keys.length) (hk : p.kind = 2) (hck : c.kind = kindAt d) :
    Calls Tryz.prog 98 #[.pointer (some ⟨tb, 0, none⟩), vp, .int .i64 i, .int .i64 d, vc] w (PgP S0 w sb b ml mc fm (settleK T p i d c)) := by
  have hkk : p.kids.length = p.keys.length + 1 := by
    rcases fp.form with h | h
    · omega
    · exact h.2.2
  have hps := fp.small
  obtain ⟨_, _, _, _, rfl, hpi⟩ := hp
  obtain ⟨p1, p2, rfl, _⟩ := Slc.form hpi.pairs
  obtain ⟨p3, p4, rfl, hp4⟩ := Slc.form hpi.keys
  obtain ⟨p5, p6, rfl, hp6⟩ := Slc.form hpi.kids
  obtain ⟨p7, p8, rfl, _⟩ := Slc.form hpi.pages
  obtain ⟨_, _, _, _, rfl, hci⟩ := hc
  obtain ⟨c1, c2, rfl, _⟩ := Slc.form hci.pairs
  obtain ⟨c3, c4, rfl, _⟩ := Slc.form hci.keys
  obtain ⟨c5, c6, rfl, _⟩ := Slc.form hci.kids
  obtain ⟨c7, c8, rfl, _⟩ := Slc.form hci.pages
  obtain ⟨Bk, ok, rfl⟩ : ∃ B off, p5 = some ⟨B, off, none⟩ := by
    rcases hpi.kids with ⟨_, _, _, h0, _⟩ | ⟨B, off, cap, h, _⟩
    · omega
    · cases h; exact ⟨B, off, rfl⟩
  obtain ⟨Bt, ot, rfl⟩ : ∃ B off, p3 = some ⟨B, off, none⟩ := by
    rcases hpi.keys with ⟨_, _, _, h0, _⟩ | ⟨B, off, cap, h, _⟩
    · omega
    · cases h; exact ⟨B, off, rfl⟩
  obtain ⟨W3, hW3, hf3, hs3, b1, b2, b3⟩ := al3 w (.cells (pageCells p (.slice p1 p.pairs.length p2) (.slice (some ⟨Bt, ot, none⟩) p.keys.length p4) (.slice (some ⟨Bk, ok, none⟩) p.kids.length p6) (.slice p7 p.pages.length p8)).toArray 90) (.cells (pageCells c (.slice c1 c.pairs.length c2) (.slice c3 c.keys.length c4) (.slice c5 c.kids.length c6) (.slice c7 c.pages.length c8)).toArray 90) (.cells #[.int .i64 0, .slice none 0 0, .slice none 0 0, .slice none 0 0, .slice none 0 0, .int .i64 0, .int .u64 0, .int .i64 0, .int .i64 0, .int .i64 0, .int .i64 0] 90)
  have hlt := h.lt
  have htb : tb < w.heap.size := lt_of_cell hc0
  have HLT := Lib.hid (And.intro htb hs3)
  have HNE := Lib.hid hne
  have hgs : ∀ x, x ∈ [sb, fm, b, ml, mc] → x < w.heap.size := fun x hx => by simp at hx; omega
  have HGS := Lib.hid hgs
  have HST := Lib.hid (h.kept hf3)
  have HG := Lib.hid hg
  have HF3 := Lib.hid hf3
  have HSB := Lib.hid h.lt.1
  have HPF := Lib.hid (And.intro fp fc)
  have HPI := Lib.hid (hpi.kept hf3.nil)
  have HS0 := Lib.hid hS0
  have HPI2 := Lib.hid ((hpi.more (S' := (w.heap.size + 1 + 1) :: (S0 ++ [sb, fm, b, ml, mc])) (fun x hx => by
    rcases List.mem_cons.1 hx with rfl | hx
    · right; omega
    · exact .inl hx)).kept hf3.nil)
  have HPI4 : Hid (PageIn ((w.heap.size + 1 + 1) :: (w.heap.size + 1) :: (S0 ++ [sb, fm, b, ml, mc])) W3 p _ _ _ _) := Lib.hid ((hpi.more (S' := (w.heap.size + 1 + 1) :: (w.heap.size + 1) :: (S0 ++ [sb, fm, b, ml, mc])) (fun x hx => by
    rcases List.mem_cons.1 hx with rfl | hx
    · right; omega
    · rcases List.mem_cons.1 hx with rfl | hx
      · right; omega
      · exact .inl hx)).kept hf3.nil)
  have HG0 : Hid (w.heap.size ∉ [sb, fm, b, ml, mc]) := Lib.hid (h.newN (Nat.le_refl _))
  have HGN : Hid (w.heap.size + 1 ∉ [sb, fm, b, ml, mc] ∧ w.heap.size + 1 + 1 ∉ [sb, fm, b, ml, mc]) := Lib.hid ⟨h.newN (by omega), h.newN (by omega)⟩
  have hb3 : W3.heap[w.heap.size + 1 + 1]? = some (.cells (pageCells pgZero nilV nilV nilV nilV).toArray 90 (0, 0)) := b3
  have HAP : Hid (∀ w', Fr [] W3 w' → StoAp w' sb [w.heap.size + 1] ∧ StoAp w' sb [w.heap.size + 1 + 1] ∧ NoByte w' (w.heap.size + 1 + 1) ∧ NoByte w' (w.heap.size + 1)) := Lib.hid fun w' hq =>
    ⟨((h.apNew (by omega)).kept hf3 h.lt.1 (by simp)).kept hq (h.kept hf3).lt.1 (by simp), ((h.apNew (by omega)).kept hf3 h.lt.1 (by simp)).kept hq (h.kept hf3).lt.1 (by simp), noByte_page (hq.heap hb3 (by simp)) (by intro v hv; simp at hv; subst hv; exact ⟨_, _, _, rfl⟩), noByte_page (hq.heap b2 (by simp)) (by intro v hv; simp at hv; rcases hv with rfl | rfl | rfl | rfl <;> exact ⟨_, _, _, rfl⟩)⟩
  clear hb3
  have HCI : Hid (PageIn [w.heap.size + 1, sb, fm, b, ml, mc] W3 c _ _ _ _) := Lib.hid ((hci.more (S' := [w.heap.size + 1, sb, fm, b, ml, mc]) (fun x hx => by
    rcases List.mem_cons.1 hx with rfl | hx
    · right; omega
    · exact .inl hx)).kept hf3.nil)
  have HB := Lib.hid (And.intro b1 (And.intro b2 b3))
  have HC0 := Lib.hid (hf3.cellSome hc0 (by simp))
  have HI := Lib.hid (And.intro hi (And.intro h1 (And.intro hkk (And.intro hk hck))))
  have HS := Lib.hid fun (w' : World) (hq : Fr [] W3 w') => size_k w' (((hci.kept hf3.nil).mono (S' := []) (by simp)).kept hq) (by have := fc.small; omega) (by have := fc.small; omega)
  have HM := Lib.hid fun (w' : World) => most_k (p := c) (pv := .slice c1 c.pairs.length c2) (kv := .slice c3 c.keys.length c4) (dv := .slice c5 c.kids.length c6) (gv := .slice c7 c.pages.length c8) w'
  have hkids := Ints.at (hpi.kids.kept hf3.nil) (i := i) (by omega)
  have hiI : (i : Int) < p.kids.length := by omega
  have hi0 : (0 : Int) ≤ i := by omega
  have hiB : (i : Int) ≤ 1000 := by omega
  obtain ⟨sz, hsz⟩ : ∃ sz, sizeD c = sz := ⟨_, rfl⟩
  obtain ⟨mz, hmz⟩ : ∃ mz, mostD c = mz := ⟨_, rfl⟩
  have HSZ := Lib.hid (And.intro hsz hmz)
  rw [show c.pairs.length + c.keys.length = sz from hsz] at HS
  rw [show (if c.kind = 1 then (6 : Int) else 12) = mz by rw [← hmz]; unfold mostD; split <;> rfl] at HM
  have hszI : (sz : Int) ≤ 2000 := by have h1 := fc.small; rw [← hsz]; unfold sizeD; omega
  have hmzI : (mz : Int) ≤ 12 := by rw [← hmz]; unfold mostD; split <;> simp
  have hmz0 : (0 : Int) ≤ mz := by omega
  obtain ⟨old, hold⟩ : ∃ old, p.kids[i]'(by omega) = old := ⟨_, rfl⟩
  have HOLD : Hid (p.kids.getD i 0 = old) := Lib.hid (by rw [List.getD_eq_getElem?_getD, List.getElem?_eq_getElem (by omega), hold]; rfl)
  rw [hold] at hkids
  have HCAP := Lib.hid (And.intro hp4 hp6)
  clear h hg hpi hci hne hf3 hlt htb hgs hc0 hsz hmz hps fp fc hi h1 hkk hk hck hold hs3 hp4 hp6
  unfold pageCells at HS HM HB hW3 b1 b2 ⊢
  have HX : Hid (∀ w', Fr [] W3 w' → Fr [] W3 w' ∧ w'.cell? ⟨w.heap.size + 1, 0, none⟩ = some (.int .i64 c.kind) ∧ w'.cell? ⟨w.heap.size + 1, 1, none⟩ = some (.slice c1 c.pairs.length c2) ∧ w'.cell? ⟨w.heap.size + 1, 2, none⟩ = some (.slice c3 c.keys.length c4) ∧ w'.cell? ⟨w.heap.size + 1, 3, none⟩ = some (.slice c5 c.kids.length c6) ∧ w'.cell? ⟨w.heap.size + 1, 4, none⟩ = some (.slice c7 c.pages.length c8) ∧ w'.cell? ⟨w.heap.size + 1, 5, none⟩ = some (.int .i64 c.next) ∧ w'.cell? ⟨w.heap.size + 1, 6, none⟩ = some (.int .u64 c.epoch) ∧ w'.cell? ⟨w.heap.size + 1, 7, none⟩ = some (.int .i64 c.root) ∧ w'.cell? ⟨w.heap.size + 1, 8, none⟩ = some (.int .i64 c.depth) ∧ w'.cell? ⟨w.heap.size + 1, 9, none⟩ = some (.int .i64 c.count) ∧ w'.cell? ⟨w.heap.size + 1, 10, none⟩ = some (.int .i64 c.high)) := Lib.hid fun w' hq => ⟨hq, c11 (hq.heap HB.out.2.1 (by simp))⟩
  obtain ⟨cb, hcb⟩ : ∃ cb, decide ((sz : Int) < (mz : Int) / 2) = cb := ⟨_, rfl⟩
  have HCB := Lib.hid hcb
  have hw64 : IntKind.i64.wrap ((mz : Int) / 2) = (mz : Int) / 2 := IntWalk.i64_in _ (by omega)
  have q3 := (c11 b1).2.2.2.1
  clear b1 b2 b3
  go_enter Tryz.func98, Tryz.ntmps98
  go_upto_region 1 with fail
  clear hW3
  go_upto_region 2 with fail
  go_cut [34] from 29 to 34 (fun x wr => x = .bool cb ∧ Fr [] W3 wr)
  case first =>
    go_region_held3 (fun w' => Fr [] W3 w' ∧ w'.cell? ⟨w.heap.size + 1, 0, none⟩ = some (.int .i64 c.kind) ∧ w'.cell? ⟨w.heap.size + 1, 1, none⟩ = some (.slice c1 c.pairs.length c2) ∧ w'.cell? ⟨w.heap.size + 1, 2, none⟩ = some (.slice c3 c.keys.length c4) ∧ w'.cell? ⟨w.heap.size + 1, 3, none⟩ = some (.slice c5 c.kids.length c6) ∧ w'.cell? ⟨w.heap.size + 1, 4, none⟩ = some (.slice c7 c.pages.length c8) ∧ w'.cell? ⟨w.heap.size + 1, 5, none⟩ = some (.int .i64 c.next) ∧ w'.cell? ⟨w.heap.size + 1, 6, none⟩ = some (.int .u64 c.epoch) ∧ w'.cell? ⟨w.heap.size + 1, 7, none⟩ = some (.int .i64 c.root) ∧ w'.cell? ⟨w.heap.size + 1, 8, none⟩ = some (.int .i64 c.depth) ∧ w'.cell? ⟨w.heap.size + 1, 9, none⟩ = some (.int .i64 c.count) ∧ w'.cell? ⟨w.heap.size + 1, 10, none⟩ = some (.int .i64 c.high))
      (first
      | (refine HX.out _ ?_; simp (maxDischargeDepth := 40) only [fr_dr, fr_refl])
      | (refine HX.out _ ?_; simp (maxDischargeDepth := 40) only [H3.out]))
      (first
      | (go_at_call 135
         refine (HS.out _ (And.left (by assumption))).mono ?_
         rintro e u ⟨rfl, hq⟩
         have H3 : Hid (Fr [] W3 u) := by
           refine Lib.hid (Fr.trans (And.left (by assumption)) hq)
         clear hq)
      | (go_at_call 136
         refine (HM.out _).mono ?_
         rintro e u ⟨rfl, hq⟩
         have H3 : Hid (Fr [] W3 u) := by
           refine Lib.hid (Fr.trans (And.left (by assumption)) hq)
         clear hq))
    all_goals
      go_wp2_with fail
      go_meet
      exact ⟨rfl, H3.out⟩
  case rest =>
    obtain ⟨rfl, hq⟩ := hcut
    have HQ := Lib.hid hq
    clear hq hcb hw64 q3 hkids
    go_upto_if 34 with fail
    go_cut [13, 14] from 35 to 87 (fun x y wr => SetM W3 (w.heap.size + 1) sb b ml mc fm (settleK T p i d c) p i x y wr)
    case first =>
      cases cb
      · have HR : Hid (settleK T p i d c = putK T p i i i c) := Lib.hid (by
          unfold settleK
          rw [if_neg]
          rw [HSZ.out.1, HSZ.out.2]
          have := of_decide_eq_false HCB.out
          omega)
        go_wp2_with fail
        go_meet
        exact ⟨i, i, c, T, fm, _, _, _, _, rfl, rfl, Nat.le_refl _, HI.out.1, HR.out, HST.out.kept HQ.out, HG.out, HQ.out.nil, ⟨.inl rfl, .ofFr HQ.out (by have := HLT.out; have := HSB.out; omega) (by simp)⟩, HQ.out.heap HB.out.2.1 (by simp), HCI.out.kept HQ.out.nil, HPF.out.2⟩
      · by_cases hi0' : i = 0
        · subst hi0'
          have hol : 1 < p.kids.length := by have := HI.out; omega
          have hoth := Ints.at (HPI.out.kids.kept HQ.out.nil) hol
          obtain ⟨oth, hot⟩ : ∃ oth, p.kids[1] = oth := ⟨_, rfl⟩
          rw [hot] at hoth
          have HOT : Hid (p.kids.getD (0 - 1 + max 0 1 - 0) 0 = oth) := Lib.hid (by rw [show 0 - 1 + max 0 1 - 0 = 1 from rfl, List.getD_eq_getElem?_getD, List.getElem?_eq_getElem hol, hot]; rfl)
          have holI : (1 : Int) < p.kids.length := by omega
          clear hot hol
          go_upto_region 4 with fail
          have r3 := (c11 (HQ.out.heap HB.out.1 (by simp))).2.2.2.1
          go_upto_region 5 with fail
          clear r3 hoth
          have HTP := Lib.hid (tpage_k oth d wc (HQ.out.cellSome HC0.out (by simp)) (HST.out.kept HQ.out))
          obtain ⟨⟨m, em⟩, hR⟩ : ∃ x, pageK T oth d = x := ⟨_, rfl⟩
          have HPK := Lib.hid hR
          rw [hR] at HTP
          clear hR
          unfold PageOut pageCells at HTP
          go_wp2_with fail
          with_reducible refine HTP.out.mono ?_
          rintro e u1 ⟨mp, mk, md, mg, rfl, hmi, hu1⟩
          obtain ⟨m1, m2, rfl, _⟩ := Slc.form (hmi [] (by simp)).pairs
          obtain ⟨m3, m4, rfl, _⟩ := Slc.form (hmi [] (by simp)).keys
          obtain ⟨m5, m6, rfl, _⟩ := Slc.form (hmi [] (by simp)).kids
          obtain ⟨m7, m8, rfl, _⟩ := Slc.form (hmi [] (by simp)).pages
          obtain ⟨W5, hW5, hf5, hs5, b5⟩ := al1 u1 (.cells (pageCells m (.slice m1 m.pairs.length m2) (.slice m3 m.keys.length m4) (.slice m5 m.kids.length m6) (.slice m7 m.pages.length m8)).toArray 90)
          have HMI := Lib.hid fun (S : List Nat) (hS : ∀ x, x ∈ S → x < wc.heap.size) => (hmi S hS).kept hf5.nil
          have HQ5 := Lib.hid ((HQ.out.trans hu1).trans hf5)
          have HB5 := Lib.hid (And.intro (HQ5.out.heap HB.out.1 (by simp)) (And.intro (HQ5.out.heap HB.out.2.1 (by simp)) (HQ5.out.heap HB.out.2.2 (by simp))))
          unfold pageCells at hW5 b5
          clear hmi hu1 hf5 hs5 HTP
          by_cases hem : em = 0
          · subst hem
            have hpf := pageK_F (T := T) (n := oth) (d := d) (by rw [HPK.out])
            rw [HPK.out] at hpf
            dsimp only at hpf
            have HMF := Lib.hid hpf
            have HSC : Hid (sizeD c < mostD c / 2 ∧ c.pairs.length + c.keys.length < 6) := Lib.hid (by
              have h1 : sizeD c < mostD c / 2 := by
                rw [HSZ.out.1, HSZ.out.2]
                have := of_decide_eq_true HCB.out
                omega
              have h2 : mostD c ≤ 12 := by unfold mostD; split <;> omega
              unfold sizeD at h1
              exact ⟨h1, by omega⟩)
            have hkl : 0 < p.keys.length := by have := HI.out; omega
            have hkey := Txts.at (HPI.out.keys.kept HQ5.out.nil) hkl
            obtain ⟨key, hky⟩ : ∃ key, p.keys[0] = key := ⟨_, rfl⟩
            rw [hky] at hkey
            have HKY : Hid (p.keys.getD (0 - 1) ⟨#[]⟩ = key) := Lib.hid (by rw [show 0 - 1 = 0 by rfl, List.getD_eq_getElem?_getD, List.getElem?_eq_getElem hkl, hky]; rfl)
            have hklI : (0 : Int) < p.keys.length := by omega
            have hJ := joined_k key W5.drew ⟨_, _, _, _, rfl, HCI.out.kept HQ5.out.drew.nil⟩ ⟨_, _, _, _, rfl, (HMI.out [] (by simp)).kept (Fr.refl _ _).drew⟩ HPF.out.2 HMF.out.1
            obtain ⟨W6, hW6, hf6, hh6⟩ := dr1 W5
            rw [hW6] at hJ
            have HW6 := Lib.hid hW6
            unfold PageNew pageCells at hJ
            have HJ := Lib.hid hJ
            have HQ6 := Lib.hid (HQ5.out.trans hf6)
            have HB6 := Lib.hid (And.intro (hf6.heap HB5.out.1 (by simp)) (And.intro (hf6.heap HB5.out.2.1 (by simp)) (hf6.heap HB5.out.2.2 (by simp))))
            have hkey := hf6.cellSome hkey (by simp)
            rw [Nat.add_zero] at hkey
            have hklN : 0 < p.keys.length := hkl
            have b5 := hf6.heap b5 (by simp)
            have HJF : Hid (PgF (joinD c key m)) := Lib.hid (joinD_F HPF.out.2 HMF.out.1 (by rw [HMF.out.2.1, HI.out.2.2.2.2]) (by have := HSC.out.2; have := HMF.out.2.2.1; omega) (by have := HSC.out.2; have := HMF.out.2.2.2.1; omega))
            have k2 := (c11 HB6.out.1).2.2.1
            obtain ⟨q0, q1, q2, q3, q4, q5, q6, q7, q8, q9, q10⟩ := c11 HB6.out.2.1
            obtain ⟨t0, t1, t2, t3, t4, t5, t6, t7, t8, t9, t10⟩ := c11 b5
            obtain ⟨z0, z1, z2, z3, z4, z5, z6, z7, z8, z9, z10⟩ := f11 HB6.out.2.1
            clear hpf hky hkl hJ b5 hW6 hf6 hh6
            go_upto_region 9 with fail
            clear hW5
            refine wp_region_still_tail 7 (by kernel_rfl) (by kernel_rfl) ?_
            simp only [List.take_succ_cons, List.take_zero, List.drop_succ_cons, List.drop_zero]
            change wpStill _ _ W5.drew (fun a' => wpList _ _ _ _ a' W5.drew) _ _
            rw [HW6.out]
            repeat still_step
            refine wpStill_nil ?_
            go_wp2_with fail
            with_reducible refine HJ.out.mono ?_
            rintro e u2 ⟨np, nk, nd, ng, rfl, hni, hu2⟩
            obtain ⟨n, hn⟩ : ∃ n, joinD c key m = n := ⟨_, rfl⟩
            rw [hn] at HJF hni ⊢
            have HN := Lib.hid hn
            clear hn
            obtain ⟨n1, n2, rfl, _⟩ := Slc.form (hni [] (by simp)).pairs
            obtain ⟨n3, n4, rfl, _⟩ := Slc.form (hni [] (by simp)).keys
            obtain ⟨n5, n6, rfl, _⟩ := Slc.form (hni [] (by simp)).kids
            obtain ⟨n7, n8, rfl, _⟩ := Slc.form (hni [] (by simp)).pages
            have HU2 := Lib.hid (HQ6.out.trans hu2)
            obtain ⟨W7, hW7, fa, ba⟩ := st11 (hu2.heap HB6.out.2.1 (by simp)) rfl (.int .i64 n.kind) (.slice n1 n.pairs.length n2) (.slice n3 n.keys.length n4) (.slice n5 n.kids.length n6) (.slice n7 n.pages.length n8) (.int .i64 n.next) (.int .u64 n.epoch) (.int .i64 n.root) (.int .i64 n.depth) (.int .i64 n.count) (.int .i64 n.high)
            have HNI := Lib.hid hni
            have HBU := Lib.hid (hu2.heap HB6.out.2.1 (by simp))
            have b1 := fa.heap (hu2.heap HB6.out.1 (by simp)) (by rw [List.mem_singleton]; omega)
            have b3 := fa.heap (hu2.heap HB6.out.2.2 (by simp)) (by rw [List.mem_singleton]; omega)
            have hst7 := StoR.wrote (w := w) (g := w.heap.size + 1) (by omega) (HST.out.kept HU2.out) (HF3.out.trans HU2.out).nil (MR.of (HF3.out.trans HU2.out) HSB.out) (HAP.out _ HU2.out).1 (HAP.out _ HU2.out).2.2.2 HGN.out.1 fa
            have hc7 := fa.cellSome (HU2.out.cellSome HC0.out (by simp)) (by rw [List.mem_singleton]; have := HLT.out.1; show ¬ tb = _; omega)
            have HDR := Lib.hid (sdrop_k oth W7 hst7.1 (HG.out.ok hst7.1.dev.fine.n4).1)
            have HGD : Hid ((T.drop oth).2.good) := Lib.hid (HG.out.drop oth).1
            have HS7 := Lib.hid hst7
            have HB7 := Lib.hid (And.intro b1 (And.intro ba b3))
            have HF7 := Lib.hid (HU2.out.nil.trans fa)
            have HNI7 : Hid (PageIn [w.heap.size + 1, sb, fm, b, ml, mc] W7 n _ _ _ _) := Lib.hid ((HNI.out [w.heap.size + 1, sb, fm, b, ml, mc] (fun x hx => by
              have h1 := HQ6.out.size
              have h2 := HLT.out.2
              rcases List.mem_cons.1 hx with rfl | hx
              · omega
              · have := HGS.out x hx; omega)).kept (fa.mono (by simp)))
            obtain ⟨⟨e3, T3⟩, hD⟩ : ∃ x, T.drop oth = x := ⟨_, rfl⟩
            have HD := Lib.hid hD
            rw [hD] at HDR HGD
            dsimp only at HDR HGD
            clear hD hst7 ba b1 b3 fa hni hu2 HJ k2 hkey
            clear q0 q1 q2 q3 q4 q5 q6 q7 q8 q9 q10 t0 t1 t2 t3 t4 t5 t6 t7 t8 t9 t10 z0 z1 z2 z3 z4 z5 z6 z7 z8 z9 z10
            obtain ⟨q0, q1, q2, q3, q4, q5, q6, q7, q8, q9, q10⟩ := c11 HBU.out
            obtain ⟨z0, z1, z2, z3, z4, z5, z6, z7, z8, z9, z10⟩ := f11 HBU.out
            go_wp2_with fail
            with_reducible refine HDR.out.mono ?_
            rintro e u3 ⟨rfl, fm3, d1, d2, d3⟩
            have HRR := Lib.hid (StoR.add (fm1 := fm) HS7.out.2.1 ⟨.inl rfl, HS7.out.2.2.2⟩ d2 d3)
            have HD3 := Lib.hid (And.intro d1 (And.intro d2 d3))
            have hap7 := fun (x : Nat) (hx : StoAp W3 sb [x]) (hl : x < W3.heap.size) => d3.2 [x] (fun y hy => by rw [List.mem_singleton] at hy; subst hy; exact Nat.lt_of_lt_of_le hl HF7.out.size) (hx.kept HF7.out (HST.out.lt.1) (by intro e; rw [List.mem_singleton] at e; exact HGN.out.1 (by simp [e])))
            have hW3 : w.heap.size + 1 < W3.heap.size ∧ w.heap.size + 1 + 1 < W3.heap.size := by have := HLT.out.2; omega
            have HAP3 : Hid (StoAp u3 sb [w.heap.size + 1] ∧ StoAp u3 sb [w.heap.size + 1 + 1]) := Lib.hid ⟨hap7 _ (HAP.out _ (Fr.refl _ _)).1 hW3.1, hap7 _ (HAP.out _ (Fr.refl _ _)).2.1 hW3.2⟩
            have hfm : ∀ x, x ∈ [sb, fm3, b, ml, mc] → x ∈ [sb, fm, b, ml, mc] ∨ W7.heap.size ≤ x := fun x hx => by
              have h1 := d3.1
              simp only [List.mem_cons, List.not_mem_nil, or_false] at hx ⊢
              rcases h1 with h1 | h1
              · subst h1; exact .inl hx
              · rcases hx with h | h | h | h | h
                · simp [h]
                · right; omega
                · simp [h]
                · simp [h]
                · simp [h]
            have HGN3 : Hid (w.heap.size + 1 ∉ [sb, fm3, b, ml, mc] ∧ w.heap.size + 1 + 1 ∉ [sb, fm3, b, ml, mc]) := Lib.hid (by
              have hs := HF7.out.size
              refine ⟨fun h => ?_, fun h => ?_⟩
              · rcases hfm _ h with h | h
                · exact HGN.out.1 h
                · omega
              · rcases hfm _ h with h | h
                · exact HGN.out.2 h
                · omega)
            have HB3 := Lib.hid (And.intro (d2.heap HB7.out.1 HG0.out) (And.intro (d2.heap HB7.out.2.1 HGN.out.1) (d2.heap HB7.out.2.2 HGN.out.2)))
            have hmore : ∀ {q : PageD} {v1 v2 v3 v4 : Value} (L : List Nat), PageIn (L ++ [sb, fm, b, ml, mc]) W7 q v1 v2 v3 v4 → PageIn (L ++ [sb, fm3, b, ml, mc]) u3 q v1 v2 v3 v4 := fun {q v1 v2 v3 v4} L hq => ((hq.more (S' := (L ++ [sb, fm, b, ml, mc]) ++ (L ++ [sb, fm3, b, ml, mc])) (fun x hx => by
              rcases List.mem_append.1 hx with hx | hx
              · exact .inl hx
              · rcases List.mem_append.1 hx with hx | hx
                · exact .inl (List.mem_append.2 (.inl hx))
                · rcases hfm x hx with h | h
                  · exact .inl (List.mem_append.2 (.inr h))
                  · exact .inr h)).kept (d2.mono (fun x hx _ => List.mem_append.2 (.inl (List.mem_append.2 (.inr hx)))))).mono (fun x hx => List.mem_append.2 (.inr hx))
            have HNI3 : Hid (PageIn [w.heap.size + 1, sb, fm3, b, ml, mc] u3 n _ _ _ _) := Lib.hid (hmore [w.heap.size + 1] HNI7.out)
            have HPI3 : Hid (PageIn ((w.heap.size + 1 + 1) :: (S0 ++ [sb, fm3, b, ml, mc])) u3 p _ _ _ _) := Lib.hid (hmore ((w.heap.size + 1 + 1) :: S0) ((HPI4.out.kept (S := (w.heap.size + 1 + 1) :: (w.heap.size + 1) :: (S0 ++ [sb, fm, b, ml, mc])) (HF7.out.mono (by simp))).mono (fun x hx => by
              rcases List.mem_cons.1 hx with rfl | hx
              · simp
              · exact List.mem_cons_of_mem _ (List.mem_cons_of_mem _ hx))))
            clear hap7 hW3 hfm hmore d1 d2 d3 HDR hc7
            clear q0 q1 q2 q3 q4 q5 q6 q7 q8 q9 q10 z0 z1 z2 z3 z4 z5 z6 z7 z8 z9 z10
            by_cases he3 : e3 = 0
            · subst he3
              have HRS : Hid (settleK T p 0 d c = putK T3 p 0 0 1 n) := Lib.hid (by
                unfold settleK
                rw [HOT.out, HPK.out, if_pos HSC.out.1, if_neg (by simp), HD.out, if_neg (by simp), HKY.out]
                rw [if_pos rfl, HN.out]; rfl)
              go_wp2_with fail
              go_meet
              exact ⟨0, 1, n, T3, fm3, _, _, _, _, rfl, rfl, by omega, by have := HI.out; omega, HRS.out, HD3.out.1, HGD.out, (HF7.out.mono (by simp)).trans (HD3.out.2.1.mono (fun x hx _ => List.mem_cons_of_mem _ hx)), ⟨HD3.out.2.2.1.imp id (fun h => Nat.le_trans HF7.out.size h), (ApK.ofFr HF7.out HST.out.lt.1 (by intro e; rw [List.mem_singleton] at e; exact HGN.out.1 (by simp [e]))).trans HD3.out.2.2.2 HF7.out.size⟩, HB3.out.2.1, HNI3.out, HJF.out⟩
            · have HRS : Hid (settleK T p 0 d c = (p, 81, T3)) := Lib.hid (by
                unfold settleK
                rw [HOT.out, HPK.out, if_pos HSC.out.1, if_neg (by simp), HD.out, if_pos he3])
              have be3 : (e3 != 0) = true := by simpa using he3
              clear he3
              obtain ⟨q0, q1, q2, q3, q4, q5, q6, q7, q8, q9, q10⟩ := c11 HB3.out.1
              obtain ⟨t0, t1, t2, t3, t4, t5, t6, t7, t8, t9, t10⟩ := c11 HB3.out.2.2
              obtain ⟨z0, z1, z2, z3, z4, z5, z6, z7, z8, z9, z10⟩ := f11 HB3.out.2.2
              go_wp2_with fail
              exact settle_told HRS.out rfl rfl HB3.out.2.2 rfl (by omega) HD3.out.1 HRR.out.1 HRR.out.2 HAP3.out.2 (noByte_page (p := pgZero) (pv := nilV) (kv := nilV) (dv := nilV) (gv := nilV) HB3.out.2.2 (by intro v hv; simp at hv; subst hv; exact ⟨_, _, _, rfl⟩)) HGN3.out.2 HPI3.out
          · have HRS : Hid (settleK T p _ d c = (p, em, T)) := Lib.hid (by
              unfold settleK
              rw [HOT.out, HPK.out, if_pos, if_pos hem]
              rw [HSZ.out.1, HSZ.out.2]
              have := of_decide_eq_true HCB.out
              omega)
            have bem : (em != 0) = true := by simpa using hem
            obtain ⟨q0, q1, q2, q3, q4, q5, q6, q7, q8, q9, q10⟩ := c11 HB5.out.1
            obtain ⟨t0, t1, t2, t3, t4, t5, t6, t7, t8, t9, t10⟩ := c11 HB5.out.2.2
            obtain ⟨z0, z1, z2, z3, z4, z5, z6, z7, z8, z9, z10⟩ := f11 HB5.out.2.2
            clear hem b5
            go_wp2_with fail
            exact settle_told HRS.out rfl rfl HB5.out.2.2 rfl (by omega) (HST.out.kept HQ5.out) (HF3.out.trans HQ5.out).nil (MR.of (HF3.out.trans HQ5.out) HSB.out) (HAP.out _ HQ5.out).2.1 (HAP.out _ HQ5.out).2.2.1 HGN.out.2 (HPI2.out.kept HQ5.out.nil)
        · have hi1' : 1 ≤ i := by omega
          clear hi0'
          obtain ⟨f, hf⟩ : ∃ f : Nat, (i : Int) - 1 = f := ⟨i - 1, by omega⟩
          have hfn : f + 1 = i := by omega
          have hol : f < p.kids.length := by have := HI.out; omega
          have hoth := Ints.at (HPI.out.kids.kept HQ.out.nil) hol
          obtain ⟨oth, hot⟩ : ∃ oth, p.kids[f] = oth := ⟨_, rfl⟩
          rw [hot] at hoth
          have HOT : Hid (p.kids.getD (i - 1 + max i 1 - i) 0 = oth) := Lib.hid (by rw [show i - 1 + max i 1 - i = f by omega, List.getD_eq_getElem?_getD, List.getElem?_eq_getElem hol, hot]; rfl)
          have HFN := Lib.hid hfn
          have HFI := Lib.hid hf
          have holI : (f : Int) < p.kids.length := by omega
          have hi1 : (1 : Int) ≤ i := by omega
          have hi2 : (0 : Int) ≤ (i : Int) - 1 := by omega
          have hfi0 : (0 : Int) ≤ f := by omega
          have hfi1 : (f : Int) ≤ 1000 := by omega
          have hfi2 : ((f : Int) == (i : Int)) = false := by simp; omega
          clear hot hol hf hfn
          go_upto_region 4 with fail
          rw [HFI.out]
          have r3 := (c11 (HQ.out.heap HB.out.1 (by simp))).2.2.2.1
          go_upto_region 5 with fail
          clear r3 hoth
          have HTP := Lib.hid (tpage_k oth d wc (HQ.out.cellSome HC0.out (by simp)) (HST.out.kept HQ.out))
          obtain ⟨⟨m, em⟩, hR⟩ : ∃ x, pageK T oth d = x := ⟨_, rfl⟩
          have HPK := Lib.hid hR
          rw [hR] at HTP
          clear hR
          unfold PageOut pageCells at HTP
          go_wp2_with fail
          with_reducible refine HTP.out.mono ?_
          rintro e u1 ⟨mp, mk, md, mg, rfl, hmi, hu1⟩
          obtain ⟨m1, m2, rfl, _⟩ := Slc.form (hmi [] (by simp)).pairs
          obtain ⟨m3, m4, rfl, _⟩ := Slc.form (hmi [] (by simp)).keys
          obtain ⟨m5, m6, rfl, _⟩ := Slc.form (hmi [] (by simp)).kids
          obtain ⟨m7, m8, rfl, _⟩ := Slc.form (hmi [] (by simp)).pages
          obtain ⟨W5, hW5, hf5, hs5, b5⟩ := al1 u1 (.cells (pageCells m (.slice m1 m.pairs.length m2) (.slice m3 m.keys.length m4) (.slice m5 m.kids.length m6) (.slice m7 m.pages.length m8)).toArray 90)
          have HMI := Lib.hid fun (S : List Nat) (hS : ∀ x, x ∈ S → x < wc.heap.size) => (hmi S hS).kept hf5.nil
          have HQ5 := Lib.hid ((HQ.out.trans hu1).trans hf5)
          have HB5 := Lib.hid (And.intro (HQ5.out.heap HB.out.1 (by simp)) (And.intro (HQ5.out.heap HB.out.2.1 (by simp)) (HQ5.out.heap HB.out.2.2 (by simp))))
          unfold pageCells at hW5 b5
          clear hmi hu1 hf5 hs5 HTP
          by_cases hem : em = 0
          · subst hem
            have hpf := pageK_F (T := T) (n := oth) (d := d) (by rw [HPK.out])
            rw [HPK.out] at hpf
            dsimp only at hpf
            have HMF := Lib.hid hpf
            have HSC : Hid (sizeD c < mostD c / 2 ∧ c.pairs.length + c.keys.length < 6) := Lib.hid (by
              have h1 : sizeD c < mostD c / 2 := by
                rw [HSZ.out.1, HSZ.out.2]
                have := of_decide_eq_true HCB.out
                omega
              have h2 : mostD c ≤ 12 := by unfold mostD; split <;> omega
              unfold sizeD at h1
              exact ⟨h1, by omega⟩)
            have hkl : f < p.keys.length := by have := HI.out; have := HFN.out; omega
            have hkey := Txts.at (HPI.out.keys.kept HQ5.out.nil) hkl
            obtain ⟨key, hky⟩ : ∃ key, p.keys[f] = key := ⟨_, rfl⟩
            rw [hky] at hkey
            have HKY : Hid (p.keys.getD (i - 1) ⟨#[]⟩ = key) := Lib.hid (by rw [show i - 1 = f by have := HFN.out; omega, List.getD_eq_getElem?_getD, List.getElem?_eq_getElem hkl, hky]; rfl)
            have hklI : (f : Int) < p.keys.length := by omega
            have hJ := joined_k key W5.drew ⟨_, _, _, _, rfl, (HMI.out [] (by simp)).kept (Fr.refl _ _).drew⟩ ⟨_, _, _, _, rfl, HCI.out.kept HQ5.out.drew.nil⟩ HMF.out.1 HPF.out.2
            obtain ⟨W6, hW6, hf6, hh6⟩ := dr1 W5
            rw [hW6] at hJ
            have HW6 := Lib.hid hW6
            unfold PageNew pageCells at hJ
            have HJ := Lib.hid hJ
            have HQ6 := Lib.hid (HQ5.out.trans hf6)
            have HB6 := Lib.hid (And.intro (hf6.heap HB5.out.1 (by simp)) (And.intro (hf6.heap HB5.out.2.1 (by simp)) (hf6.heap HB5.out.2.2 (by simp))))
            have hkey := hf6.cellSome hkey (by simp)
            have b5 := hf6.heap b5 (by simp)
            have HJF : Hid (PgF (joinD m key c)) := Lib.hid (joinD_F HMF.out.1 HPF.out.2 (by rw [HMF.out.2.1, HI.out.2.2.2.2]) (by have := HSC.out.2; have := HMF.out.2.2.1; omega) (by have := HSC.out.2; have := HMF.out.2.2.2.1; omega))
            have k2 := (c11 HB6.out.1).2.2.1
            obtain ⟨q0, q1, q2, q3, q4, q5, q6, q7, q8, q9, q10⟩ := c11 HB6.out.2.1
            obtain ⟨t0, t1, t2, t3, t4, t5, t6, t7, t8, t9, t10⟩ := c11 b5
            obtain ⟨z0, z1, z2, z3, z4, z5, z6, z7, z8, z9, z10⟩ := f11 HB6.out.2.1
            clear hpf hky hkl hJ b5 hW6 hf6 hh6
            go_upto_region 10 with fail
            clear hW5
            refine wp_region_still_tail 7 (by kernel_rfl) (by kernel_rfl) ?_
            simp only [List.take_succ_cons, List.take_zero, List.drop_succ_cons, List.drop_zero]
            change wpStill _ _ W5.drew (fun a' => wpList _ _ _ _ a' W5.drew) _ _
            rw [HW6.out]
            repeat still_step
            refine wpStill_nil ?_
            go_wp2_with fail
            with_reducible refine HJ.out.mono ?_
            rintro e u2 ⟨np, nk, nd, ng, rfl, hni, hu2⟩
            obtain ⟨n, hn⟩ : ∃ n, joinD m key c = n := ⟨_, rfl⟩
            rw [hn] at HJF hni ⊢
            have HN := Lib.hid hn
            clear hn
            obtain ⟨n1, n2, rfl, _⟩ := Slc.form (hni [] (by simp)).pairs
            obtain ⟨n3, n4, rfl, _⟩ := Slc.form (hni [] (by simp)).keys
            obtain ⟨n5, n6, rfl, _⟩ := Slc.form (hni [] (by simp)).kids
            obtain ⟨n7, n8, rfl, _⟩ := Slc.form (hni [] (by simp)).pages
            have HU2 := Lib.hid (HQ6.out.trans hu2)
            obtain ⟨W7, hW7, fa, ba⟩ := st11 (hu2.heap HB6.out.2.1 (by simp)) rfl (.int .i64 n.kind) (.slice n1 n.pairs.length n2) (.slice n3 n.keys.length n4) (.slice n5 n.kids.length n6) (.slice n7 n.pages.length n8) (.int .i64 n.next) (.int .u64 n.epoch) (.int .i64 n.root) (.int .i64 n.depth) (.int .i64 n.count) (.int .i64 n.high)
            have HNI := Lib.hid hni
            have HBU := Lib.hid (hu2.heap HB6.out.2.1 (by simp))
            have b1 := fa.heap (hu2.heap HB6.out.1 (by simp)) (by rw [List.mem_singleton]; omega)
            have b3 := fa.heap (hu2.heap HB6.out.2.2 (by simp)) (by rw [List.mem_singleton]; omega)
            have hst7 := StoR.wrote (w := w) (g := w.heap.size + 1) (by omega) (HST.out.kept HU2.out) (HF3.out.trans HU2.out).nil (MR.of (HF3.out.trans HU2.out) HSB.out) (HAP.out _ HU2.out).1 (HAP.out _ HU2.out).2.2.2 HGN.out.1 fa
            have hc7 := fa.cellSome (HU2.out.cellSome HC0.out (by simp)) (by rw [List.mem_singleton]; have := HLT.out.1; show ¬ tb = _; omega)
            have HDR := Lib.hid (sdrop_k oth W7 hst7.1 (HG.out.ok hst7.1.dev.fine.n4).1)
            have HGD : Hid ((T.drop oth).2.good) := Lib.hid (HG.out.drop oth).1
            have HS7 := Lib.hid hst7
            have HB7 := Lib.hid (And.intro b1 (And.intro ba b3))
            have HF7 := Lib.hid (HU2.out.nil.trans fa)
            have HNI7 : Hid (PageIn [w.heap.size + 1, sb, fm, b, ml, mc] W7 n _ _ _ _) := Lib.hid ((HNI.out [w.heap.size + 1, sb, fm, b, ml, mc] (fun x hx => by
              have h1 := HQ6.out.size
              have h2 := HLT.out.2
              rcases List.mem_cons.1 hx with rfl | hx
              · omega
              · have := HGS.out x hx; omega)).kept (fa.mono (by simp)))
            obtain ⟨⟨e3, T3⟩, hD⟩ : ∃ x, T.drop oth = x := ⟨_, rfl⟩
            have HD := Lib.hid hD
            rw [hD] at HDR HGD
            dsimp only at HDR HGD
            clear hD hst7 ba b1 b3 fa hni hu2 HJ k2 hkey
            clear q0 q1 q2 q3 q4 q5 q6 q7 q8 q9 q10 t0 t1 t2 t3 t4 t5 t6 t7 t8 t9 t10 z0 z1 z2 z3 z4 z5 z6 z7 z8 z9 z10
            obtain ⟨q0, q1, q2, q3, q4, q5, q6, q7, q8, q9, q10⟩ := c11 HBU.out
            obtain ⟨z0, z1, z2, z3, z4, z5, z6, z7, z8, z9, z10⟩ := f11 HBU.out
            go_wp2_with fail
            with_reducible refine HDR.out.mono ?_
            rintro e u3 ⟨rfl, fm3, d1, d2, d3⟩
            have HRR := Lib.hid (StoR.add (fm1 := fm) HS7.out.2.1 ⟨.inl rfl, HS7.out.2.2.2⟩ d2 d3)
            have HD3 := Lib.hid (And.intro d1 (And.intro d2 d3))
            have hap7 := fun (x : Nat) (hx : StoAp W3 sb [x]) (hl : x < W3.heap.size) => d3.2 [x] (fun y hy => by rw [List.mem_singleton] at hy; subst hy; exact Nat.lt_of_lt_of_le hl HF7.out.size) (hx.kept HF7.out (HST.out.lt.1) (by intro e; rw [List.mem_singleton] at e; exact HGN.out.1 (by simp [e])))
            have hW3 : w.heap.size + 1 < W3.heap.size ∧ w.heap.size + 1 + 1 < W3.heap.size := by have := HLT.out.2; omega
            have HAP3 : Hid (StoAp u3 sb [w.heap.size + 1] ∧ StoAp u3 sb [w.heap.size + 1 + 1]) := Lib.hid ⟨hap7 _ (HAP.out _ (Fr.refl _ _)).1 hW3.1, hap7 _ (HAP.out _ (Fr.refl _ _)).2.1 hW3.2⟩
            have hfm : ∀ x, x ∈ [sb, fm3, b, ml, mc] → x ∈ [sb, fm, b, ml, mc] ∨ W7.heap.size ≤ x := fun x hx => by
              have h1 := d3.1
              simp only [List.mem_cons, List.not_mem_nil, or_false] at hx ⊢
              rcases h1 with h1 | h1
              · subst h1; exact .inl hx
              · rcases hx with h | h | h | h | h
                · simp [h]
                · right; omega
                · simp [h]
                · simp [h]
                · simp [h]
            have HGN3 : Hid (w.heap.size + 1 ∉ [sb, fm3, b, ml, mc] ∧ w.heap.size + 1 + 1 ∉ [sb, fm3, b, ml, mc]) := Lib.hid (by
              have hs := HF7.out.size
              refine ⟨fun h => ?_, fun h => ?_⟩
              · rcases hfm _ h with h | h
                · exact HGN.out.1 h
                · omega
              · rcases hfm _ h with h | h
                · exact HGN.out.2 h
                · omega)
            have HB3 := Lib.hid (And.intro (d2.heap HB7.out.1 HG0.out) (And.intro (d2.heap HB7.out.2.1 HGN.out.1) (d2.heap HB7.out.2.2 HGN.out.2)))
            have hmore : ∀ {q : PageD} {v1 v2 v3 v4 : Value} (L : List Nat), PageIn (L ++ [sb, fm, b, ml, mc]) W7 q v1 v2 v3 v4 → PageIn (L ++ [sb, fm3, b, ml, mc]) u3 q v1 v2 v3 v4 := fun {q v1 v2 v3 v4} L hq => ((hq.more (S' := (L ++ [sb, fm, b, ml, mc]) ++ (L ++ [sb, fm3, b, ml, mc])) (fun x hx => by
              rcases List.mem_append.1 hx with hx | hx
              · exact .inl hx
              · rcases List.mem_append.1 hx with hx | hx
                · exact .inl (List.mem_append.2 (.inl hx))
                · rcases hfm x hx with h | h
                  · exact .inl (List.mem_append.2 (.inr h))
                  · exact .inr h)).kept (d2.mono (fun x hx _ => List.mem_append.2 (.inl (List.mem_append.2 (.inr hx)))))).mono (fun x hx => List.mem_append.2 (.inr hx))
            have HNI3 : Hid (PageIn [w.heap.size + 1, sb, fm3, b, ml, mc] u3 n _ _ _ _) := Lib.hid (hmore [w.heap.size + 1] HNI7.out)
            have HPI3 : Hid (PageIn ((w.heap.size + 1 + 1) :: (S0 ++ [sb, fm3, b, ml, mc])) u3 p _ _ _ _) := Lib.hid (hmore ((w.heap.size + 1 + 1) :: S0) ((HPI4.out.kept (S := (w.heap.size + 1 + 1) :: (w.heap.size + 1) :: (S0 ++ [sb, fm, b, ml, mc])) (HF7.out.mono (by simp))).mono (fun x hx => by
              rcases List.mem_cons.1 hx with rfl | hx
              · simp
              · exact List.mem_cons_of_mem _ (List.mem_cons_of_mem _ hx))))
            clear hap7 hW3 hfm hmore d1 d2 d3 HDR hc7
            clear q0 q1 q2 q3 q4 q5 q6 q7 q8 q9 q10 z0 z1 z2 z3 z4 z5 z6 z7 z8 z9 z10
            by_cases he3 : e3 = 0
            · subst he3
              have HRS : Hid (settleK T p i d c = putK T3 p i f i n) := Lib.hid (by
                unfold settleK
                rw [HOT.out, HPK.out, if_pos HSC.out.1, if_neg (by simp), HD.out, if_neg (by simp), HKY.out]
                rw [if_neg (by have := HFN.out; omega), show i - 1 = f by have := HFN.out; omega, show max i 1 = i by have := HFN.out; omega, HN.out])
              go_wp2_with fail
              go_meet
              exact ⟨f, i, n, T3, fm3, _, _, _, _, rfl, rfl, by have := HFN.out; omega, by have := HI.out; omega, HRS.out, HD3.out.1, HGD.out, (HF7.out.mono (by simp)).trans (HD3.out.2.1.mono (fun x hx _ => List.mem_cons_of_mem _ hx)), ⟨HD3.out.2.2.1.imp id (fun h => Nat.le_trans HF7.out.size h), (ApK.ofFr HF7.out HST.out.lt.1 (by intro e; rw [List.mem_singleton] at e; exact HGN.out.1 (by simp [e]))).trans HD3.out.2.2.2 HF7.out.size⟩, HB3.out.2.1, HNI3.out, HJF.out⟩
            · have HRS : Hid (settleK T p i d c = (p, 81, T3)) := Lib.hid (by
                unfold settleK
                rw [HOT.out, HPK.out, if_pos HSC.out.1, if_neg (by simp), HD.out, if_pos he3])
              have be3 : (e3 != 0) = true := by simpa using he3
              clear he3
              obtain ⟨q0, q1, q2, q3, q4, q5, q6, q7, q8, q9, q10⟩ := c11 HB3.out.1
              obtain ⟨t0, t1, t2, t3, t4, t5, t6, t7, t8, t9, t10⟩ := c11 HB3.out.2.2
              obtain ⟨z0, z1, z2, z3, z4, z5, z6, z7, z8, z9, z10⟩ := f11 HB3.out.2.2
              go_wp2_with fail
              exact settle_told HRS.out rfl rfl HB3.out.2.2 rfl (by omega) HD3.out.1 HRR.out.1 HRR.out.2 HAP3.out.2 (noByte_page (p := pgZero) (pv := nilV) (kv := nilV) (dv := nilV) (gv := nilV) HB3.out.2.2 (by intro v hv; simp at hv; subst hv; exact ⟨_, _, _, rfl⟩)) HGN3.out.2 HPI3.out
          · have HRS : Hid (settleK T p _ d c = (p, em, T)) := Lib.hid (by
              unfold settleK
              rw [HOT.out, HPK.out, if_pos, if_pos hem]
              rw [HSZ.out.1, HSZ.out.2]
              have := of_decide_eq_true HCB.out
              omega)
            have bem : (em != 0) = true := by simpa using hem
            obtain ⟨q0, q1, q2, q3, q4, q5, q6, q7, q8, q9, q10⟩ := c11 HB5.out.1
            obtain ⟨t0, t1, t2, t3, t4, t5, t6, t7, t8, t9, t10⟩ := c11 HB5.out.2.2
            obtain ⟨z0, z1, z2, z3, z4, z5, z6, z7, z8, z9, z10⟩ := f11 HB5.out.2.2
            clear hem b5
            go_wp2_with fail
            exact settle_told HRS.out rfl rfl HB5.out.2.2 rfl (by omega) (HST.out.kept HQ5.out) (HF3.out.trans HQ5.out).nil (MR.of (HF3.out.trans HQ5.out) HSB.out) (HAP.out _ HQ5.out).2.1 (HAP.out _ HQ5.out).2.2.1 HGN.out.2 (HPI2.out.kept HQ5.out.nil)
    case rest =>
      obtain ⟨fr, tt, n, T1, fm1, nv, nk, nd, ng, rfl, rfl, hft, htl, hR, hst, hgd, hfr, hmk, hbk, hni, hnf⟩ := hcut
      obtain ⟨n1, n2, rfl, _⟩ := Slc.form hni.pairs
      obtain ⟨n3, n4, rfl, _⟩ := Slc.form hni.keys
      obtain ⟨n5, n6, rfl, _⟩ := Slc.form hni.kids
      obtain ⟨n7, n8, rfl, _⟩ := Slc.form hni.pages
      have hsz3 := HLT.out.2
      have hfm : ∀ x, x ∈ [sb, fm1, b, ml, mc] → x ∈ [sb, fm, b, ml, mc] ∨ W3.heap.size ≤ x := fun x hx => by
        have h1 := hmk.1
        simp only [List.mem_cons, List.not_mem_nil, or_false] at hx ⊢
        rcases h1 with h1 | h1
        · subst h1; exact .inl hx
        · rcases hx with h | h | h | h | h
          · simp [h]
          · right; omega
          · simp [h]
          · simp [h]
          · simp [h]
      have hN1 : ∀ y, y < W3.heap.size → y ∉ [sb, fm, b, ml, mc] → y ∉ [sb, fm1, b, ml, mc] := fun y hy hn h => by
        rcases hfm y h with h | h
        · exact hn h
        · omega
      have htb1 : tb < W3.heap.size ∧ tb ≠ w.heap.size + 1 := by have := HLT.out.1; omega
      have HNE1 := Lib.hid (hN1 tb htb1.1 HNE.out)
      have HG1 := Lib.hid (And.intro (hN1 _ (by omega) HG0.out) (And.intro (hN1 _ (by omega) HGN.out.1) (hN1 _ (by omega) HGN.out.2)))
      have hc1 := hfr.cellSome HC0.out (by rw [List.mem_cons, not_or]; exact ⟨htb1.2, HNE.out⟩)
      have b1 := hfr.heap HB.out.1 (by rw [List.mem_cons, not_or]; exact ⟨by omega, HG0.out⟩)
      have b3 := hfr.heap HB.out.2.2 (by rw [List.mem_cons, not_or]; exact ⟨by omega, HGN.out.2⟩)
      have hpi4 : PageIn ((w.heap.size + 1 + 1) :: (S0 ++ [sb, fm1, b, ml, mc])) wc p _ _ _ _ := ((HPI4.out.more (S' := ((w.heap.size + 1 + 1) :: (w.heap.size + 1) :: (S0 ++ [sb, fm, b, ml, mc])) ++ [sb, fm1, b, ml, mc]) (fun x hx => by
        rcases List.mem_append.1 hx with hx | hx
        · exact .inl hx
        · rcases hfm x hx with h | h
          · exact .inl (List.mem_cons_of_mem _ (List.mem_cons_of_mem _ (List.mem_append.2 (.inr h))))
          · exact .inr h)).kept (hfr.mono (fun x hx _ => List.mem_append.2 (.inl (List.mem_cons_of_mem _ (by
            rcases List.mem_cons.1 hx with rfl | hx
            · simp
            · exact List.mem_cons_of_mem _ (List.mem_append.2 (.inr hx)))))))).mono (fun x hx => by
          rcases List.mem_cons.1 hx with rfl | hx
          · exact List.mem_append.2 (.inl (by simp))
          · rcases List.mem_append.1 hx with hx | hx
            · exact List.mem_append.2 (.inl (List.mem_cons_of_mem _ (List.mem_cons_of_mem _ (List.mem_append.2 (.inl hx)))))
            · exact List.mem_append.2 (.inr hx))
      have HST1 := Lib.hid hst
      have HGD1 := Lib.hid hgd
      have HFR1 := Lib.hid hfr
      have HMK1 := Lib.hid hmk
      have HPI1 := Lib.hid hpi4
      have HB1 := Lib.hid (And.intro b1 b3)
      have HTL := Lib.hid (And.intro hft htl)
      have HR1 := Lib.hid hR
      have HNF := Lib.hid hnf
      have HLY := Lib.hid (tlay_k old wc hc1 HNE1.out hst hgd ⟨_, _, _, _, rfl, hni.mono (fun x hx => List.mem_cons_of_mem _ hx)⟩ hnf)
      obtain ⟨⟨gs, ks, e1, T2⟩, hL⟩ : ∃ x, layK T1 old n = x := ⟨_, rfl⟩
      have HR2 : Hid (settleK T p i d c = if e1 ≠ 0 then (p, e1, T2) else (branchPg (p.keys.take fr ++ ks ++ p.keys.drop tt) (p.kids.take fr ++ gs ++ p.kids.drop (tt + 1)), 0, T2)) := Lib.hid (by rw [hR]; unfold putK; rw [HOLD.out, hL])
      have HLEN : Hid (gs.length ≤ 2 ∧ ks.length ≤ 1) := Lib.hid (by have := layK_len T1 old n; rw [hL] at this; exact this)
      rw [hL] at HLY
      unfold LayP pageCells at HLY
      unfold pageCells at hbk
      dsimp only at HLY
      obtain ⟨q0, q1, q2, q3, q4, q5, q6, q7, q8, q9, q10⟩ := c11 hbk
      clear hfm hN1 htb1 hc1 b1 b3 hpi4 hst hgd hfr hmk hR hni hnf hbk hL hft htl hsz3 HR1
      go_wp2_with fail
      with_reducible refine HLY.out.mono ?_
      rintro e u ⟨kv, sv, fm2, rfl, s1, s2, s3, s4⟩
      have hkv := (s4 [] (by simp)).1
      have hsv := (s4 [] (by simp)).2
      obtain ⟨ga, gc, rfl, _⟩ := Slc.form hkv
      obtain ⟨sa, sc, rfl, _⟩ := Slc.form hsv
      have hsz3 := HLT.out.2
      have hzc := HFR1.out.size
      have hfm : ∀ x, x ∈ [sb, fm2, b, ml, mc] → x ∈ [sb, fm1, b, ml, mc] ∨ wc.heap.size ≤ x := fun x hx => by
        have h1 := s3.1
        simp only [List.mem_cons, List.not_mem_nil, or_false] at hx ⊢
        rcases h1 with h1 | h1
        · subst h1; exact .inl hx
        · rcases hx with h | h | h | h | h
          · simp [h]
          · right; omega
          · simp [h]
          · simp [h]
          · simp [h]
      have hn2 : w.heap.size + 1 + 1 ∉ [sb, fm2, b, ml, mc] := fun h => by
        rcases hfm _ h with h | h
        · exact HG1.out.2.2 h
        · omega
      have hpu : PageIn ((w.heap.size + 1 + 1) :: (S0 ++ [sb, fm2, b, ml, mc])) u p _ _ _ _ := ((HPI1.out.more (S' := ((w.heap.size + 1 + 1) :: (S0 ++ [sb, fm1, b, ml, mc])) ++ [sb, fm2, b, ml, mc]) (fun x hx => by
        rcases List.mem_append.1 hx with hx | hx
        · exact .inl hx
        · rcases hfm x hx with h | h
          · exact .inl (List.mem_cons_of_mem _ (List.mem_append.2 (.inr h)))
          · exact .inr h)).kept (s2.mono (fun x hx _ => List.mem_append.2 (.inl (List.mem_cons_of_mem _ (List.mem_append.2 (.inr hx))))))).mono (fun x hx => by
          rcases List.mem_cons.1 hx with rfl | hx
          · exact List.mem_append.2 (.inl (by simp))
          · rcases List.mem_append.1 hx with hx | hx
            · exact List.mem_append.2 (.inl (List.mem_cons_of_mem _ (List.mem_append.2 (.inl hx))))
            · exact List.mem_append.2 (.inr hx))
      have hfw : Fr [sb, fm, b, ml, mc] w wc := (HF3.out.nil.trans HFR1.out).mono (fun x hx hl => by
        rcases List.mem_cons.1 hx with rfl | hx
        · omega
        · exact hx)
      have HRR := Lib.hid (StoR.add (fm1 := fm1) hfw ⟨HMK1.out.1.imp id (fun h => by omega), (ApK.ofFr HF3.out HSB.out (by simp)).trans HMK1.out.2 HF3.out.size⟩ s2 s3)
      have HAPU : Hid (StoAp u sb [w.heap.size + 1 + 1]) := Lib.hid (s3.2 [w.heap.size + 1 + 1] (fun x hx => by rw [List.mem_singleton] at hx; omega) (HMK1.out.2 [w.heap.size + 1 + 1] (fun x hx => by rw [List.mem_singleton] at hx; omega) (HAP.out _ (Fr.refl _ _)).2.1))
      have HBU := Lib.hid (And.intro (s2.heap HB1.out.1 HG1.out.1) (s2.heap HB1.out.2 HG1.out.2.2))
      have HNB := Lib.hid (noByte_page (p := pgZero) (pv := nilV) (kv := nilV) (dv := nilV) (gv := nilV) HBU.out.2 (by intro v hv; simp at hv; subst hv; exact ⟨_, _, _, rfl⟩))
      have HN2 := Lib.hid hn2
      have HPU := Lib.hid hpu
      have HSU := Lib.hid s1
      have HS4 := Lib.hid s4
      have HZU : Hid (w.heap.size + 1 + 1 < wc.heap.size ∧ wc.heap.size ≤ u.heap.size) := Lib.hid ⟨by omega, s2.size⟩
      clear hkv hsv hfm hn2 hpu hfw s1 s2 s3 s4 hsz3 hzc HLY
      clear q0 q1 q2 q3 q4 q5 q6 q7 q8 q9 q10
      by_cases he1 : e1 = 0
      · subst he1
        have HRS : Hid (settleK T p i d c = (branchPg (p.keys.take fr ++ ks ++ p.keys.drop tt) (p.kids.take fr ++ gs ++ p.kids.drop (tt + 1)), 0, T2)) := Lib.hid (by rw [HR2.out, if_neg (by simp)])
        have hft := HTL.out
        have hkk := HI.out.2.2.1
        have hcp := HCAP.out
        have hps := HPF.out.1.small
        have a1 : (0 : Int) ≤ fr := by omega
        have a2 : (fr : Int) ≤ p.keys.length := by omega
        have a3 : (fr : Int) ≤ p4 := by omega
        have a4 : (p.keys.length : Int) ≤ p4 := by omega
        have a5 : (fr : Int) ≤ p.kids.length := by omega
        have a6 : (fr : Int) ≤ p6 := by omega
        have a7 : (p.kids.length : Int) ≤ p6 := by omega
        have a8 : (0 : Int) ≤ tt := by omega
        have a9 : (tt : Int) ≤ p.keys.length := by omega
        have a10 : (tt : Int) ≤ p4 := by omega
        have a11 : (tt : Int) + 1 ≤ p.kids.length := by omega
        have a12 : (tt : Int) + 1 ≤ p6 := by omega
        have a13 : (0 : Int) ≤ (tt : Int) + 1 := by omega
        have a14 : ((tt : Int) + 1).toNat = tt + 1 := by omega
        have a15 : IntKind.i64.wrap ((tt : Int) + 1) = (tt : Int) + 1 := IntWalk.i64_in _ (by omega)
        obtain ⟨aT, haT⟩ : ∃ a, (if p4 = tt then some (⟨Bt, ot, none⟩ : Addr) else some ⟨Bt, ot + tt, none⟩) = a := ⟨_, rfl⟩
        obtain ⟨aI, haI⟩ : ∃ a, (if p6 = tt + 1 then some (⟨Bk, ok, none⟩ : Addr) else some ⟨Bk, ok + (tt + 1), none⟩) = a := ⟨_, rfl⟩
        have HRT0 : Hid (∃ r, [p.keys.take fr, ks, p.keys.drop tt].flatten = r ∧ r = p.keys.take fr ++ ks ++ p.keys.drop tt ∧ r.length ≤ 1048576) := Lib.hid ⟨_, rfl, by simp, by have := HLEN.out; simp; omega⟩
        have HRI0 : Hid (∃ r, [p.kids.take fr, gs, p.kids.drop (tt + 1)].flatten = r ∧ r = p.kids.take fr ++ gs ++ p.kids.drop (tt + 1) ∧ r.length ≤ 1048576) := Lib.hid ⟨_, rfl, by simp, by have := HLEN.out; simp; omega⟩
        obtain ⟨rT, hrT⟩ := HRT0.out
        obtain ⟨rI, hrI⟩ := HRI0.out
        have HRT := Lib.hid hrT
        have HRI := Lib.hid hrI
        have HPA : Hid (∀ w', Fr [w.heap.size + 1 + 1] u w' → (Txts [] w' (.slice (some ⟨Bt, ot, none⟩) fr p4) (p.keys.take fr) ∧ Txts [] w' (.slice sa ks.length sc) ks ∧ Txts [] w' (.slice aT (p.keys.length - tt) (p4 - tt)) (p.keys.drop tt)) ∧
            Ints [] w' (.slice (some ⟨Bk, ok, none⟩) fr p6) (p.kids.take fr) ∧ Ints [] w' (.slice ga gs.length gc) gs ∧ Ints [] w' (.slice aI (p.kids.length - (tt + 1)) (p6 - (tt + 1))) (p.kids.drop (tt + 1))) := Lib.hid fun w' hq => by
          have hk := (HPU.out.keys.mono (S' := [w.heap.size + 1 + 1]) (by simp)).kept hq
          have hd := (HPU.out.kids.mono (S' := [w.heap.size + 1 + 1]) (by simp)).kept hq
          have h4 := HS4.out [w.heap.size + 1 + 1] (fun x hx => by rw [List.mem_singleton] at hx; subst hx; exact .inl HZU.out.1)
          refine ⟨⟨(Txts.take hk (by omega)).mono (by simp), (h4.2.kept hq).mono (by simp), ?_⟩, (Ints.take hd (by omega)).mono (by simp), (h4.1.kept hq).mono (by simp), ?_⟩
          · rw [← haT]; exact (Txts.dropC hk (by omega) (by omega)).mono (by simp)
          · rw [← haI]; exact (Ints.dropC hd (by omega) (by omega)).mono (by simp)
        have HX2 : Hid (∀ w', Fr [w.heap.size + 1 + 1] u w' → Fr [w.heap.size + 1 + 1] u w' ∧ w'.cell? ⟨w.heap.size, 2, none⟩ = some (.slice (some ⟨Bt, ot, none⟩) p.keys.length p4) ∧ w'.cell? ⟨w.heap.size, 3, none⟩ = some (.slice (some ⟨Bk, ok, none⟩) p.kids.length p6)) := Lib.hid fun w' hq => ⟨hq, (c11 (hq.heap HBU.out.1 (by rw [List.mem_singleton]; omega))).2.2.1, (c11 (hq.heap HBU.out.1 (by rw [List.mem_singleton]; omega))).2.2.2.1⟩
        clear hft hkk hcp hps HRT0 HRI0 hrT hrI
        go_upto_region 17 with fail
        go_region_held3 (fun w' => Fr [w.heap.size + 1 + 1] u w' ∧ w'.cell? ⟨w.heap.size, 2, none⟩ = some (.slice (some ⟨Bt, ot, none⟩) p.keys.length p4) ∧ w'.cell? ⟨w.heap.size, 3, none⟩ = some (.slice (some ⟨Bk, ok, none⟩) p.kids.length p6))
          (first
          | (refine HX2.out _ ?_; simp (maxDischargeDepth := 40) only [fr_dr, fr_al, fr_refl])
          | (refine HX2.out _ ?_; simp (maxDischargeDepth := 40) only [fr_al, fr_sc, H3.out, List.mem_singleton]))
          (first
          | (go_at_call 138
             refine (concatT_k (S := []) (ls := [p.keys.take fr, ks, p.keys.drop tt]) _ (rowsT3 (by first | exact blk_new _ _ | exact bk2a _ _ _ | exact bk2b _ _ _ | (refine HIF.out.heap ?_ (by simp); first | exact blk_new _ _ | exact bk2a _ _ _ | exact bk2b _ _ _) | (refine (Fr.alloc1 _ _).heap (HIF.out.heap ?_ (by simp)) (by simp); first | exact blk_new _ _ | exact bk2a _ _ _ | exact bk2b _ _ _)) (HPA.out _ (And.left (by assumption))).1.1 (HPA.out _ (And.left (by assumption))).1.2.1 (HPA.out _ (And.left (by assumption))).1.2.2) (by rw [HRT.out.1]; exact HRT.out.2.2) (by simp)).mono ?_
             rintro e uT ⟨vT, rfl, hnT, hTF⟩
             rw [HRT.out.1] at hnT
             obtain ⟨tA, tC, rfl, _⟩ := Slc.form (hnT [] (by simp))
             have h3 : Hid (Fr [] u uT) := by
               refine Lib.hid ?_
               first
               | (refine Fr.trans ?_ hTF; (first | exact Fr.refl _ _ | exact (Fr.refl _ _).drew | exact Fr.alloc1 _ _ | exact (Fr.alloc1 _ _).drew | exact (Fr.alloc1 _ _).trans (Fr.alloc1 _ _) | exact ((Fr.alloc1 _ _).trans (Fr.alloc1 _ _)).drew))
               | (refine HI3.out.trans (Fr.trans ?_ hTF); (first | exact Fr.refl _ _ | exact (Fr.refl _ _).drew | exact Fr.alloc1 _ _ | exact (Fr.alloc1 _ _).drew | exact (Fr.alloc1 _ _).trans (Fr.alloc1 _ _) | exact ((Fr.alloc1 _ _).trans (Fr.alloc1 _ _)).drew))
             have hb := h3.out.heap HBU.out.2 (by simp)
             have HBT := Lib.hid hb
             have HTF := Lib.hid hTF
             have HT3 := h3
             have H3 : Hid (Fr [w.heap.size + 1 + 1] u uT) := Lib.hid h3.out.nil
             obtain ⟨t0, t1, t2, t3, t4, t5, t6, t7, t8, t9, t10⟩ := c11 hb
             obtain ⟨z0, z1, z2, z3, z4, z5, z6, z7, z8, z9, z10⟩ := f11 hb
             have HNT := Lib.hid fun (S : List Nat) (hS : ∀ x, x ∈ S → x < u.heap.size) => hnT S (fun x hx => Nat.lt_of_lt_of_le (hS x hx) (Fr.size (And.left (by assumption))))
             try
               have hOO : Fr [] uI uT := by (refine Fr.trans ?_ hTF; (first | exact Fr.refl _ _ | exact (Fr.refl _ _).drew | exact Fr.alloc1 _ _ | exact (Fr.alloc1 _ _).drew | exact (Fr.alloc1 _ _).trans (Fr.alloc1 _ _) | exact ((Fr.alloc1 _ _).trans (Fr.alloc1 _ _)).drew))
               have HNI2 : Hid (∀ S : List Nat, (∀ x, x ∈ S → x < u.heap.size) → Ints S uT (.slice iA rI.length iC) rI) := Lib.hid fun S hS => (HNI.out S hS).kept (Fr.nil hOO)
               clear hOO
             clear hnT hTF hb h3)
          | (go_at_call 85
             refine (concat_k (S := []) (ls := [p.kids.take fr, gs, p.kids.drop (tt + 1)]) _ (rowsI3 (by first | exact blk_new _ _ | exact bk2a _ _ _ | exact bk2b _ _ _ | (refine HTF.out.heap ?_ (by simp); first | exact blk_new _ _ | exact bk2a _ _ _ | exact bk2b _ _ _) | (refine (Fr.alloc1 _ _).heap (HTF.out.heap ?_ (by simp)) (by simp); first | exact blk_new _ _ | exact bk2a _ _ _ | exact bk2b _ _ _)) (HPA.out _ (And.left (by assumption))).2.1 (HPA.out _ (And.left (by assumption))).2.2.1 (HPA.out _ (And.left (by assumption))).2.2.2) (by rw [HRI.out.1]; exact HRI.out.2.2) (by simp)).mono ?_
             rintro e uI ⟨vI, rfl, hnI, hIF⟩
             rw [HRI.out.1] at hnI
             obtain ⟨iA, iC, rfl, _⟩ := Slc.form (hnI [] (by simp))
             have h3 : Hid (Fr [] u uI) := by
               refine Lib.hid ?_
               first
               | (refine Fr.trans ?_ hIF; (first | exact Fr.refl _ _ | exact (Fr.refl _ _).drew | exact Fr.alloc1 _ _ | exact (Fr.alloc1 _ _).drew | exact (Fr.alloc1 _ _).trans (Fr.alloc1 _ _) | exact ((Fr.alloc1 _ _).trans (Fr.alloc1 _ _)).drew))
               | (refine HT3.out.trans (Fr.trans ?_ hIF); (first | exact Fr.refl _ _ | exact (Fr.refl _ _).drew | exact Fr.alloc1 _ _ | exact (Fr.alloc1 _ _).drew | exact (Fr.alloc1 _ _).trans (Fr.alloc1 _ _) | exact ((Fr.alloc1 _ _).trans (Fr.alloc1 _ _)).drew))
             have hb := h3.out.heap HBU.out.2 (by simp)
             have HBI := Lib.hid hb
             have HIF := Lib.hid hIF
             have HI3 := h3
             have H3 : Hid (Fr [w.heap.size + 1 + 1] u uI) := Lib.hid h3.out.nil
             obtain ⟨t0, t1, t2, t3, t4, t5, t6, t7, t8, t9, t10⟩ := c11 hb
             obtain ⟨z0, z1, z2, z3, z4, z5, z6, z7, z8, z9, z10⟩ := f11 hb
             have HNI := Lib.hid fun (S : List Nat) (hS : ∀ x, x ∈ S → x < u.heap.size) => hnI S (fun x hx => Nat.lt_of_lt_of_le (hS x hx) (Fr.size (And.left (by assumption))))
             try
               have hOO : Fr [] uT uI := by (refine Fr.trans ?_ hIF; (first | exact Fr.refl _ _ | exact (Fr.refl _ _).drew | exact Fr.alloc1 _ _ | exact (Fr.alloc1 _ _).drew | exact (Fr.alloc1 _ _).trans (Fr.alloc1 _ _) | exact ((Fr.alloc1 _ _).trans (Fr.alloc1 _ _)).drew))
               have HNT2 : Hid (∀ S : List Nat, (∀ x, x ∈ S → x < u.heap.size) → Txts S uI (.slice tA rT.length tC) rT) := Lib.hid fun S hS => (HNT.out S hS).kept (Fr.nil hOO)
               clear hOO
             clear hnI hIF hb h3))
        all_goals
          go_wp2_with fail
          first
          | (obtain ⟨Wa, hWa, fa, ba⟩ := st11 HBT.out rfl (.int .i64 2) nilV (.slice tA rT.length tC) (.slice iA rI.length iC) nilV (.int .i64 0) (.int .u64 0) (.int .i64 0) (.int .i64 0) (.int .i64 0) (.int .i64 0)
             rw [hWa]
             have hwr := StoR.wrote (by omega) (HSU.out.kept HT3.out) (HRR.out.1.trans HT3.out.nil) (StoR.add HRR.out.1 HRR.out.2 HT3.out.nil (MR.of HT3.out HSU.out.lt.1)).2 (HAPU.out.kept HT3.out HSU.out.lt.1 (by simp)) (noByte_page (p := pgZero) (pv := nilV) (kv := nilV) (dv := nilV) (gv := nilV) HBT.out (by intro v hv; simp at hv; subst hv; exact ⟨_, _, _, rfl⟩)) HN2.out fa
             have hS : ∀ x, x ∈ (w.heap.size + 1 + 1) :: (S0 ++ [sb, fm2, b, ml, mc]) → x < u.heap.size := fun x hx => by
               rcases List.mem_cons.1 hx with rfl | hx
               · have := HZU.out; omega
               · rcases List.mem_append.1 hx with hx | hx
                 · have h1 := HS0.out x hx; have h2 := HZU.out; omega
                 · have := HSU.out.lt; simp at hx; omega
             refine bodyPost_ret (v := .tuple #[.agg #[.int .i64 2, nilV, .slice tA rT.length tC, .slice iA rI.length iC, nilV, .int .i64 0, .int .u64 0, .int .i64 0, .int .i64 0, .int .i64 0, .int .i64 0], .int .i64 0]) (settle_results rfl rfl ba) rfl ?_
             rw [HRS.out]
             refine ⟨_, fm2, rfl, ⟨_, _, _, _, rfl, Slc.nil _ _, ?_, ?_, Slc.nil _ _⟩, hwr⟩
             · rw [← HRT.out.2.1]; exact ((HNT.out _ hS).kept (fa.mono (by simp))).mono (fun x hx => List.mem_cons_of_mem _ hx)
             · rw [← HRI.out.2.1]; exact ((HNI2.out _ hS).kept (fa.mono (by simp))).mono (fun x hx => List.mem_cons_of_mem _ hx))
          | (obtain ⟨Wa, hWa, fa, ba⟩ := st11 HBI.out rfl (.int .i64 2) nilV (.slice tA rT.length tC) (.slice iA rI.length iC) nilV (.int .i64 0) (.int .u64 0) (.int .i64 0) (.int .i64 0) (.int .i64 0) (.int .i64 0)
             rw [hWa]
             have hwr := StoR.wrote (by omega) (HSU.out.kept HI3.out) (HRR.out.1.trans HI3.out.nil) (StoR.add HRR.out.1 HRR.out.2 HI3.out.nil (MR.of HI3.out HSU.out.lt.1)).2 (HAPU.out.kept HI3.out HSU.out.lt.1 (by simp)) (noByte_page (p := pgZero) (pv := nilV) (kv := nilV) (dv := nilV) (gv := nilV) HBI.out (by intro v hv; simp at hv; subst hv; exact ⟨_, _, _, rfl⟩)) HN2.out fa
             have hS : ∀ x, x ∈ (w.heap.size + 1 + 1) :: (S0 ++ [sb, fm2, b, ml, mc]) → x < u.heap.size := fun x hx => by
               rcases List.mem_cons.1 hx with rfl | hx
               · have := HZU.out; omega
               · rcases List.mem_append.1 hx with hx | hx
                 · have h1 := HS0.out x hx; have h2 := HZU.out; omega
                 · have := HSU.out.lt; simp at hx; omega
             refine bodyPost_ret (v := .tuple #[.agg #[.int .i64 2, nilV, .slice tA rT.length tC, .slice iA rI.length iC, nilV, .int .i64 0, .int .u64 0, .int .i64 0, .int .i64 0, .int .i64 0, .int .i64 0], .int .i64 0]) (settle_results rfl rfl ba) rfl ?_
             rw [HRS.out]
             refine ⟨_, fm2, rfl, ⟨_, _, _, _, rfl, Slc.nil _ _, ?_, ?_, Slc.nil _ _⟩, hwr⟩
             · rw [← HRT.out.2.1]; exact ((HNT2.out _ hS).kept (fa.mono (by simp))).mono (fun x hx => List.mem_cons_of_mem _ hx)
             · rw [← HRI.out.2.1]; exact ((HNI.out _ hS).kept (fa.mono (by simp))).mono (fun x hx => List.mem_cons_of_mem _ hx))
      · have HRS : Hid (settleK T p i d c = (p, e1, T2)) := Lib.hid (by rw [HR2.out, if_pos he1])
        have be1 : (e1 != 0) = true := by simpa using he1
        clear he1
        obtain ⟨q0, q1, q2, q3, q4, q5, q6, q7, q8, q9, q10⟩ := c11 HBU.out.1
        obtain ⟨t0, t1, t2, t3, t4, t5, t6, t7, t8, t9, t10⟩ := c11 HBU.out.2
        obtain ⟨z0, z1, z2, z3, z4, z5, z6, z7, z8, z9, z10⟩ := f11 HBU.out.2
        go_wp2_with fail
        exact settle_told HRS.out rfl rfl HBU.out.2 rfl (by omega) HSU.out HRR.out.1 HRR.out.2 HAPU.out HNB.out HN2.out HPU.out
end Go.Proofs.YtgpohemcfgepeaaGreat
