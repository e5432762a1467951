/- a part. -/
import Derived.Test.YtgpohemcfgepeaaGreatGK
import Derived.Test.YtgpohemcfgepeaaGreatG2
namespace Go.Proofs.YtgpohemcfgepeaaGreat
open Go.RowKit Go.MapKept
def PoolOk (p : PoolD) : Prop := p.small ∧ 0 ≤ p.high ∧ p.high ≤ 5000
def StD.take (T : StD) : Int × Int × StD :=
  if (T.pool.take T.dev.n).2.2 = 0 then ((T.pool.take T.dev.n).2.1, 0, { T with pool := (T.pool.take T.dev.n).1, fresh := fun k => decide (k = (T.pool.take T.dev.n).2.1) || T.fresh k })
  else ((T.pool.take T.dev.n).2.1, (T.pool.take T.dev.n).2.2, T)
theorem freshF_set (g : Int → Bool) (n : Int) : (fun k => upd (freshF g) n (some (.int .i64 1)) k) = freshF (fun k => decide (k = n) || g k) := by
  funext k
  unfold upd freshF
  by_cases h : k = n
  · simp [h]
  · simp [h]
theorem zero_int' (w : World) : (zeroValue 3).run Tryz.prog w = .ok (.int .i64 0) w := by kernel_rfl
def PoolVar (w wr : World) (x : Value) (rp : PoolD) : Prop := ∃ g fa fc la lc, x = .pointer (some ⟨g, 0, none⟩) ∧ w.heap.size ≤ g ∧ wr.heap[g]? = some (.cells #[.int .i64 rp.high, .slice fa rp.free.length fc, .slice la rp.limbo.length lc] 107 (0, 0)) ∧
    (∀ S : List Nat, (∀ x, x ∈ S → x < w.heap.size ∨ x = g) → Ints S wr (.slice fa rp.free.length fc) rp.free ∧ Ints S wr (.slice la rp.limbo.length lc) rp.limbo) ∧ Fr [] w wr
theorem newPool_parts {w0 w2 : World} {rp : PoolD} {h : Int} {fv lv : Value} (hn : NewPool w0 w2 (.agg #[.int .i64 h, fv, lv]) rp) (S : List Nat) (hS : ∀ x, x ∈ S → x < w0.heap.size) : Ints S w2 fv rp.free ∧ Ints S w2 lv rp.limbo := by
  obtain ⟨fv', lv2, he, hi, hl⟩ := hn S hS
  simp only [Value.agg.injEq, Array.mk.injEq, List.cons.injEq, and_true] at he
  obtain ⟨_, rfl, rfl⟩ := he
  exact ⟨hi, hl⟩
theorem takeVA {w w2 : World} {rp : PoolD} {fa la : Option Addr} {fc lc : Nat} (hn : NewPool w.drew w2 (.agg #[.int .i64 rp.high, .slice fa rp.free.length fc, .slice la rp.limbo.length lc]) rp) (hf : Fr [] w w2) :
    PoolVar w (w2.alloc (.cells #[.int .i64 rp.high, .slice fa rp.free.length fc, .slice la rp.limbo.length lc] 107)) (.pointer (some ⟨w2.heap.size, 0, none⟩)) rp := by
  have hfa := Fr.alloc1 w2 (.cells #[.int .i64 rp.high, .slice fa rp.free.length fc, .slice la rp.limbo.length lc] 107)
  refine ⟨w2.heap.size, fa, fc, la, lc, rfl, hf.size, blk_new w2 _, fun S hS => ?_, hf.trans hfa⟩
  obtain ⟨hi, hl⟩ := newPool_parts hn (S.filter (fun x => decide (x < w.heap.size))) (fun x hx => by have := (List.mem_filter.1 hx).2; simpa using this)
  have hmore : ∀ x, x ∈ S → x ∈ S.filter (fun x => decide (x < w.heap.size)) ∨ w2.heap.size ≤ x := fun x hx => by
    rcases hS x hx with h | h
    · exact .inl (List.mem_filter.2 ⟨hx, by simpa using h⟩)
    · exact .inr (by omega)
  exact ⟨(Ints.more hi hmore).kept hfa.nil, (Ints.more hl hmore).kept hfa.nil⟩
theorem takeVB {w w2 : World} {rp : PoolD} {fa la : Option Addr} {fc lc : Nat} {o : Obj} (hn : NewPool (w.alloc o).drew w2 (.agg #[.int .i64 rp.high, .slice fa rp.free.length fc, .slice la rp.limbo.length lc]) rp) (hf : Fr [] w w2)
    {u0 u1 u2 : Value} (hbz : w2.heap[w.heap.size]? = some (.cells #[u0, u1, u2] 107 (0, 0))) :
    PoolVar w (((w2.setCell ⟨w.heap.size, 0, none⟩ (.int .i64 rp.high)).setCell ⟨w.heap.size, 1, none⟩ (.slice fa rp.free.length fc)).setCell ⟨w.heap.size, 2, none⟩ (.slice la rp.limbo.length lc)) (.pointer (some ⟨w.heap.size, 0, none⟩)) rp := by
  have hfs := Fr.set3 w2 w.heap.size (.int .i64 rp.high) (.slice fa rp.free.length fc) (.slice la rp.limbo.length lc)
  refine ⟨w.heap.size, fa, fc, la, lc, rfl, Nat.le_refl _, blk_set3 hbz _ _ _, fun S hS => ?_, (hf.nil.trans hfs).drop (by simp)⟩
  have hsz : (w.alloc o).drew.heap.size = w.heap.size + 1 := by simp
  obtain ⟨hi, hl⟩ := newPool_parts hn (S ++ [w.heap.size]) (fun x hx => by
    rw [hsz]
    rcases List.mem_append.1 hx with h | h
    · rcases hS x h with h | h <;> omega
    · have : x = w.heap.size := by simpa using h
      omega)
  exact ⟨(hi.kept (hfs.mono (fun x hx _ => List.mem_append.2 (.inr hx)))).mono (fun x hx => List.mem_append.2 (.inl hx)), (hl.kept (hfs.mono (fun x hx _ => List.mem_append.2 (.inr hx)))).mono (fun x hx => List.mem_append.2 (.inl hx))⟩
set_option maxRecDepth 100000 in
set_option maxHeartbeats 2000000 in
theorem stake_ap {sb b ml mc fm : Nat} {T : StD} (w : World) (h : StoAt w sb b ml mc fm T) (hp : PoolOk T.pool) :
    Calls Tryz.prog 131 #[.pointer (some ⟨sb, 0, none⟩)] w fun e w' => e = .returned (.tuple #[.int .i64 T.take.1, .int .i64 T.take.2.1]) ∧ (StoAt w' sb b ml mc fm T.take.2.2 ∧ Fr [sb, fm] w w') ∧ ApK w sb w' := by
  have HST := Lib.hid h
  obtain ⟨pv, kv, dv, gv, lv, bf, bl, pf, pl, hb, hv⟩ := h.blk
  obtain ⟨⟨_, _, e1⟩, ⟨_, _, e2⟩, ⟨_, _, e3⟩, ⟨_, _, e4⟩, ⟨_, _, e5⟩, ⟨_, _, e6⟩, ⟨_, _, e7⟩, ⟨qa, qc, rfl⟩, ⟨ra, rc, rfl⟩⟩ := hv.sl
  have HSL := Lib.hid (And.intro e1 (And.intro e2 (And.intro e3 (And.intro e4 (And.intro e5 (And.intro e6 e7))))))
  clear e1 e2 e3 e4 e5 e6 e7
  have HB := Lib.hid hb
  have HV := Lib.hid hv
  have c0 := blk_cell hb 0
  have c16 := blk_cell hb 16
  have c17 := blk_cell hb 17
  have c18 := blk_cell hb 18
  simp only [stL, List.getElem?_toArray, List.getElem?_cons_zero, List.getElem?_cons_succ] at c0 c16 c17 c18
  have hpa : PoolAt [] w.drew (.agg #[.int .i64 T.pool.high, .slice qa T.pool.free.length qc, .slice ra T.pool.limbo.length rc]) T.pool := ⟨_, _, rfl, (hv.pfree.mono (by simp)).kept (Fr.refl [] _).drew, (hv.plimbo.mono (by simp)).kept (Fr.refl [] _).drew⟩
  have HTK := Lib.hid (take_k (T.dev.n : Int) w.drew hpa hp.1 hp.2.1 hp.2.2)
  have HSC := Lib.hid (sectors_k w.drew h.dev.drew)
  have HC := Lib.hid (And.intro c0 (And.intro c16 (And.intro c17 c18)))
  obtain ⟨R, hR⟩ : ∃ R, T.pool.take T.dev.n = R := ⟨_, rfl⟩
  have hTT : T.take = if R.2.2 = 0 then (R.2.1, 0, { T with pool := R.1, fresh := fun k => decide (k = R.2.1) || T.fresh k }) else (R.2.1, R.2.2, T) := by unfold StD.take; rw [hR]
  have hZ := (Fr.alloc1 w (.cells #[.int .i64 0, .slice none 0 0, .slice none 0 0] 107)).drew
  have hpaB := hpa.mono (S' := []) (by simp)
  have hpaC : PoolAt [] (w.alloc (.cells #[.int .i64 0, .slice none 0 0, .slice none 0 0] 107)).drew (.agg #[.int .i64 T.pool.high, .slice qa T.pool.free.length qc, .slice ra T.pool.limbo.length rc]) T.pool := ⟨_, _, rfl, (hv.pfree.mono (by simp)).kept hZ, (hv.plimbo.mono (by simp)).kept hZ⟩
  have HTKB := Lib.hid (take_k (T.dev.n : Int) (w.alloc (.cells #[.int .i64 0, .slice none 0 0, .slice none 0 0] 107)).drew hpaC hp.1 hp.2.1 hp.2.2)
  have HSCB := Lib.hid (sectors_k (w.alloc (.cells #[.int .i64 0, .slice none 0 0, .slice none 0 0] 107)).drew (h.dev.kept hZ))
  have HCZ := Lib.hid (And.intro (hZ.cellSome c0 (by simp)) (And.intro (hZ.cellSome c16 (by simp)) (And.intro (hZ.cellSome c17 (by simp)) (hZ.cellSome c18 (by simp)))))
  have HZ := Lib.hid hZ
  rw [hR] at HTK HTKB
  have HTT := Lib.hid hTT
  clear hR hTT hpa hpaB hpaC hp h hb hv hZ
  obtain ⟨rp, rn, re⟩ := R
  dsimp only at HTT HTK HTKB
  go_enter Tryz.func131, Tryz.ntmps131
  go_upto_region 1 with fail
  go_cut [4, 5, 6] from 7 to 20 (fun x y z wr => y = .int .i64 rn ∧ z = .int .i64 re ∧ PoolVar w wr x rp)
  case first =>
    go_region_held3 (fun w' => w'.cell? ⟨sb, 0, none⟩ = some (.pointer (some ⟨b, 0, none⟩)) ∧ w'.cell? ⟨sb, 16, none⟩ = some (.int .i64 T.pool.high) ∧ w'.cell? ⟨sb, 17, none⟩ = some (.slice qa T.pool.free.length qc) ∧ w'.cell? ⟨sb, 18, none⟩ = some (.slice ra T.pool.limbo.length rc))
      (first | exact HC.out | exact HCZ.out | exact HC2.out | exact HC3.out _ | exact HC4.out | go_keep)
      (first
      | (go_at_call 77
         with_reducible refine HSC.out.mono ?_
         rintro e w2 ⟨rfl, rfl⟩)
      | (go_at_call 77
         with_reducible refine HSCB.out.mono ?_
         rintro e w2 ⟨rfl, rfl⟩)
      | (go_at_call 174
         with_reducible refine HTK.out.mono ?_
         rintro e w2 ⟨v2, rfl, hn2, hf2⟩
         obtain ⟨fv, lv2, rfl, hi, hl⟩ := hn2 [] (by simp)
         obtain ⟨fa, fc, rfl, _⟩ := Slc.form hi
         obtain ⟨la, lc, rfl, _⟩ := Slc.form hl
         have HN2 := Lib.hid hn2
         have hf2' := (Fr.refl [] w).drew.trans hf2
         have HF2 := Lib.hid hf2'
         have HC2 := Lib.hid (And.intro (hf2'.cellSome HC.out.1 (by simp)) (And.intro (hf2'.cellSome HC.out.2.1 (by simp)) (And.intro (hf2'.cellSome HC.out.2.2.1 (by simp)) (hf2'.cellSome HC.out.2.2.2 (by simp)))))
         have HC3 : Hid (∀ o, (w2.alloc o).cell? ⟨sb, 0, none⟩ = some (.pointer (some ⟨b, 0, none⟩)) ∧ (w2.alloc o).cell? ⟨sb, 16, none⟩ = some (.int .i64 T.pool.high) ∧ (w2.alloc o).cell? ⟨sb, 17, none⟩ = some (.slice qa T.pool.free.length qc) ∧ (w2.alloc o).cell? ⟨sb, 18, none⟩ = some (.slice ra T.pool.limbo.length rc)) := Lib.hid fun o =>
           ⟨(Fr.alloc1 w2 o).cellSome HC2.out.1 (by simp), (Fr.alloc1 w2 o).cellSome HC2.out.2.1 (by simp), (Fr.alloc1 w2 o).cellSome HC2.out.2.2.1 (by simp), (Fr.alloc1 w2 o).cellSome HC2.out.2.2.2 (by simp)⟩
         clear hn2 hi hl hf2 hf2')
      | (go_at_call 174
         with_reducible refine HTKB.out.mono ?_
         rintro e w2 ⟨v2, rfl, hn2, hf2⟩
         obtain ⟨fv, lv2, rfl, hi, hl⟩ := hn2 [] (by simp)
         obtain ⟨fa, fc, rfl, _⟩ := Slc.form hi
         obtain ⟨la, lc, rfl, _⟩ := Slc.form hl
         have HN2 := Lib.hid hn2
         have hf2' := HZ.out.trans hf2
         have HF2 := Lib.hid hf2'
         have HC2 := Lib.hid (And.intro (hf2'.cellSome HC.out.1 (by simp)) (And.intro (hf2'.cellSome HC.out.2.1 (by simp)) (And.intro (hf2'.cellSome HC.out.2.2.1 (by simp)) (hf2'.cellSome HC.out.2.2.2 (by simp)))))
         have HC3 : Hid (∀ o, (w2.alloc o).cell? ⟨sb, 0, none⟩ = some (.pointer (some ⟨b, 0, none⟩)) ∧ (w2.alloc o).cell? ⟨sb, 16, none⟩ = some (.int .i64 T.pool.high) ∧ (w2.alloc o).cell? ⟨sb, 17, none⟩ = some (.slice qa T.pool.free.length qc) ∧ (w2.alloc o).cell? ⟨sb, 18, none⟩ = some (.slice ra T.pool.limbo.length rc)) := Lib.hid fun o =>
           ⟨(Fr.alloc1 w2 o).cellSome HC2.out.1 (by simp), (Fr.alloc1 w2 o).cellSome HC2.out.2.1 (by simp), (Fr.alloc1 w2 o).cellSome HC2.out.2.2.1 (by simp), (Fr.alloc1 w2 o).cellSome HC2.out.2.2.2 (by simp)⟩
         have hbz := hf2.heap ((Fr.refl [] _).drew.heap (blk_new w (.cells #[.int .i64 0, .slice none 0 0, .slice none 0 0] 107)) (by simp)) (by simp)
         have z0 := blk_cell hbz 0
         have z1 := blk_cell hbz 1
         have z2 := blk_cell hbz 2
         have y0 := blk_free hbz 0
         have y1 := blk_free hbz 1
         have y2 := blk_free hbz 2
         simp only [List.getElem?_toArray, List.getElem?_cons_zero, List.getElem?_cons_succ] at z0 z1 z2
         have hfs := Fr.set3 w2 w.heap.size (.int .i64 rp.high) (.slice fa rp.free.length fc) (.slice la rp.limbo.length lc)
         have hne : sb ≠ w.heap.size := by have := lt_of_heap HB.out; omega
         have HC4 := Lib.hid (And.intro (hfs.cellSome HC2.out.1 (by simpa using hne)) (And.intro (hfs.cellSome HC2.out.2.1 (by simpa using hne)) (And.intro (hfs.cellSome HC2.out.2.2.1 (by simpa using hne)) (hfs.cellSome HC2.out.2.2.2 (by simpa using hne)))))
         have HBZ := Lib.hid hbz
         clear hn2 hi hl hf2 hf2' hbz hfs hne))
    all_goals
      clear HC3 HC2
      go_wp2_with fail
      go_meet
      first
        | exact ⟨rfl, rfl, takeVA HN2.out HF2.out⟩
        | exact ⟨rfl, rfl, takeVB HN2.out HF2.out HBZ.out⟩
  case rest =>
    obtain ⟨rfl, rfl, g, fa, fc, la, lc, rfl, hg, hgb, hgi, hfr⟩ := hcut
    have HG := Lib.hid (And.intro hg (And.intro hgb (And.intro hgi hfr)))
    by_cases he : re = 0
    · subst he
      rw [if_pos rfl] at HTT
      have g0 := blk_cell hgb 0
      have g1 := blk_cell hgb 1
      have g2 := blk_cell hgb 2
      have hb := hfr.heap HB.out (by simp)
      have d16 := blk_cell hb 16
      have d17 := blk_cell hb 17
      have d18 := blk_cell hb 18
      have d19 := blk_cell hb 19
      have f16 := blk_free hb 16
      have f17 := blk_free hb 17
      have f18 := blk_free hb 18
      simp only [stL, List.getElem?_toArray, List.getElem?_cons_zero, List.getElem?_cons_succ] at g0 g1 g2 d16 d17 d18 d19
      have hap := HST.out.apart
      have hlt := HST.out.lt
      have hne : g ≠ sb ∧ g ≠ fm ∧ g ≠ b ∧ g ≠ ml ∧ g ≠ mc := by omega
      obtain ⟨W1, hW1⟩ : ∃ W1, (((wc.setCell ⟨sb, 16, none⟩ (.int .i64 rp.high)).setCell ⟨sb, 17, none⟩ (.slice fa rp.free.length fc)).setCell ⟨sb, 18, none⟩ (.slice la rp.limbo.length lc)).drew = W1 := ⟨_, rfl⟩
      have hf1 : Fr [sb] wc W1 := by
        rw [← hW1]
        exact (((Fr.setCell wc ⟨sb, 16, none⟩ _).trans (Fr.setCell _ ⟨sb, 17, none⟩ _)).trans (Fr.setCell _ ⟨sb, 18, none⟩ _)).drew
      have hb1 : W1.heap[sb]? = some (.cells (stL b fm T.super pv kv dv gv lv T.base.high bf bl rp.high (.slice fa rp.free.length fc) (.slice la rp.limbo.length lc)).toArray 113 (0, 0)) := by
        rw [← hW1]
        refine (Fr.refl [] _).drew.heap ?_ (by simp)
        rw [blk_set (blk_set (blk_set hb 16 _) 17 _) 18 _]
        rfl
      have hm1 := (HST.out.map.kept hfr (by simp)).kept hf1 (by simp; omega)
      obtain ⟨v0, bn, W2, hme, hf2, hs2, hes⟩ := MapG.entry (P := Tryz.prog) keInt Tryz.underlying111 Tryz.underlying3 hm1 rn zero_int'
      obtain ⟨W3, hrun3, hm3, hf3, hs3⟩ := hes W2 (.int .i64 1) rfl
      have hb3 := hf3.heap (hf2.heap hb1 (by simp; omega)) (by simp; omega)
      have HQ : Hid ((StoAt W3 sb b ml mc fm { T with pool := rp, fresh := fun k => decide (k = rn) || T.fresh k } ∧ Fr [sb, fm] w W3) ∧ ApK w sb W3) := Lib.hid (by
        have hfx : Fr [sb, fm] wc W3 := ((hf1.mono (S' := [sb, fm]) (by simp)).trans (hf2.mono (by simp))).trans (hf3.mono (by simp))
        have hf03 : Fr [sb, fm] w W3 := hfr.nil.trans hfx
        have hv3 : StoV W3 [sb, fm, b, ml, mc] T pv kv dv gv lv bf bl (.slice qa T.pool.free.length qc) (.slice ra T.pool.limbo.length rc) := HV.out.kept (hf03.mono (fun x hx _ => by simp at hx ⊢; rcases hx with h | h <;> simp [h]))
        obtain ⟨hi, hl⟩ := hgi [sb, fm, b, ml, mc] (fun x hx => .inl (by simp only [List.mem_cons, List.not_mem_nil, or_false] at hx; rcases hx with h | h | h | h | h <;> omega))
        have hak : ApK w sb W3 := ap_turn HB.out hb3 (fun S hS => by
          obtain ⟨h3, h4⟩ := hgi (sb :: fm :: S) (fun x hx => .inl (by
            simp only [List.mem_cons] at hx
            rcases hx with h | h | h
            · omega
            · omega
            · exact hS x h))
          exact ⟨⟨_, (h3.kept (hfx.mono (fun x hx _ => by simp at hx ⊢; rcases hx with h | h <;> simp [h]))).mono (fun x hx => List.mem_cons_of_mem _ (List.mem_cons_of_mem _ hx))⟩, ⟨_, (h4.kept (hfx.mono (fun x hx _ => by simp at hx ⊢; rcases hx with h | h <;> simp [h]))).mono (fun x hx => List.mem_cons_of_mem _ (List.mem_cons_of_mem _ hx))⟩⟩)
        refine ⟨?_, hak⟩
        refine ⟨⟨⟨pv, kv, dv, gv, lv, bf, bl, _, _, hb3, ⟨hv3.super, hv3.lists, hv3.bfree, hv3.blimbo, ?_, ?_⟩⟩, ?_, ?_, HST.out.ne⟩, hf03⟩
        · exact hi.kept (hfx.mono (fun x hx _ => by simp at hx ⊢; rcases hx with h | h <;> simp [h]))
        · exact hl.kept (hfx.mono (fun x hx _ => by simp at hx ⊢; rcases hx with h | h <;> simp [h]))
        · exact MapG.congr hm3 (fun k => congrFun (freshF_set T.fresh rn) k)
        · refine HST.out.dev.apart hf03 (fun x hx => ?_) (by simp; omega) (by simp; omega) (by simp; omega)
          simp only [List.mem_cons, List.not_mem_nil, or_false] at hx
          rcases hx with h | h <;> rw [h]
          · exact HST.out.noByte.1
          · exact HST.out.noByte.2)
      have hS2 : W2.cell? ⟨sb, 19, none⟩ = some (.map (some fm)) := hf2.cellSome (by rw [blk_cell hb1 19]; rfl) (by simp; omega)
      have hS3 : W3.cell? ⟨sb, 19, none⟩ = some (.map (some fm)) := hf3.cellSome hS2 (by simp; omega)
      have hgb1 := hf1.heap hgb (by simp; omega)
      have hgb2 := hf2.heap hgb1 (by simp; omega)
      have hgb3 := hf3.heap hgb2 (by simp; omega)
      have HS2 := Lib.hid (And.intro hS2 (And.intro (blk_cell hgb2 0) (And.intro (blk_cell hgb2 1) (blk_cell hgb2 2))))
      have HS3 := Lib.hid (And.intro hS3 (And.intro (blk_cell hgb3 0) (And.intro (blk_cell hgb3 1) (blk_cell hgb3 2))))
      have hS1 : W1.cell? ⟨sb, 19, none⟩ = some (.map (some fm)) := by rw [blk_cell hb1 19]; rfl
      have hS1a := And.intro hS1 (And.intro (blk_cell hgb1 0) (And.intro (blk_cell hgb1 1) (blk_cell hgb1 2)))
      rw [← hW1] at hme hS1a
      have HS1 := Lib.hid hS1a
      clear hg hgb hgi hfr hb hap hlt hne hW1 hf1 hb1 hm1 hf2 hs2 hes hm3 hf3 hs3 hb3 hS1 hS1a hS2 hS3 hgb1 hgb2 hgb3
      go_wp2_with fail
      go_region_held3 (fun w' => w'.cell? ⟨sb, 19, none⟩ = some (.map (some fm)) ∧ w'.cell? ⟨g, 0, none⟩ = some (.int .i64 rp.high) ∧ w'.cell? ⟨g, 1, none⟩ = some (.slice fa rp.free.length fc) ∧ w'.cell? ⟨g, 2, none⟩ = some (.slice la rp.limbo.length lc)) (first | exact ⟨d19, g0, g1, g2⟩ | exact HS1.out | exact HS2.out | exact HS3.out | go_keep)
        (fail)
      all_goals
        go_wp2_with fail
        go_ret2
        exact ⟨by rw [HTT.out]; rfl, by rw [HTT.out]; exact HQ.out⟩
    · rw [if_neg he] at HTT
      have be : (re == 0) = false := by simpa using he
      have HQ : Hid ((StoAt wc sb b ml mc fm T ∧ Fr [sb, fm] w wc) ∧ ApK w sb wc) := Lib.hid ⟨⟨HST.out.kept hfr, hfr.nil⟩, ApK.ofFr hfr (lt_of_heap HB.out) (by simp)⟩
      clear hg hgb hgi hfr he
      go_wp2_with fail
      go_ret2
      exact ⟨by rw [HTT.out]; rfl, by rw [HTT.out]; exact HQ.out⟩
theorem stake_k {sb b ml mc fm : Nat} {T : StD} (w : World) (h : StoAt w sb b ml mc fm T) (hp : PoolOk T.pool) :
    Calls Tryz.prog 131 #[.pointer (some ⟨sb, 0, none⟩)] w fun e w' => e = .returned (.tuple #[.int .i64 T.take.1, .int .i64 T.take.2.1]) ∧ StoR w sb b ml mc fm T.take.2.2 w' :=
  (stake_ap w h hp).mono fun _ _ h => ⟨h.1, fm, h.2.1.1, h.2.1.2.mono (fun x hx _ => by simp at hx ⊢; rcases hx with h | h <;> simp [h]), .inl rfl, h.2.2⟩
end Go.Proofs.YtgpohemcfgepeaaGreat

namespace Go.Proofs.YtgpohemcfgepeaaGreat
open Go.RowKit Go.MapKept
theorem StoAt.devIs {w w' : World} {sb b ml mc fm : Nat} {T : StD} {D : Dv} (h : StoAt w sb b ml mc fm T) (hf : Fr [b, ml, mc] w w') (hd : DevAt w' b ml mc D) : StoAt w' sb b ml mc fm { T with dev := D } := by
  obtain ⟨pv, kv, dv, gv, lv, bf, bl, pf, pl, hb, hv⟩ := h.blk
  have hap := h.apart
  have hv' := hv.kept (hf.mono (S' := [sb, fm, b, ml, mc]) (fun x hx _ => by simp only [List.mem_cons, List.not_mem_nil, or_false] at hx ⊢; rcases hx with h | h | h <;> simp [h]))
  exact ⟨⟨pv, kv, dv, gv, lv, bf, bl, pf, pl, hf.heap hb (by simp; omega), ⟨hv'.super, hv'.lists, hv'.bfree, hv'.blimbo, hv'.pfree, hv'.plimbo⟩⟩, h.map.kept hf (by simp; omega), hd, h.ne⟩
def StD.write (T : StD) (n : Int) (p : PageD) : Int × StD :=
  if p.okAt n = true then (writeE T.dev n (p.encL n), { T with dev := writeD T.dev n (p.encL n) }) else (50, T)
theorem encL_length {p : PageD} {n : Int} (h : p.okAt n = true) : (p.encL n).length = 1024 := by
  have hc : p.check = true := by unfold PageD.okAt at h; simp only [Bool.and_eq_true] at h; exact h.1
  have hb := body_length hc
  have ht : (p.text n).length ≤ 1003 := by unfold PageD.text; rw [List.length_append, List.length_append, twoL_length]; simp; omega
  unfold PageD.encL
  split
  · rename_i k4
    have := hb.2 k4
    refine superB_length (eightL_length _) ?_
    unfold PageD.text; rw [List.length_append, List.length_append, twoL_length]; simp; omega
  · exact plainL_length (by omega)
theorem sect_bytes {w w' : World} {v : Value} {l : List UInt8} (h : Sect w w' v l) (S : List Nat) (hS : ∀ x, x ∈ S → x < w.heap.size) : Bytes S w' v l := by
  obtain ⟨B, rfl, hB, hb, hl⟩ := h
  have := Slc.ofBlock (S := S) hb (fun hm => by have := hS B hm; omega) 1024 1024 (Nat.le_refl _)
  unfold Bytes
  rw [hl]
  simpa [hl] using this
set_option maxRecDepth 100000 in
set_option maxHeartbeats 2000000 in
theorem swrite_k {S : List Nat} {sb b ml mc fm : Nat} {T : StD} {v : Value} {p : PageD} (n : Int) (w : World) (h : StoAt w sb b ml mc fm T) (hp : PageAt S w v p) (hs : p.small) (he0 : 0 ≤ p.epoch) (he1 : p.epoch < 18446744073709551616) :
    Calls Tryz.prog 97 #[.pointer (some ⟨sb, 0, none⟩), .int .i64 n, v] w fun e w' => e = .returned (.int .i64 (T.write n p).1) ∧ StoR w sb b ml mc fm (T.write n p).2 w' := by
  obtain ⟨pv, kv, dv, gv, rfl, hpi⟩ := hp.mono (S' := []) (by simp)
  obtain ⟨pa, pc, rfl, _⟩ := Slc.form hpi.pairs
  obtain ⟨ka, kc, rfl, _⟩ := Slc.form hpi.keys
  obtain ⟨da, dc, rfl, _⟩ := Slc.form hpi.kids
  obtain ⟨ga, gc, rfl, _⟩ := Slc.form hpi.pages
  obtain ⟨W1, hW1⟩ : ∃ W1, w.alloc (.cells (pageCells p (.slice pa p.pairs.length pc) (.slice ka p.keys.length kc) (.slice da p.kids.length dc) (.slice ga p.pages.length gc)).toArray 90) = W1 := ⟨_, rfl⟩
  have hal : Fr [] w W1 := by rw [← hW1]; exact Fr.alloc1 w _
  have hbk : W1.heap[w.heap.size]? = some (.cells (pageCells p (.slice pa p.pairs.length pc) (.slice ka p.keys.length kc) (.slice da p.kids.length dc) (.slice ga p.pages.length gc)).toArray 90 (0, 0)) := by rw [← hW1]; exact blk_new w _
  have HEN := Lib.hid (enc_k n W1 ⟨_, _, _, _, rfl, hpi.kept hal⟩ hs he0 he1)
  obtain ⟨qv, q2, q3, q4, lv, bf, bl, pf, pl, hb, hv⟩ := h.blk
  have c0 := (hal.heap hb (by simp))
  have c00 := blk_cell c0 0
  simp only [stL, List.getElem?_toArray, List.getElem?_cons_zero] at c00
  have HST := Lib.hid (h.kept hal)
  have HSB := Lib.hid h.lt.1
  have HAL := Lib.hid hal
  have HC := Lib.hid c00
  obtain ⟨ok, hok⟩ : ∃ ok, p.okAt n = ok := ⟨_, rfl⟩
  have HOK := Lib.hid hok
  obtain ⟨L, hL⟩ : ∃ L, p.encL n = L := ⟨_, rfl⟩
  have hWR : (ok = true → T.write n p = (writeE T.dev n L, { T with dev := writeD T.dev n L })) ∧ (ok = false → T.write n p = (50, T)) := by
    unfold StD.write
    rw [hok, hL]
    exact ⟨fun h => if_pos h, fun h => if_neg (by rw [h]; simp)⟩
  have HWR := Lib.hid hWR
  rw [hok, hL] at HEN
  unfold pageCells at *
  clear h hp hpi hs he0 he1 hal hb hv c0 c00 hok hL hWR
  obtain ⟨kd, prs, ks, ds, gs, nx, ep, rt, dp, ct, hg⟩ := p
  dsimp only at *
  generalize prs.length = n1 at *
  generalize ks.length = n2 at *
  generalize ds.length = n3 at *
  generalize gs.length = n4 at *
  have q0 := blk_cell hbk 0
  have q1 := blk_cell hbk 1
  have q2' := blk_cell hbk 2
  have q3' := blk_cell hbk 3
  have q4' := blk_cell hbk 4
  have q5 := blk_cell hbk 5
  have q6 := blk_cell hbk 6
  have q7 := blk_cell hbk 7
  have q8 := blk_cell hbk 8
  have q9 := blk_cell hbk 9
  have q10 := blk_cell hbk 10
  simp only [List.getElem?_toArray, List.getElem?_cons_zero, List.getElem?_cons_succ] at q0 q1 q2' q3' q4' q5 q6 q7 q8 q9 q10
  clear hbk
  go_enter Tryz.func97, Tryz.ntmps97
  go_wp2_with fail
  with_reducible refine HEN.out.mono ?_
  intro e w2 h2
  clear HEN q0 q1 q2' q3' q4' q5 q6 q7 q8 q9 q10 hW1
  rcases h2 with ⟨rfl, v2, rfl, hs2, hf2⟩ | ⟨rfl, rfl, hf2⟩
  · have HT2 := Lib.hid (HST.out.kept hf2)
    have hlt := HST.out.lt
    have hbb := sect_bytes hs2 [b, ml, mc] (by simp; omega)
    have HWK := Lib.hid (write_k n w2 HT2.out.dev hbb)
    have c0 := hf2.cellSome HC.out (by simp)
    have HF2 := Lib.hid (HAL.out.trans hf2)
    obtain ⟨B, rfl, _⟩ := hs2
    clear hf2 hlt hbb
    go_wp2_with fail
    with_reducible refine HWK.out.mono ?_
    rintro e w3 ⟨rfl, hd3, hf3⟩
    have HQ : Hid (StoR w sb b ml mc fm { T with dev := writeD T.dev n L } w3) := Lib.hid (by
      have hs3 := HT2.out.devIs (hf3.mono (by simp)) hd3
      exact StoR.trans (HF2.out.nil) (MR.of HF2.out HSB.out) ⟨fm, hs3, hf3.mono (by simp), .inl rfl, ApK.ofFr hf3 HT2.out.lt.1 (by have := HT2.out.apart; simp; omega)⟩)
    clear hd3 hf3 HWK
    go_wp2
    go_ret
    exact ⟨by rw [HWR.out.1 (by first | rfl | trivial)]; rfl, by rw [HWR.out.1 (by first | rfl | trivial)]; exact HQ.out⟩
  · have HQ : Hid (StoR w sb b ml mc fm T w2) := Lib.hid (StoR.trans (HAL.out.nil) (MR.of HAL.out HSB.out) (StoR.ofFr HST.out hf2))
    clear hf2
    go_wp2
    go_ret
    exact ⟨by rw [HWR.out.2 (by first | rfl | trivial)]; rfl, by rw [HWR.out.2 (by first | rfl | trivial)]; exact HQ.out⟩
def StD.drop (T : StD) (n : Int) : Int × StD :=
  if (if T.fresh n = true then T.pool.back n else T.pool.give n).2 = 0 then (0, { T with pool := (if T.fresh n = true then T.pool.back n else T.pool.give n).1, fresh := fun k => !decide (k = n) && T.fresh k })
  else ((if T.fresh n = true then T.pool.back n else T.pool.give n).2, T)
theorem freshF_del (g : Int → Bool) (n : Int) : (fun k => upd (freshF g) n none k) = freshF (fun k => !decide (k = n) && g k) := by
  funext k
  unfold upd freshF
  by_cases h : k = n
  · simp [h]
  · simp [h]
theorem fresh_look {w : World} {fm : Nat} {g : Int → Bool} (h : MapG (Value.int .i64) w fm (freshF g)) (n : Int) :
    (Instr.lookup 111 (.map (some fm)) (.int .i64 n) false).run Tryz.prog w = .ok (.int .i64 (if g n = true then 1 else 0)) w := by
  by_cases hg : g n = true
  · rw [if_pos hg]
    have := MapG.lookup_some (P := Tryz.prog) keInt Tryz.underlying111 Tryz.underlying3 h (k := n) (v := .int .i64 1) (by unfold freshF; rw [if_pos hg]) false
    simpa using this
  · rw [if_neg hg]
    have := MapG.lookup_none (P := Tryz.prog) keInt Tryz.underlying111 Tryz.underlying3 h (k := n) (by unfold freshF; rw [if_neg hg]) (zero_int' w) false
    simpa using this
theorem giveP.any {w w1 w' : World} {r : PoolD × Int} {e : Ending} (h : giveP w1 r e w') (hf : Fr [] w w1) : ∃ fa fc la lc, e = .returned (.tuple #[.agg #[.int .i64 r.1.high, .slice fa r.1.free.length fc, .slice la r.1.limbo.length lc], .int .i64 r.2]) ∧
    (∀ S : List Nat, (∀ x, x ∈ S → x < w.heap.size) → Ints S w' (.slice fa r.1.free.length fc) r.1.free ∧ Ints S w' (.slice la r.1.limbo.length lc) r.1.limbo) ∧ Fr [] w w' := by
  obtain ⟨v, rfl, hn, hf2⟩ := h
  obtain ⟨fv, lv, rfl, hi, hl⟩ := hn [] (by simp)
  obtain ⟨fa, fc, rfl, _⟩ := Slc.form hi
  obtain ⟨la, lc, rfl, _⟩ := Slc.form hl
  exact ⟨fa, fc, la, lc, rfl, fun S hS => newPool_parts hn S (fun x hx => Nat.lt_of_lt_of_le (hS x hx) hf.size), hf.trans hf2⟩
theorem StoAt.repool {w wc W1 : World} {sb b ml mc fm : Nat} {T : StD} (h : StoAt w sb b ml mc fm T) (hf : Fr [] w wc) {rp : PoolD} {fa la : Option Addr} {fc lc : Nat}
    (hi : ∀ S : List Nat, (∀ x, x ∈ S → x < w.heap.size) → Ints S wc (.slice fa rp.free.length fc) rp.free ∧ Ints S wc (.slice la rp.limbo.length lc) rp.limbo)
    (hW : ((wc.setCell ⟨sb, 16, none⟩ (.int .i64 rp.high)).setCell ⟨sb, 17, none⟩ (.slice fa rp.free.length fc)).setCell ⟨sb, 18, none⟩ (.slice la rp.limbo.length lc) = W1) :
    StoAt W1 sb b ml mc fm { T with pool := rp } ∧ Fr [sb] w W1 ∧ ApK w sb W1 := by
  obtain ⟨pv, kv, dv, gv, lv, bf, bl, pf, pl, hb, hv⟩ := h.blk
  have hap := h.apart
  have hlt := h.lt
  have hf1 : Fr [sb] wc W1 := by
    rw [← hW]
    exact ((Fr.setCell wc ⟨sb, 16, none⟩ _).trans (Fr.setCell _ ⟨sb, 17, none⟩ _)).trans (Fr.setCell _ ⟨sb, 18, none⟩ _)
  have hb1 : W1.heap[sb]? = some (.cells (stL b fm T.super pv kv dv gv lv T.base.high bf bl rp.high (.slice fa rp.free.length fc) (.slice la rp.limbo.length lc)).toArray 113 (0, 0)) := by
    rw [← hW, blk_set (blk_set (blk_set (hf.heap hb (by simp)) 16 _) 17 _) 18 _]
    rfl
  have hf2 : Fr [sb] w W1 := hf.nil.trans hf1
  have hv1 := hv.kept (hf2.mono (S' := [sb, fm, b, ml, mc]) (by simp))
  obtain ⟨h1, h2⟩ := hi [sb, fm, b, ml, mc] (fun x hx => by simp only [List.mem_cons, List.not_mem_nil, or_false] at hx; rcases hx with h | h | h | h | h <;> omega)
  refine ⟨⟨⟨pv, kv, dv, gv, lv, bf, bl, _, _, hb1, ⟨hv1.super, hv1.lists, hv1.bfree, hv1.blimbo, h1.kept (hf1.mono (by simp)), h2.kept (hf1.mono (by simp))⟩⟩, h.map.kept hf2 (by simp; omega), ?_, h.ne⟩, hf2, ap_turn hb hb1 (fun S hS => ?_)⟩
  rotate_left
  · obtain ⟨g1, g2⟩ := hi (sb :: S) (fun x hx => by
      rcases List.mem_cons.1 hx with h | h
      · omega
      · exact hS x h)
    exact ⟨⟨_, (g1.kept (hf1.mono (by simp))).mono (fun x hx => List.mem_cons_of_mem _ hx)⟩, ⟨_, (g2.kept (hf1.mono (by simp))).mono (fun x hx => List.mem_cons_of_mem _ hx)⟩⟩
  refine h.dev.apart hf2 (fun x hx => ?_) (by simp; omega) (by simp; omega) (by simp; omega)
  rw [List.mem_singleton.1 hx]
  exact h.noByte.1
set_option maxRecDepth 100000 in
set_option maxHeartbeats 2000000 in
theorem sdrop_k {sb b ml mc fm : Nat} {T : StD} (n : Int) (w : World) (h : StoAt w sb b ml mc fm T) (hp : PoolOk T.pool) :
    Calls Tryz.prog 102 #[.pointer (some ⟨sb, 0, none⟩), .int .i64 n] w fun e w' => e = .returned (.int .i64 (T.drop n).1) ∧ StoR w sb b ml mc fm (T.drop n).2 w' := by
  have HST := Lib.hid h
  obtain ⟨pv, kv, dv, gv, lv, bf, bl, pf, pl, hb, hv⟩ := h.blk
  obtain ⟨_, _, _, _, _, _, _, ⟨qa, qc, rfl⟩, ⟨ra, rc, rfl⟩⟩ := hv.sl
  have HB := Lib.hid hb
  have c16 := blk_cell hb 16
  have c17 := blk_cell hb 17
  have c18 := blk_cell hb 18
  have c19 := blk_cell hb 19
  simp only [stL, List.getElem?_toArray, List.getElem?_cons_zero, List.getElem?_cons_succ] at c16 c17 c18 c19
  have hlk := fresh_look h.map n
  have hpa : PoolAt [] w (.agg #[.int .i64 T.pool.high, .slice qa T.pool.free.length qc, .slice ra T.pool.limbo.length rc]) T.pool := ⟨_, _, rfl, hv.pfree.mono (by simp), hv.plimbo.mono (by simp)⟩
  have HGV := Lib.hid (give_k n w hpa hp.1)
  have HBK := Lib.hid (back_k n w hpa hp.1)
  obtain ⟨r, hr⟩ : ∃ r, (if T.fresh n = true then T.pool.back n else T.pool.give n) = r := ⟨_, rfl⟩
  have hDR : T.drop n = if r.2 = 0 then (0, { T with pool := r.1, fresh := fun k => !decide (k = n) && T.fresh k }) else (r.2, T) := by unfold StD.drop; rw [hr]
  have HDR := Lib.hid hDR
  have hcall : ∃ F, (if T.fresh n = true then F = 139 else F = 132) ∧ Calls Tryz.prog F #[.agg #[.int .i64 T.pool.high, .slice qa T.pool.free.length qc, .slice ra T.pool.limbo.length rc], .int .i64 n] w (giveP w r) := by
    by_cases hg : T.fresh n = true
    · rw [if_pos hg] at hr
      exact ⟨_, by rw [if_pos hg], by rw [← hr]; exact HBK.out⟩
    · rw [if_neg hg] at hr
      exact ⟨_, by rw [if_neg hg], by rw [← hr]; exact HGV.out⟩
  obtain ⟨F, hF, hcall⟩ := hcall
  have HCL := Lib.hid hcall
  clear hr hDR hcall h hb hv hpa HGV HBK hp
  -- what follows the call, the same on both ways
  cases hg : T.fresh n
  all_goals
    rw [hg] at hF hlk
    simp only [Bool.false_eq_true, if_false, if_true] at hF hlk
    subst hF
    have HG := Lib.hid hg
    clear hg
    go_enter Tryz.func102, Tryz.ntmps102
    go_wp2_with fail
    with_reducible refine HCL.out.mono ?_
    intro e w1 h1
    obtain ⟨fa, fc, la, lc, rfl, hi, hf⟩ := giveP.any h1 (Fr.refl [] w)
    obtain ⟨rp, re⟩ := r
    dsimp only at *
    have hfa := Fr.alloc1 w1 (.cells #[.int .i64 rp.high, .slice fa rp.free.length fc, .slice la rp.limbo.length lc] 107)
    have hfc := hf.trans hfa
    by_cases he : re = 0
    · subst he
      obtain ⟨Wc, hWc⟩ : ∃ Wc, w1.alloc (.cells #[.int .i64 rp.high, .slice fa rp.free.length fc, .slice la rp.limbo.length lc] 107) = Wc := ⟨_, rfl⟩
      obtain ⟨W1, hW1⟩ : ∃ W1, ((Wc.setCell ⟨sb, 16, none⟩ (.int .i64 rp.high)).setCell ⟨sb, 17, none⟩ (.slice fa rp.free.length fc)).setCell ⟨sb, 18, none⟩ (.slice la rp.limbo.length lc) = W1 := ⟨_, rfl⟩
      rw [hWc] at hfa hfc
      obtain ⟨hs1, hf1, hk1⟩ := HST.out.repool hfc (fun S hS => ⟨(hi S hS).1.kept hfa.nil, (hi S hS).2.kept hfa.nil⟩) hW1
      obtain ⟨W2, hdel, hm2, hf2, hz2⟩ := MapG.delete (P := Tryz.prog) (ty := 0) keInt Tryz.underlying111 Tryz.underlying3 hs1.map n
      have hap := HST.out.apart
      have HQ : Hid (StoR w sb b ml mc fm { T with pool := rp, fresh := fun k => !decide (k = n) && T.fresh k } W2) := Lib.hid (by
        obtain ⟨pv, kv, dv, gv, lv, bf, bl, pf, pl, hb, hv⟩ := hs1.blk
        have hv2 := hv.kept (hf2.mono (S' := [sb, fm, b, ml, mc]) (by simp))
        refine ⟨fm, ⟨⟨pv, kv, dv, gv, lv, bf, bl, pf, pl, hf2.heap hb (by simp; omega), ⟨hv2.super, hv2.lists, hv2.bfree, hv2.blimbo, hv2.pfree, hv2.plimbo⟩⟩, MapG.congr hm2 (fun k => congrFun (freshF_del T.fresh n) k), ?_, HST.out.ne⟩, (hf1.mono (by simp)).trans (hf2.mono (by simp)), .inl rfl, hk1.trans (ApK.ofFr hf2 hs1.lt.1 (by have := hs1.apart; simp; omega)) hf1.size⟩
        refine hs1.dev.apart hf2 (fun x hx => ?_) (by simp; omega) (by simp; omega) (by simp; omega)
        rw [List.mem_singleton.1 hx]
        exact hs1.noByte.2)
      have hbc := hfc.heap HB.out (by simp)
      have d16 := blk_cell hbc 16
      have d17 := blk_cell hbc 17
      have d18 := blk_cell hbc 18
      have d19 := blk_cell hbc 19
      have f16 := blk_free hbc 16
      have f17 := blk_free hbc 17
      have f18 := blk_free hbc 18
      simp only [stL, List.getElem?_toArray, List.getElem?_cons_zero, List.getElem?_cons_succ] at d16 d17 d18 d19
      have hgb := blk_new w1 (.cells #[.int .i64 rp.high, .slice fa rp.free.length fc, .slice la rp.limbo.length lc] 107)
      rw [hWc] at hgb
      have g0 := blk_cell hgb 0
      have g1 := blk_cell hgb 1
      have g2 := blk_cell hgb 2
      simp only [List.getElem?_toArray, List.getElem?_cons_zero, List.getElem?_cons_succ] at g0 g1 g2
      rw [← hWc] at hW1 d16 d17 d18 d19 f16 f17 f18 g0 g1 g2
      rw [← hW1] at hdel
      have hd0 : (Builtin.delete_ #[111, 3] 0 #[.map (some fm), .int .i64 n]).run Tryz.prog ((((w1.alloc (.cells #[.int .i64 rp.high, .slice fa rp.free.length fc, .slice la rp.limbo.length lc] 107)).setCell ⟨sb, 16, none⟩ (.int .i64 rp.high)).setCell ⟨sb, 17, none⟩ (.slice fa rp.free.length fc)).setCell ⟨sb, 18, none⟩ (.slice la rp.limbo.length lc)) = .ok (.tuple #[]) W2 := hdel
      simp only [if_pos] at HDR
      clear h1 hi hf hfa hfc hWc hW1 hs1 hf1 hdel hm2 hf2 hz2 hap hbc hgb HCL
      go_wp2_with fail
      go_ret
      exact ⟨by rw [HDR.out]; rfl, by rw [HDR.out]; exact HQ.out⟩
    · have HQ : Hid (StoR w sb b ml mc fm T (w1.alloc (.cells #[.int .i64 rp.high, .slice fa rp.free.length fc, .slice la rp.limbo.length lc] 107))) := Lib.hid (StoR.ofFr HST.out hfc)
      rw [if_neg he] at HDR
      have be : (re == 0) = false := by simpa using he
      clear h1 hi hf hfa hfc HCL he
      go_wp2_with fail
      go_ret
      exact ⟨by rw [HDR.out]; rfl, by rw [HDR.out]; exact HQ.out⟩
end Go.Proofs.YtgpohemcfgepeaaGreat

namespace Go.Proofs.YtgpohemcfgepeaaGreat
open Go.RowKit Go.MapKept
structure StD.good (T : StD) : Prop where
  pool : PoolG T.pool T.dev.n
  base : PoolG T.base T.dev.n
theorem StD.good.ok {T : StD} (h : T.good) (hn : T.dev.n ≤ 4096) : PoolOk T.pool ∧ PoolOk T.base := by
  have f : ∀ {p : PoolD}, PoolG p T.dev.n → PoolOk p := fun h => by
    have h1 := h.small (by omega)
    have h2 := h.lo
    have h3 := h.hi
    exact ⟨h1.1, by omega, by omega⟩
  exact ⟨f h.pool, f h.base⟩
theorem StD.good.take {T : StD} (h : T.good) : T.take.2.2.good ∧ T.take.2.2.dev = T.dev := by
  unfold StD.take
  split
  · rename_i he
    exact ⟨⟨(h.pool.take he).1, h.base⟩, rfl⟩
  · exact ⟨h, rfl⟩
theorem StD.good.drop {T : StD} (h : T.good) (n : Int) : (T.drop n).2.good ∧ (T.drop n).2.dev = T.dev := by
  unfold StD.drop PoolD.back PoolD.give
  by_cases hf : T.fresh n = true
  · simp only [if_pos hf]
    by_cases hm : T.pool.may n = true
    · simp only [if_pos hm]
      exact ⟨⟨h.pool.back hm, h.base⟩, rfl⟩
    · simp only [if_neg hm]
      exact ⟨h, rfl⟩
  · simp only [if_neg hf]
    by_cases hm : T.pool.may n = true
    · simp only [if_pos hm]
      exact ⟨⟨h.pool.give hm, h.base⟩, rfl⟩
    · simp only [if_neg hm]
      exact ⟨h, rfl⟩
theorem StD.good.abort {T : StD} (h : T.good) : T.abort.good := ⟨h.base, h.base⟩
theorem StD.good.end {T : StD} (h : T.good) (e : Int) : (T.end e).good ∧ (T.end e).dev = T.dev := by
  unfold StD.end
  split
  · exact ⟨h.abort, rfl⟩
  · exact ⟨h, rfl⟩
def StD.place (T : StD) (old : Int) : Int × Int × StD :=
  if T.fresh old = true then (old, 0, T)
  else if T.take.2.1 ≠ 0 ∨ old = 0 then (T.take.1, T.take.2.1, T.take.2.2)
  else if (T.take.2.2.pool.give old).2 ≠ 0 then (0, (T.take.2.2.pool.give old).2, (T.take.2.2.drop T.take.1).2)
  else (T.take.1, 0, { T.take.2.2 with pool := (T.take.2.2.pool.give old).1 })
theorem StD.good.place {T : StD} (h : T.good) (old : Int) : (T.place old).2.2.good ∧ (T.place old).2.2.dev = T.dev := by
  unfold StD.place
  split
  · exact ⟨h, rfl⟩
  · split
    · exact h.take
    · split
      · have h1 := h.take
        have h2 := h1.1.drop T.take.1
        exact ⟨h2.1, h2.2.trans h1.2⟩
      · rename_i hq
        have h1 := h.take
        refine ⟨⟨?_, h1.1.base⟩, h1.2⟩
        unfold PoolD.give at hq ⊢
        by_cases hm : T.take.2.2.pool.may old = true
        · simp only [if_pos hm]
          exact h1.1.pool.give hm
        · simp [if_neg hm] at hq
set_option maxRecDepth 100000 in
set_option maxHeartbeats 2000000 in
theorem place_s {sb b ml mc fm : Nat} {T : StD} (old : Int) (w : World) (h : StoAt w sb b ml mc fm T) (hg : T.good) :
    Calls Tryz.prog 96 #[.pointer (some ⟨sb, 0, none⟩), .int .i64 old] w fun e w' => e = .returned (.tuple #[.int .i64 (T.place old).1, .int .i64 (T.place old).2.1]) ∧ StoR w sb b ml mc fm (T.place old).2.2 w' := by
  have HST := Lib.hid h
  have HG := Lib.hid hg
  have hn4 : T.dev.n ≤ 4096 := h.dev.fine.n4
  obtain ⟨pv, kv, dv, gv, lv, bf, bl, pf, pl, hb, hv⟩ := h.blk
  have c19 := blk_cell hb 19
  simp only [stL, List.getElem?_toArray, List.getElem?_cons_zero, List.getElem?_cons_succ] at c19
  have hlk := fresh_look h.map old
  have HTK := Lib.hid (stake_k w h (hg.ok hn4).1)
  have HT1 := Lib.hid hg.take
  have HN4 := Lib.hid hn4
  clear h hg hb hv hn4
  by_cases hf : T.fresh old = true
  · have HP : Hid (T.place old = (old, 0, T)) := Lib.hid (by unfold StD.place; rw [if_pos hf])
    rw [if_pos hf] at hlk
    clear hf
    go_enter Tryz.func96, Tryz.ntmps96
    go_wp2_with fail
    go_ret2
    exact ⟨by rw [HP.out]; rfl, by rw [HP.out]; exact StoR.refl HST.out⟩
  · rw [if_neg hf] at hlk
    have HP0 : Hid (T.place old = if T.take.2.1 ≠ 0 ∨ old = 0 then (T.take.1, T.take.2.1, T.take.2.2)
      else if (T.take.2.2.pool.give old).2 ≠ 0 then (0, (T.take.2.2.pool.give old).2, (T.take.2.2.drop T.take.1).2)
      else (T.take.1, 0, { T.take.2.2 with pool := (T.take.2.2.pool.give old).1 })) := Lib.hid (by unfold StD.place; rw [if_neg hf])
    obtain ⟨⟨tn, te, T1⟩, hTT⟩ : ∃ x, T.take = x := ⟨_, rfl⟩
    rw [hTT] at HTK HT1 HP0
    dsimp only at HTK HT1 HP0
    clear hf hTT
    go_enter Tryz.func96, Tryz.ntmps96
    go_wp2_with fail
    with_reducible refine HTK.out.mono ?_
    rintro e w1 ⟨rfl, hr1⟩
    obtain ⟨fm1, hs1, hfr1, hm1⟩ := hr1
    have HS1 := Lib.hid hs1
    have HF1 := Lib.hid (And.intro hfr1 hm1)
    clear hs1 hfr1 hm1 HTK c19 hlk
    by_cases h1 : te ≠ 0 ∨ old = 0
    · have HQ : Hid (StoR w sb b ml mc fm T1 w1) := Lib.hid ⟨fm1, HS1.out, HF1.out.1, HF1.out.2⟩
      have HP : Hid (T.place old = (tn, te, T1)) := Lib.hid (by rw [HP0.out, if_pos h1])
      by_cases h2 : te = 0
      · subst h2
        have h3 : old = 0 := by simpa using h1
        subst h3
        clear h1
        go_wp2_with fail
        go_ret2
        exact ⟨by rw [HP.out]; rfl, by rw [HP.out]; exact HQ.out⟩
      · have b2 : (te != 0) = true := by simpa using h2
        clear h1 h2
        go_wp2_with fail
        go_ret2
        exact ⟨by rw [HP.out]; rfl, by rw [HP.out]; exact HQ.out⟩
    · have h2 : te = 0 := by
        by_cases h : te = 0
        · exact h
        · exact absurd (.inl h) h1
      have h3 : ¬ old = 0 := fun h => h1 (.inr h)
      subst h2
      have b3 : (old == 0) = false := by simpa using h3
      have HP1 : Hid (T.place old = if (T1.pool.give old).2 ≠ 0 then (0, (T1.pool.give old).2, (T1.drop tn).2) else (tn, 0, { T1 with pool := (T1.pool.give old).1 })) := Lib.hid (by rw [HP0.out, if_neg h1])
      clear h1 h3
      obtain ⟨pv, kv, dv, gv, lv, bf, bl, pf, pl, hb1, hv1⟩ := HS1.out.blk
      obtain ⟨_, _, _, _, _, _, _, ⟨qa, qc, rfl⟩, ⟨ra, rc, rfl⟩⟩ := hv1.sl
      have c16 := blk_cell hb1 16
      have c17 := blk_cell hb1 17
      have c18 := blk_cell hb1 18
      simp only [stL, List.getElem?_toArray, List.getElem?_cons_zero, List.getElem?_cons_succ] at c16 c17 c18
      have hpa : PoolAt [] w1 (.agg #[.int .i64 T1.pool.high, .slice qa T1.pool.free.length qc, .slice ra T1.pool.limbo.length rc]) T1.pool := ⟨_, _, rfl, hv1.pfree.mono (by simp), hv1.plimbo.mono (by simp)⟩
      have hok := (HT1.out.1.ok (by rw [HT1.out.2]; exact HN4.out)).1
      have HGV := Lib.hid (give_k old w1 hpa hok.1)
      have HB1 := Lib.hid hb1
      obtain ⟨⟨rp, re⟩, hGR⟩ : ∃ r, T1.pool.give old = r := ⟨_, rfl⟩
      rw [hGR] at HGV HP1
      dsimp only at HGV HP1
      clear hb1 hv1 hpa hok hGR
      go_wp2_with fail
      with_reducible refine HGV.out.mono ?_
      intro e w2 h2
      obtain ⟨fa, fc, la, lc, rfl, hi, hf⟩ := giveP.any h2 (Fr.refl [] w1)
      dsimp only at *
      have hfa := Fr.alloc1 w2 (.cells #[.int .i64 rp.high, .slice fa rp.free.length fc, .slice la rp.limbo.length lc] 107)
      have hfc := hf.trans hfa
      by_cases he : re = 0
      · subst he
        obtain ⟨Wc, hWc⟩ : ∃ Wc, w2.alloc (.cells #[.int .i64 rp.high, .slice fa rp.free.length fc, .slice la rp.limbo.length lc] 107) = Wc := ⟨_, rfl⟩
        obtain ⟨W1, hW1⟩ : ∃ W1, ((Wc.setCell ⟨sb, 16, none⟩ (.int .i64 rp.high)).setCell ⟨sb, 17, none⟩ (.slice fa rp.free.length fc)).setCell ⟨sb, 18, none⟩ (.slice la rp.limbo.length lc) = W1 := ⟨_, rfl⟩
        rw [hWc] at hfa hfc
        obtain ⟨hsR, hfR, hkR⟩ := HS1.out.repool hfc (fun S hS => ⟨(hi S hS).1.kept hfa.nil, (hi S hS).2.kept hfa.nil⟩) hW1
        have hQ : StoR w sb b ml mc fm { T1 with pool := rp } W1 := StoR.trans HF1.out.1 HF1.out.2 ⟨fm1, hsR, hfR.mono (by simp), .inl rfl, hkR⟩
        have hbc := hfc.heap HB1.out (by simp)
        have d16 := blk_cell hbc 16
        have d17 := blk_cell hbc 17
        have d18 := blk_cell hbc 18
        have f16 := blk_free hbc 16
        have f17 := blk_free hbc 17
        have f18 := blk_free hbc 18
        simp only [stL, List.getElem?_toArray, List.getElem?_cons_zero, List.getElem?_cons_succ] at d16 d17 d18
        have hgb := blk_new w2 (.cells #[.int .i64 rp.high, .slice fa rp.free.length fc, .slice la rp.limbo.length lc] 107)
        rw [hWc] at hgb
        have g0 := blk_cell hgb 0
        have g1 := blk_cell hgb 1
        have g2 := blk_cell hgb 2
        simp only [List.getElem?_toArray, List.getElem?_cons_zero, List.getElem?_cons_succ] at g0 g1 g2
        rw [← hWc] at hW1 d16 d17 d18 f16 f17 f18 g0 g1 g2
        rw [← hW1] at hQ
        have HQ := Lib.hid hQ
        have HP : Hid (T.place old = (tn, 0, { T1 with pool := rp })) := Lib.hid (by rw [HP1.out, if_neg (by simp)])
        clear h2 hi hf hfa hfc hWc hW1 hsR hfR hQ hbc hgb HGV
        go_wp2_with fail
        go_ret2
        exact ⟨by rw [HP.out]; rfl, by rw [HP.out]; exact HQ.out⟩
      · have HP : Hid (T.place old = (0, re, (T1.drop tn).2)) := Lib.hid (by rw [HP1.out, if_pos he])
        have hsc := HS1.out.kept hfc
        have HDP := Lib.hid (sdrop_k tn _ hsc ((HT1.out.1.ok (by rw [HT1.out.2]; exact HN4.out)).1))
        have HFC := Lib.hid hfc
        have be : (re != 0) = true := by simpa using he
        clear h2 hi hf hfa hfc hsc he HGV
        go_wp2_with fail
        with_reducible refine HDP.out.mono ?_
        rintro e w3 ⟨rfl, hr3⟩
        have HQ : Hid (StoR w sb b ml mc fm (T1.drop tn).2 w3) := Lib.hid (StoR.trans HF1.out.1 HF1.out.2 (StoR.trans (HFC.out.nil) (MR.of HFC.out HS1.out.lt.1) hr3))
        clear hr3 HDP
        go_wp2_with fail
        go_ret2
        exact ⟨by rw [HP.out]; rfl, by rw [HP.out]; exact HQ.out⟩
end Go.Proofs.YtgpohemcfgepeaaGreat

namespace Go.Proofs.YtgpohemcfgepeaaGreat
open Go.RowKit Go.MapKept
theorem StD.good.write {T : StD} (h : T.good) (n : Int) (p : PageD) : (T.write n p).2.good := by
  have e : (T.write n p).2.pool = T.pool ∧ (T.write n p).2.base = T.base ∧ (T.write n p).2.dev.n = T.dev.n := by
    unfold StD.write
    split
    · refine ⟨rfl, rfl, ?_⟩
      show (writeD T.dev n (p.encL n)).n = _
      unfold writeD
      split
      · split
        · exact actD_n _
        · exact actD_n _
      · rfl
    · exact ⟨rfl, rfl, rfl⟩
  refine ⟨?_, ?_⟩
  · rw [e.1, e.2.2]; exact h.pool
  · rw [e.2.1, e.2.2]; exact h.base
def StD.lay (T : StD) (old : Int) (p : PageD) : Int × Int × StD :=
  if p.check = false ∨ p.kind = 4 then (0, 50, T)
  else if (T.place old).2.1 ≠ 0 then (0, (T.place old).2.1, (T.place old).2.2.end (T.place old).2.1)
  else if ((T.place old).2.2.write (T.place old).1 p).1 ≠ 0 then (0, ((T.place old).2.2.write (T.place old).1 p).1, ((T.place old).2.2.write (T.place old).1 p).2.end ((T.place old).2.2.write (T.place old).1 p).1)
  else ((T.place old).1, 0, ((T.place old).2.2.write (T.place old).1 p).2)
theorem StD.good.lay {T : StD} (h : T.good) (old : Int) (p : PageD) : (T.lay old p).2.2.good := by
  unfold StD.lay
  split
  · exact h
  · split
    · exact ((h.place old).1.end _).1
    · split
      · exact (((h.place old).1.write _ _).end _).1
      · exact (h.place old).1.write _ _
set_option maxRecDepth 100000 in
set_option maxHeartbeats 2000000 in
theorem lay_s {sb b ml mc fm : Nat} {T : StD} {v : Value} {p : PageD} (old : Int) (w : World) (h : StoAt w sb b ml mc fm T) (hg : T.good) (hp : PageAt [sb, fm, b, ml, mc] w v p) (hs : p.small) (he0 : 0 ≤ p.epoch) (he1 : p.epoch < 18446744073709551616) :
    Calls Tryz.prog 54 #[.pointer (some ⟨sb, 0, none⟩), .int .i64 old, v] w fun e w' => e = .returned (.tuple #[.int .i64 (T.lay old p).1, .int .i64 (T.lay old p).2.1]) ∧ StoR w sb b ml mc fm (T.lay old p).2.2 w' := by
  obtain ⟨pv, kv, dv, gv, rfl, hpi⟩ := hp
  obtain ⟨pa, pc, rfl, _⟩ := Slc.form hpi.pairs
  obtain ⟨ka, kc, rfl, _⟩ := Slc.form hpi.keys
  obtain ⟨da, dc, rfl, _⟩ := Slc.form hpi.kids
  obtain ⟨ga, gc, rfl, _⟩ := Slc.form hpi.pages
  obtain ⟨W1, hW1⟩ : ∃ W1, w.alloc (.cells (pageCells p (.slice pa p.pairs.length pc) (.slice ka p.keys.length kc) (.slice da p.kids.length dc) (.slice ga p.pages.length gc)).toArray 90) = W1 := ⟨_, rfl⟩
  have hal : Fr [] w W1 := by rw [← hW1]; exact Fr.alloc1 w _
  have hbk : W1.heap[w.heap.size]? = some (.cells (pageCells p (.slice pa p.pairs.length pc) (.slice ka p.keys.length kc) (.slice da p.kids.length dc) (.slice ga p.pages.length gc)).toArray 90 (0, 0)) := by rw [← hW1]; exact blk_new w _
  have hlt0 := h.lt
  have hpv : PageAt [sb, fm, b, ml, mc] W1 (.agg (pageCells p (.slice pa p.pairs.length pc) (.slice ka p.keys.length kc) (.slice da p.kids.length dc) (.slice ga p.pages.length gc)).toArray) p := ⟨_, _, _, _, rfl, hpi.kept hal.nil⟩
  have HPV := Lib.hid hpv
  obtain ⟨ck, hck⟩ : ∃ ck, p.check = ck := ⟨_, rfl⟩
  have HCK := Lib.hid (pageCheck_k W1 hpv hs hck)
  have HST := Lib.hid (h.kept hal)
  have HSB := Lib.hid h.lt.1
  have HG := Lib.hid hg
  have HAL := Lib.hid hal
  have HPL := Lib.hid (place_s old W1 (h.kept hal) hg)
  have HGP := Lib.hid (hg.place old)
  have HBK := Lib.hid hbk
  have HNE : Hid (w.heap.size ∉ [sb, fm, b, ml, mc]) := Lib.hid (by simp; omega)
  have HS := Lib.hid (And.intro hs (And.intro he0 he1))
  have HLY : Hid (T.lay old p = if ck = false ∨ p.kind = 4 then (0, 50, T)
      else if (T.place old).2.1 ≠ 0 then (0, (T.place old).2.1, (T.place old).2.2.end (T.place old).2.1)
      else if ((T.place old).2.2.write (T.place old).1 p).1 ≠ 0 then (0, ((T.place old).2.2.write (T.place old).1 p).1, ((T.place old).2.2.write (T.place old).1 p).2.end ((T.place old).2.2.write (T.place old).1 p).1)
      else ((T.place old).1, 0, ((T.place old).2.2.write (T.place old).1 p).2)) := Lib.hid (by unfold StD.lay; rw [hck])
  unfold pageCells at HPV HCK HBK hbk hW1 ⊢
  clear h hg hpi hs he0 he1 hal hpv hck hlt0
  have q0 := blk_cell hbk 0
  have q1 := blk_cell hbk 1
  have q2 := blk_cell hbk 2
  have q3 := blk_cell hbk 3
  have q4 := blk_cell hbk 4
  have q5 := blk_cell hbk 5
  have q6 := blk_cell hbk 6
  have q7 := blk_cell hbk 7
  have q8 := blk_cell hbk 8
  have q9 := blk_cell hbk 9
  have q10 := blk_cell hbk 10
  simp only [List.getElem?_toArray, List.getElem?_cons_zero, List.getElem?_cons_succ] at q0 q1 q2 q3 q4 q5 q6 q7 q8 q9 q10
  have hmf : ∀ (fn : Fn) (first cap : Array Value) (w : World), (Instr.makeFunc fn first cap).run Tryz.prog w = .ok (.func fn first cap) w := fun _ _ _ _ => rfl
  clear hbk
  go_enter Tryz.func54, Tryz.ntmps54
  go_wp2_with fail
  with_reducible refine HCK.out.mono ?_
  rintro e w2 ⟨rfl, hf2⟩
  clear HCK q0 q1 q2 q3 q4 q5 q6 q7 q8 q9 q10 hW1
  cases ck
  · have HQ : Hid (StoR w sb b ml mc fm T w2) := Lib.hid (StoR.trans HAL.out.nil (MR.of HAL.out HSB.out) (StoR.ofFr HST.out hf2))
    have HP : Hid (T.lay old p = (0, 50, T)) := Lib.hid (by rw [HLY.out, if_pos (.inl rfl)])
    unfold errB
    clear hf2
    go_wp2_with fail
    go_ret2
    exact ⟨by rw [HP.out]; rfl, by rw [HP.out]; exact HQ.out⟩
  · have hb2 := hf2.heap HBK.out (by simp)
    have k0 := blk_cell hb2 0
    simp only [List.getElem?_toArray, List.getElem?_cons_zero] at k0
    have HB2 := Lib.hid hb2
    have HF2 := Lib.hid hf2
    unfold errB
    by_cases h4 : p.kind = 4
    · have HQ : Hid (StoR w sb b ml mc fm T w2) := Lib.hid (StoR.trans HAL.out.nil (MR.of HAL.out HSB.out) (StoR.ofFr HST.out hf2))
      have HP : Hid (T.lay old p = (0, 50, T)) := Lib.hid (by rw [HLY.out, if_pos (.inr h4)])
      have b4 : (p.kind == 4) = true := by simpa using h4
      clear hf2 hb2 h4
      go_wp2_with fail
      go_ret2
      exact ⟨by rw [HP.out]; rfl, by rw [HP.out]; exact HQ.out⟩
    · have b4 : (p.kind == 4) = false := by simpa using h4
      have HLY1 : Hid (T.lay old p = if (T.place old).2.1 ≠ 0 then (0, (T.place old).2.1, (T.place old).2.2.end (T.place old).2.1)
          else if ((T.place old).2.2.write (T.place old).1 p).1 ≠ 0 then (0, ((T.place old).2.2.write (T.place old).1 p).1, ((T.place old).2.2.write (T.place old).1 p).2.end ((T.place old).2.2.write (T.place old).1 p).1)
          else ((T.place old).1, 0, ((T.place old).2.2.write (T.place old).1 p).2)) := Lib.hid (by rw [HLY.out, if_neg (by rintro (h | h); cases h; exact h4 h)])
      have HPL2 := Lib.hid (place_s old w2 (HST.out.kept hf2) HG.out)
      obtain ⟨⟨n1, e1, T1⟩, hPP⟩ : ∃ x, T.place old = x := ⟨_, rfl⟩
      rw [hPP] at HPL2 HLY1 HGP
      dsimp only at HPL2 HLY1 HGP
      clear hf2 hb2 h4 hPP HPL
      go_wp2_with fail
      with_reducible refine HPL2.out.mono ?_
      rintro e w3 ⟨rfl, fm1, hs3, hf3, hm3⟩
      have HS3 := Lib.hid hs3
      have HF3 : Hid (Fr [sb, fm, b, ml, mc] w w3 ∧ (fm1 = fm ∨ w.heap.size ≤ fm1) ∧ ApK w sb w3) := Lib.hid ⟨(HAL.out.nil.trans HF2.out.nil).trans hf3, hm3.1.imp id (fun h => by have h1 := HAL.out.size; have h2 := HF2.out.size; omega), (ApK.ofFr (HAL.out.trans HF2.out) HSB.out (by simp)).trans hm3.2 (HAL.out.trans HF2.out).size⟩
      have hb3 := hf3.heap HB2.out HNE.out
      have HPV3 : Hid (PageAt [sb, fm, b, ml, mc] w3 _ p) := Lib.hid ((HPV.out.kept HF2.out.nil).kept hf3)
      clear HPL2 k0 hs3
      by_cases h1 : e1 = 0
      · subst h1
        have k0 := blk_cell hb3 0
        have k1 := blk_cell hb3 1
        have k2 := blk_cell hb3 2
        have k3 := blk_cell hb3 3
        have k4 := blk_cell hb3 4
        have k5 := blk_cell hb3 5
        have k6 := blk_cell hb3 6
        have k7 := blk_cell hb3 7
        have k8 := blk_cell hb3 8
        have k9 := blk_cell hb3 9
        have k10 := blk_cell hb3 10
        simp only [List.getElem?_toArray, List.getElem?_cons_zero, List.getElem?_cons_succ] at k0 k1 k2 k3 k4 k5 k6 k7 k8 k9 k10
        have HWR := Lib.hid (swrite_k n1 w3 HS3.out HPV3.out HS.out.1 HS.out.2.1 HS.out.2.2)
        have HGW := Lib.hid (HGP.out.1.write n1 p)
        have HLY2 : Hid (T.lay old p = if (T1.write n1 p).1 ≠ 0 then (0, (T1.write n1 p).1, (T1.write n1 p).2.end (T1.write n1 p).1) else (n1, 0, (T1.write n1 p).2)) := Lib.hid (by rw [HLY1.out, if_neg (by simp)])
        obtain ⟨⟨e2, T2⟩, hWW⟩ : ∃ x, T1.write n1 p = x := ⟨_, rfl⟩
        rw [hWW] at HWR HLY2 HGW
        dsimp only at HWR HLY2 HGW
        clear hf3 hb3 hm3 hWW
        go_wp2_with fail
        with_reducible refine HWR.out.mono ?_
        rintro e w4 ⟨rfl, fm2, hs4, hf4, hm4⟩
        have HR4 : Hid (Fr [sb, fm, b, ml, mc] w w4 ∧ (fm2 = fm ∨ w.heap.size ≤ fm2) ∧ ApK w sb w4) := Lib.hid (StoR.add HF3.out.1 HF3.out.2 hf4 hm4)
        have HS4 := Lib.hid hs4
        clear hs4 hf4 hm4 HWR k0 k1 k2 k3 k4 k5 k6 k7 k8 k9 k10
        by_cases h2 : e2 = 0
        · subst h2
          have HP : Hid (T.lay old p = (n1, 0, T2)) := Lib.hid (by rw [HLY2.out, if_neg (by simp)])
          go_wp2_with fail
          go_ret2
          exact ⟨by rw [HP.out]; rfl, by rw [HP.out]; exact ⟨fm2, HS4.out, HR4.out⟩⟩
        · have HP : Hid (T.lay old p = (0, e2, T2.end e2)) := Lib.hid (by rw [HLY2.out, if_pos h2])
          have HEN := Lib.hid (end_k e2 w4 HS4.out)
          have b2 : (e2 != 0) = true := by simpa using h2
          clear h2
          go_wp2_with fail
          with_reducible refine HEN.out.mono ?_
          rintro e w5 ⟨rfl, hr5⟩
          have HR5 := Lib.hid (StoR.trans HR4.out.1 HR4.out.2 hr5)
          clear hr5 HEN
          go_wp2_with fail
          go_ret2
          exact ⟨by rw [HP.out]; rfl, by rw [HP.out]; exact HR5.out⟩
      · have HP : Hid (T.lay old p = (0, e1, T1.end e1)) := Lib.hid (by rw [HLY1.out, if_pos h1])
        have HEN := Lib.hid (end_k e1 w3 HS3.out)
        have b2 : (e1 != 0) = true := by simpa using h1
        have b3 : (e1 == 0) = false := by simpa using h1
        clear h1 hf3 hb3 hm3
        go_wp2_with fail
        with_reducible refine HEN.out.mono ?_
        rintro e w5 ⟨rfl, hr5⟩
        have HR5 := Lib.hid (StoR.trans HF3.out.1 HF3.out.2 hr5)
        clear hr5 HEN
        go_wp2_with fail
        go_ret2
        exact ⟨by rw [HP.out]; rfl, by rw [HP.out]; exact HR5.out⟩
end Go.Proofs.YtgpohemcfgepeaaGreat
