/- a part. -/
import Derived.Test.YtgpohemcfgepeaaGreatGA
import Derived.Test.YtgpohemcfgepeaaGreatG2
import Derived.WalkMore
namespace Go.Proofs.YtgpohemcfgepeaaGreat
open Go.RowKit Go.MapKept
def superPg (ep root depth count high next : Int) : PageD := ⟨4, [], [], [], [], next, ep, root, depth, count, high⟩
theorem superPg_small (ep root depth count high next : Int) : (superPg ep root depth count high next).small := by
  refine ⟨?_, ?_, ?_, ?_⟩ <;> simp [superPg]
def StD.drops (T : StD) (l : List Int) : StD := l.foldl (fun T n => (T.drop n).2) T
theorem drops_snoc (T : StD) (l : List Int) (x : Int) : T.drops (l ++ [x]) = ((T.drops l).drop x).2 := by unfold StD.drops; rw [List.foldl_append]; rfl
theorem StD.good.drops {T : StD} (h : T.good) (l : List Int) : (T.drops l).good ∧ (T.drops l).dev = T.dev := by
  unfold StD.drops
  induction l generalizing T with
  | nil => exact ⟨h, rfl⟩
  | cons x l ih =>
    have h1 := h.drop x
    have h2 := ih h1.1
    exact ⟨h2.1, h2.2.trans h1.2⟩
def StD.sealUp (T : StD) (ep root depth count : Int) (ps : List Int) : Int × StD :=
  let W := T.write (ep % 2) (superPg ep root depth count T.pool.high (ps.headD 0))
  if W.1 ≠ 0 then (W.1, W.2.end W.1)
  else if syncE W.2.dev ≠ 0 then (syncE W.2.dev, ({ W.2 with dev := syncD W.2.dev } : StD).end (syncE W.2.dev))
  else (0, ({ W.2 with dev := syncD W.2.dev, super := superPg ep root depth count T.pool.high (ps.headD 0), lists := ps, base := W.2.pool.turn } : StD).abort)
def StD.commit (T : StD) (root depth count : Int) : Int × StD :=
  if (superPg (T.super.epoch + 1) root depth count T.pool.high 0).check = false then (50, T)
  else
    let L := (T.drops T.lists).listed
    if L.2.1 ≠ 0 then (L.2.1, L.2.2.end L.2.1) else L.2.2.sealUp (T.super.epoch + 1) root depth count L.1
theorem syncD_n (D : Dv) : (syncD D).n = D.n := by
  unfold syncD
  split
  · rfl
  · split
    · exact actD_n D
    · exact actD_n D
theorem listed_good {T : StD} (h : T.good) : T.listed.2.2.good := by
  unfold StD.listed
  have h1 := takes_good (T.pool.listsP.length + 1) [] T h
  split
  · exact h1.1
  · have h2 := puts_good (StD.takes (T.pool.listsP.length + 1) [] T).1 (StD.takes (T.pool.listsP.length + 1) [] T).2.2.pool.listsP (StD.takes (T.pool.listsP.length + 1) [] T).1.length 0 _ h1.1
    dsimp only
    split
    · exact h2
    · exact ⟨by have := h2.pool; show PoolG _ (syncD _).n; rw [syncD_n]; exact this, by have := h2.base; show PoolG _ (syncD _).n; rw [syncD_n]; exact this⟩
theorem ints_next {w1 w2 : World} {sb b ml mc fm1 fm2 : Nat} {vl : Value} {ls : List Int} (h4 : Ints [sb, fm1, b, ml, mc] w1 vl ls) (h7 : Fr [sb, fm1, b, ml, mc] w1 w2) (h8 : fm2 = fm1 ∨ w1.heap.size ≤ fm2) : Ints [sb, fm2, b, ml, mc] w2 vl ls := by
  have e1 : Ints ([sb, fm1, b, ml, mc] ++ [sb, fm2, b, ml, mc]) w1 vl ls := Slc.more h4 (fun x hx => by
    rcases List.mem_append.1 hx with h | h
    · exact .inl h
    · simp only [List.mem_cons, List.not_mem_nil, or_false] at h ⊢
      rcases h8 with h8 | h8
      · subst h8; simp [h]
      · rcases h with h | h | h | h | h
        · simp [h]
        · exact .inr (by omega)
        · simp [h]
        · simp [h]
        · simp [h])
  exact (e1.kept (h7.mono (fun x hx _ => List.mem_append.2 (.inl hx)))).mono (fun x hx => List.mem_append.2 (.inr hx))
def DpAt (W1 wr : World) (sb b ml mc fm : Nat) (T : StD) (vl : Value) (ls : List Int) : Prop :=
  ∃ fm', StoAt wr sb b ml mc fm' T ∧ Fr [sb, fm, b, ml, mc] W1 wr ∧ ((fm' = fm ∨ W1.heap.size ≤ fm') ∧ ApK W1 sb wr) ∧ Ints [sb, fm', b, ml, mc] wr vl ls
theorem DpAt.next {W1 wr w' : World} {sb b ml mc fm fm1 : Nat} {T' : StD} {vl : Value} {ls : List Int} (h2 : Fr [sb, fm, b, ml, mc] W1 wr) (h3 : (fm1 = fm ∨ W1.heap.size ≤ fm1) ∧ ApK W1 sb wr) (h4 : Ints [sb, fm1, b, ml, mc] wr vl ls) (hr : StoR wr sb b ml mc fm1 T' w') :
    DpAt W1 w' sb b ml mc fm T' vl ls := by
  obtain ⟨fm2, h6, h7, h8'⟩ := hr
  have h8 := h8'.1
  have hg := StoR.add h2 h3 h7 h8'
  have hs2 := h2.size
  refine ⟨fm2, h6, hg.1, hg.2, ?_⟩
  have e1 : Ints ([sb, fm1, b, ml, mc] ++ [sb, fm2, b, ml, mc]) wr vl ls := Slc.more h4 (fun x hx => by
    rcases List.mem_append.1 hx with h | h
    · exact .inl h
    · simp only [List.mem_cons, List.not_mem_nil, or_false] at h ⊢
      rcases h8 with h8 | h8
      · subst h8; simp [h]
      · rcases h with h | h | h | h | h
        · simp [h]
        · exact .inr (by omega)
        · simp [h]
        · simp [h]
        · simp [h])
  exact (e1.kept (h7.mono (fun x hx _ => List.mem_append.2 (.inl hx)))).mono (fun x hx => List.mem_append.2 (.inr hx))
set_option maxRecDepth 100000 in
set_option maxHeartbeats 8000000 in
theorem commit_k {sb b ml mc fm : Nat} {T : StD} (root depth count : Int) (w : World) (h : StoAt w sb b ml mc fm T) (hg : T.good) (he0 : 0 ≤ T.super.epoch) (he1 : T.super.epoch < 4611686018427387904) (hll : T.lists.length ≤ 1000000) :
    Calls Tryz.prog 62 #[.pointer (some ⟨sb, 0, none⟩), .int .i64 root, .int .i64 depth, .int .i64 count] w fun e w' => e = .returned (.int .i64 (T.commit root depth count).1) ∧ StoR w sb b ml mc fm (T.commit root depth count).2 w' := by
  have HST := Lib.hid h
  have HG := Lib.hid hg
  have HLT := Lib.hid h.lt
  have hllI : (T.lists.length : Int) ≤ 1000000 := by omega
  obtain ⟨qv, q2, q3, q4, lv, bf, bl, pf, pl, hb, hv⟩ := h.blk
  have HB := Lib.hid hb
  have c7 := blk_cell hb 7
  have c16 := blk_cell hb 16
  simp only [stL, List.getElem?_toArray, List.getElem?_cons_zero, List.getElem?_cons_succ] at c7 c16
  obtain ⟨ep, hep⟩ : ∃ ep, T.super.epoch = ep := ⟨_, rfl⟩
  rw [hep] at c7 he0 he1
  have HEP := Lib.hid hep
  obtain ⟨hi, hhi⟩ : ∃ hi, T.pool.high = hi := ⟨_, rfl⟩
  rw [hhi] at c16
  have HHI := Lib.hid hhi
  have HE := Lib.hid (And.intro he0 he1)
  have hC := And.intro c7 c16
  have HC := Lib.hid (And.intro (((Fr.refl [] w).drew.cell (a := ⟨sb, 7, none⟩) h.lt.1 (by simp)).trans c7) (((Fr.refl [] w).drew.cell (a := ⟨sb, 16, none⟩) h.lt.1 (by simp)).trans c16))
  have HCA : Hid (∀ o, (w.alloc o).cell? ⟨sb, 7, none⟩ = some (.int .u64 ep) ∧ (w.alloc o).cell? ⟨sb, 16, none⟩ = some (.int .i64 hi)) := Lib.hid fun o => ⟨(Fr.alloc1 w o).cellSome c7 (by simp), (Fr.alloc1 w o).cellSome c16 (by simp)⟩
  have HCB : Hid (∀ o, (w.alloc o).drew.cell? ⟨sb, 7, none⟩ = some (.int .u64 ep) ∧ (w.alloc o).drew.cell? ⟨sb, 16, none⟩ = some (.int .i64 hi)) := Lib.hid fun o => ⟨(Fr.alloc1 w o).drew.cellSome c7 (by simp), (Fr.alloc1 w o).drew.cellSome c16 (by simp)⟩
  have hwr : IntKind.u64.wrap (ep + 1) = ep + 1 := by
    simp only [IntKind.wrap, IntKind.bits, IntKind.signed, Bool.false_and, Bool.false_eq_true, if_false]
    omega
  have HW := Lib.hid hwr
  have hmf : ∀ (fn : Fn) (first cap : Array Value) (w : World), (Instr.makeFunc fn first cap).run Tryz.prog w = .ok (.func fn first cap) w := fun _ _ _ _ => rfl
  clear h hg hb hv hep hhi
  go_enter Tryz.func62, Tryz.ntmps62
  go_upto_region 3 with fail
  go_cut [9] from 15 to 31 (fun x wr => ∃ g, x = .pointer (some ⟨g, 0, none⟩) ∧ w.heap.size ≤ g ∧ wr.heap[g]? = some (.cells #[.int .i64 4, nilV, nilV, nilV, nilV, .int .i64 0, .int .u64 (ep + 1), .int .i64 root, .int .i64 depth, .int .i64 count, .int .i64 hi] 90 (0, 0)) ∧ Fr [] w wr)
  case first =>
    go_region_held3 (fun w' => w'.cell? ⟨sb, 7, none⟩ = some (.int .u64 ep) ∧ w'.cell? ⟨sb, 16, none⟩ = some (.int .i64 hi)) (first | exact hC | exact HC.out | exact HCA.out _ | exact HCB.out _ | go_keep) (fail)
    all_goals
      go_wp2_with fail
      go_meet
      first
        | exact ⟨_, rfl, Nat.le_refl _, by exact (Fr.refl [] _).drew.heap (blk_new w _) (by simp), (Fr.alloc1 w _).drew⟩
        | exact ⟨_, rfl, Nat.le_refl _, by exact blk_new w.drew _, (Fr.refl [] w).drew.trans (Fr.alloc1 w.drew _)⟩
  case rest =>
    obtain ⟨g, rfl, hg0, hbg, hfg⟩ := hcut
    have HBG := Lib.hid hbg
    have HFG := Lib.hid (And.intro hg0 hfg)
    have hlt := HLT.out
    have HCK : Hid (∀ b, (superPg (ep + 1) root depth count hi 0).check = b → Calls Tryz.prog 94 #[.agg (pageCells (superPg (ep + 1) root depth count hi 0) nilV nilV nilV nilV).toArray] wc fun e w' => e = .returned (.int .i64 (errB b)) ∧ Fr [] wc w') := Lib.hid fun b hb =>
      pageCheck_k (S := []) wc ⟨_, _, _, _, rfl, Slc.nil _ _, Slc.nil _ _, Slc.nil _ _, Slc.nil _ _⟩ (superPg_small _ _ _ _ _ _) hb
    have HCM : Hid (T.commit root depth count = if (superPg (ep + 1) root depth count hi 0).check = false then (50, T) else if (T.drops T.lists).listed.2.1 ≠ 0 then ((T.drops T.lists).listed.2.1, (T.drops T.lists).listed.2.2.end (T.drops T.lists).listed.2.1) else (T.drops T.lists).listed.2.2.sealUp (ep + 1) root depth count (T.drops T.lists).listed.1) := Lib.hid (by
      unfold StD.commit; rw [HEP.out, HHI.out])
    obtain ⟨ck, hck⟩ : ∃ ck, (superPg (ep + 1) root depth count hi 0).check = ck := ⟨_, rfl⟩
    have HCC := Lib.hid (HCK.out ck hck)
    rw [hck] at HCM
    have z0 := blk_cell hbg 0
    have z1 := blk_cell hbg 1
    have z2 := blk_cell hbg 2
    have z3 := blk_cell hbg 3
    have z4 := blk_cell hbg 4
    have z5 := blk_cell hbg 5
    have z6 := blk_cell hbg 6
    have z7 := blk_cell hbg 7
    have z8 := blk_cell hbg 8
    have z9 := blk_cell hbg 9
    have z10 := blk_cell hbg 10
    simp only [List.getElem?_toArray, List.getElem?_cons_zero, List.getElem?_cons_succ] at z0 z1 z2 z3 z4 z5 z6 z7 z8 z9 z10
    unfold superPg pageCells at HCC
    dsimp only at HCC
    clear hg0 hbg hfg hlt HCK hck
    go_wp2_with fail
    with_reducible refine HCC.out.mono ?_
    rintro e w2 ⟨rfl, hf2⟩
    have HST2 := Lib.hid ((HST.out.kept HFG.out.2).kept hf2)
    have HF2 := Lib.hid (HFG.out.2.trans hf2)
    have HB2 := Lib.hid (hf2.heap HBG.out (by simp))
    have HGL : Hid (g < w2.heap.size) := Lib.hid (lt_of_heap HB2.out)
    have HAPG : Hid (StoAp w2 sb [g]) := Lib.hid (fun i B o n c hc h0 hm => by
      have h1 : w.cell? ⟨sb, i, none⟩ = some (.slice (some ⟨B, o, none⟩) n c) := (HF2.out.cell (a := ⟨sb, i, none⟩) HLT.out.1 (by simp)).symm.trans hc
      have h2 := HST.out.slcLt i B o n c h1 h0
      have h3 := HFG.out.1
      have h4 : B = g := by simpa using hm
      omega)
    clear hf2 HCC z0 z1 z2 z3 z4 z5 z6 z7 z8 z9 z10
    cases ck
    · have HP : Hid (T.commit root depth count = (50, T)) := Lib.hid (by rw [HCM.out, if_pos rfl])
      unfold errB
      go_wp2_with fail
      go_ret
      exact ⟨by rw [HP.out]; rfl, by rw [HP.out]; exact StoR.ofFr HST.out HF2.out⟩
    · unfold errB
      obtain ⟨pv', kv', dv', gv', lv', bf', bl', pf', pl', hb2, hv2⟩ := HST2.out.blk
      obtain ⟨_, _, _, _, ⟨la, lc, rfl⟩, _, _, _, _⟩ := hv2.sl
      have c12 := blk_cell hb2 12
      simp only [stL, List.getElem?_toArray, List.getElem?_cons_zero, List.getElem?_cons_succ] at c12
      have H0 : Hid (DpAt w2 w2 sb b ml mc fm (T.drops (T.lists.take 0)) (.slice la T.lists.length lc) T.lists) := Lib.hid ⟨fm, HST2.out, Fr.refl _ _, ⟨.inl rfl, ApK.refl _ _⟩, hv2.lists⟩
      clear hb2 hv2
      go_wp2_with fail
      go_loopw [42] (fun i wr => ∃ k : Nat, k ≤ T.lists.length ∧ i = .int .i64 k ∧ DpAt w2 wr sb b ml mc fm (T.drops (T.lists.take k)) (.slice la T.lists.length lc) T.lists) (fun i _ => T.lists.length - (intOf i).toNat)
      case atStart => exact ⟨0, Nat.zero_le _, rfl, H0.out⟩
      case round =>
        obtain ⟨k, hk, rfl, fm1, hst, hfr, hfm, hil⟩ := hrel
        by_cases hlt2 : k < T.lists.length
        · have hkI : (k : Int) < (T.lists.length : Int) := by omega
          obtain ⟨B, off, rfl⟩ : ∃ B off, la = some ⟨B, off, none⟩ := by
            rcases hil with ⟨_, _, _, h0, _⟩ | ⟨B, off, cap, h, _⟩
            · omega
            · cases h; exact ⟨B, off, rfl⟩
          have cx := hil.at hlt2
          have HL2 := Lib.hid hlt2
          have hgd := (HG.out.drops (T.lists.take k)).1
          have hsn : T.drops (T.lists.take (k + 1)) = ((T.drops (T.lists.take k)).drop T.lists[k]).2 := by rw [List.take_succ_eq_append_getElem hlt2, drops_snoc]; rfl
          have HDR := Lib.hid (sdrop_k T.lists[k] wr hst (hgd.ok hst.dev.fine.n4).1)
          have HSN := Lib.hid hsn
          have HQ := Lib.hid (And.intro hfr (And.intro hfm hil))
          clear hst hfr hfm hil hgd hsn
          generalize T.lists[k] = x at *
          go_wp2_with fail
          with_reducible refine HDR.out.mono ?_
          rintro e w3 ⟨rfl, hr3⟩
          have HN : Hid (DpAt w2 w3 sb b ml mc fm (T.drops (T.lists.take (k + 1))) (.slice (some ⟨B, off, none⟩) T.lists.length lc) T.lists) := Lib.hid (by rw [HSN.out]; exact DpAt.next HQ.out.1 HQ.out.2.1 HQ.out.2.2 hr3)
          clear hr3 HDR
          go_wp2_with fail
          go_roundw
          case rel => exact ⟨k + 1, HL2.out, by go_num, HN.out⟩
          case measure => have := HL2.out; simp [intOf]; omega
        · have hkI : ¬ (k : Int) < (T.lists.length : Int) := by omega
          rw [List.take_of_length_le (by omega)] at hst
          have hgd := (HG.out.drops T.lists).1
          have HLI := Lib.hid (listed_k (List.range wr.heap.size) wr hst hgd (fun x hx => List.mem_range.1 hx))
          have HGL2 := Lib.hid (listed_good hgd)
          have HQ : Hid (Fr [sb, fm, b, ml, mc] w wr ∧ ((fm1 = fm ∨ w.heap.size ≤ fm1) ∧ ApK w sb wr) ∧ g ∉ [sb, fm1, b, ml, mc] ∧ ApK w2 sb wr ∧ wr.heap[g]? = some (.cells #[.int .i64 4, nilV, nilV, nilV, nilV, .int .i64 0, .int .u64 (ep + 1), .int .i64 root, .int .i64 depth, .int .i64 count, .int .i64 hi] 90 (0, 0)) ∧ g < wr.heap.size) := Lib.hid (by
            have h1 := HF2.out.size
            have h2 := HFG.out.1
            have h3 := HLT.out
            have h4 := HGL.out
            have h5 := hfr.size
            refine ⟨HF2.out.nil.trans hfr, ⟨hfm.1.imp id (fun h => by omega), (ApK.ofFr HF2.out HLT.out.1 (by simp)).trans hfm.2 HF2.out.size⟩, ?_, hfm.2, hfr.heap HB2.out ?_, by omega⟩
            · simp only [List.mem_cons, List.not_mem_nil, or_false]
              rcases hfm.1 with h | h
              · subst h; omega
              · omega
            · simp only [List.mem_cons, List.not_mem_nil, or_false]
              omega)
          have hfr0 := Lib.hid hfr
          have HCM1 : Hid (T.commit root depth count = if (T.drops T.lists).listed.2.1 ≠ 0 then ((T.drops T.lists).listed.2.1, (T.drops T.lists).listed.2.2.end (T.drops T.lists).listed.2.1) else (T.drops T.lists).listed.2.2.sealUp (ep + 1) root depth count (T.drops T.lists).listed.1) := Lib.hid (by rw [HCM.out, if_neg (by simp)])
          obtain ⟨⟨ps, e1, T1⟩, hTT⟩ : ∃ x, (T.drops T.lists).listed = x := ⟨_, rfl⟩
          rw [hTT] at HLI HGL2 HCM1
          dsimp only at HLI HGL2 HCM1
          clear hst hfr hfm hil hgd hTT HCM H0
          go_wp2_with fail
          with_reducible refine HLI.out.mono ?_
          rintro e w3 ⟨v3, fm2, rfl, hs3, hf3, hm3, hi3⟩
          obtain ⟨pa, pc, rfl, _⟩ := Slc.form hi3
          have HS3 := Lib.hid hs3
          have HR3 : Hid (Fr [sb, fm, b, ml, mc] w w3 ∧ (fm2 = fm ∨ w.heap.size ≤ fm2) ∧ ApK w sb w3) := Lib.hid (StoR.add HQ.out.1 HQ.out.2.1 hf3 hm3)
          have HB3 : Hid (w3.heap[g]? = some (.cells #[.int .i64 4, nilV, nilV, nilV, nilV, .int .i64 0, .int .u64 (ep + 1), .int .i64 root, .int .i64 depth, .int .i64 count, .int .i64 hi] 90 (0, 0)) ∧ g ∉ [sb, fm2, b, ml, mc]) := Lib.hid (by
            refine ⟨hf3.heap HQ.out.2.2.2.2.1 HQ.out.2.2.1, ?_⟩
            have h1 := HQ.out.2.2.1
            have h2 := HQ.out.2.2.2.2.2
            simp only [List.mem_cons, List.not_mem_nil, or_false] at h1 ⊢
            rcases hm3.1 with h | h
            · subst h; exact h1
            · omega)
          have HI3 := Lib.hid hi3
          have HAP3 : Hid (StoAp w3 sb [g]) := Lib.hid ((HQ.out.2.2.2.1.trans hm3.2 hfr0.out.size) [g] (fun x hx => by rw [List.mem_singleton.1 hx]; exact HGL.out) HAPG.out)
          clear hs3 hf3 hm3 HLI
          by_cases h1 : e1 = 0
          · subst h1
            have HCM2 : Hid (T.commit root depth count = T1.sealUp (ep + 1) root depth count ps) := Lib.hid (by rw [HCM1.out, if_neg (by simp)])
            obtain ⟨qv1, q21, q31, q41, lv1, bf1, bl1, pf1, pl1, hb3, hv3⟩ := HS3.out.blk
            have c16 := blk_cell hb3 16
            simp only [stL, List.getElem?_toArray, List.getElem?_cons_zero, List.getElem?_cons_succ] at c16
            have hbg := HB3.out.1
            have z10 := blk_cell hbg 10
            have y10 := blk_free hbg 10
            have z5 := blk_cell hbg 5
            simp only [List.getElem?_toArray, List.getElem?_cons_zero, List.getElem?_cons_succ] at z10 z5
            clear hb3 hv3 HCM1
            obtain ⟨n, hn⟩ : ∃ n, ps.headD 0 = n := ⟨_, rfl⟩
            have HN := Lib.hid hn
            have hbs := blk_set hbg 10 (.int .i64 T1.pool.high)
            have hfs := Fr.setCell w3 ⟨g, 10, none⟩ (.int .i64 T1.pool.high)
            go_upto_if 68 with fail
            go_cut [] from 68 to 72 (fun wr => wr.heap[g]? = some (.cells #[.int .i64 4, nilV, nilV, nilV, nilV, .int .i64 n, .int .u64 (ep + 1), .int .i64 root, .int .i64 depth, .int .i64 count, .int .i64 T1.pool.high] 90 (0, 0)) ∧ Fr [g] w3 wr)
            case first =>
              have e5 := blk_cell hbs 5
              have g5 := blk_free hbs 5
              simp at e5
              by_cases hp0 : 0 < ps.length
              · have hlI : (0 : Int) < (ps.length : Int) := by omega
                obtain ⟨B, off, rfl⟩ : ∃ B off, pa = some ⟨B, off, none⟩ := by
                  rcases hi3 with ⟨_, _, _, h0, _⟩ | ⟨B, off, cap, h, _⟩
                  · omega
                  · cases h; exact ⟨B, off, rfl⟩
                have cx := hi3.at hp0
                have hh : ps[0] = n := by
                  rw [← hn]
                  cases ps with
                  | nil => simp at hp0
                  | cons x r => rfl
                rw [hh, Nat.add_zero] at cx
                have hne : B ∉ [g] := by
                  have h1 := hi3.mono (S' := [g]) (fun x hx => List.mem_append.2 (.inr (List.mem_range.2 (by rw [List.mem_singleton.1 hx]; exact HQ.out.2.2.2.2.2))))
                  exact ints_ap h1 (by omega)
                have cx2 := hfs.cellSome cx hne
                clear hh hn hi3
                go_wp2_with fail
                go_meet
                exact ⟨by rw [blk_set hbs 5]; rfl, hfs.trans (Fr.setCell _ ⟨g, 5, none⟩ _)⟩
              · have hlI : ¬ (0 : Int) < (ps.length : Int) := by omega
                have hn0 : n = 0 := by
                  rw [← hn]
                  cases ps with
                  | nil => rfl
                  | cons x r => simp at hp0
                subst hn0
                clear hn hi3
                go_wp2_with fail
                go_meet
                exact ⟨by rw [hbs]; rfl, hfs⟩
            case rest =>
              obtain ⟨hbc, hfc⟩ := hcut
              have hng : NoByte w3 g := fun i u he => by
                rw [blk_cell HB3.out.1, List.getElem?_toArray] at he
                have hm := List.mem_of_getElem? he
                simp [byteV] at hm
              have hne := HB3.out.2
              simp only [List.mem_cons, List.not_mem_nil, or_false] at hne
              have hsc : StoAt wc sb b ml mc fm2 T1 := HS3.out.aside HAP3.out hfc (HS3.out.dev.apart hfc (fun x hx => by rw [List.mem_singleton.1 hx]; exact hng) (by simp; omega) (by simp; omega) (by simp; omega)) (by simp; omega) (by simp; omega)
              have HSC := Lib.hid hsc
              have HWR := Lib.hid (swrite_k (S := []) (p := superPg (ep + 1) root depth count T1.pool.high n) ((ep + 1) % 2) wc hsc ⟨nilV, nilV, nilV, nilV, rfl, Slc.nil _ _, Slc.nil _ _, Slc.nil _ _, Slc.nil _ _⟩ (superPg_small (ep + 1) root depth count T1.pool.high n) (by have := HE.out.1; show 0 ≤ ep + 1; omega) (by have := HE.out.2; show ep + 1 < _; omega))
              have z0 := blk_cell hbc 0
              have z1 := blk_cell hbc 1
              have z2 := blk_cell hbc 2
              have z3 := blk_cell hbc 3
              have z4 := blk_cell hbc 4
              have z5' := blk_cell hbc 5
              have z6 := blk_cell hbc 6
              have z7 := blk_cell hbc 7
              have z8 := blk_cell hbc 8
              have z9 := blk_cell hbc 9
              have z10' := blk_cell hbc 10
              simp only [List.getElem?_toArray, List.getElem?_cons_zero, List.getElem?_cons_succ] at z0 z1 z2 z3 z4 z5' z6 z7 z8 z9 z10'
              have HFC := Lib.hid hfc
              have HSL : Hid (T.commit root depth count =
                  if (T1.write ((ep + 1) % 2) (superPg (ep + 1) root depth count T1.pool.high n)).1 ≠ 0 then ((T1.write ((ep + 1) % 2) (superPg (ep + 1) root depth count T1.pool.high n)).1, (T1.write ((ep + 1) % 2) (superPg (ep + 1) root depth count T1.pool.high n)).2.end (T1.write ((ep + 1) % 2) (superPg (ep + 1) root depth count T1.pool.high n)).1)
                  else if syncE (T1.write ((ep + 1) % 2) (superPg (ep + 1) root depth count T1.pool.high n)).2.dev ≠ 0 then (syncE (T1.write ((ep + 1) % 2) (superPg (ep + 1) root depth count T1.pool.high n)).2.dev, ({ (T1.write ((ep + 1) % 2) (superPg (ep + 1) root depth count T1.pool.high n)).2 with dev := syncD (T1.write ((ep + 1) % 2) (superPg (ep + 1) root depth count T1.pool.high n)).2.dev } : StD).end (syncE (T1.write ((ep + 1) % 2) (superPg (ep + 1) root depth count T1.pool.high n)).2.dev))
                  else (0, ({ (T1.write ((ep + 1) % 2) (superPg (ep + 1) root depth count T1.pool.high n)).2 with dev := syncD (T1.write ((ep + 1) % 2) (superPg (ep + 1) root depth count T1.pool.high n)).2.dev, super := superPg (ep + 1) root depth count T1.pool.high n, lists := ps, base := (T1.write ((ep + 1) % 2) (superPg (ep + 1) root depth count T1.pool.high n)).2.pool.turn } : StD).abort)) := Lib.hid (by rw [HCM2.out]; unfold StD.sealUp; rw [HN.out])
              have HG1 : Hid (T1.write ((ep + 1) % 2) (superPg (ep + 1) root depth count T1.pool.high n)).2.good := Lib.hid (HGL2.out.write _ _)
              obtain ⟨hx, hhx⟩ : ∃ hx, T1.pool.high = hx := ⟨_, rfl⟩
              rw [hhx] at HSL HG1 HWR
              rw [hhx] at hbc
              have HBC := Lib.hid hbc
              obtain ⟨⟨e2, T2⟩, hTW⟩ : ∃ y, T1.write ((ep + 1) % 2) (superPg (ep + 1) root depth count hx n) = y := ⟨_, rfl⟩
              rw [hTW] at HSL HG1 HWR
              unfold superPg pageCells at HWR
              dsimp only at HWR HSL HG1
              rw [hhx] at z10'
              clear hTW hhx
              clear hbc hfc hng hne hsc hi3 hbs hfs hbg hn
              go_wp2_with fail
              with_reducible refine HWR.out.mono ?_
              rintro e w4 ⟨rfl, fm4, hs4, hf4, hm4⟩
              have HR4 : Hid (Fr [sb, fm, b, ml, mc] w w4 ∧ (fm4 = fm ∨ w.heap.size ≤ fm4) ∧ ApK w sb w4) := Lib.hid (by
                have hgn := HB3.out.2
                have h1 : Fr [sb, fm, b, ml, mc] w wc := HR3.out.1.andThen HFC.out (fun x hx => .inr (by rw [List.mem_singleton.1 hx]; exact HFG.out.1))
                have h2 : ApK w3 sb wc := ApK.ofFr HFC.out HS3.out.lt.1 (by simp only [List.mem_cons, List.not_mem_nil, or_false] at hgn; simp; omega)
                exact StoR.add h1 ⟨HR3.out.2.1, HR3.out.2.2.trans h2 HR3.out.1.size⟩ hf4 hm4)
              have HS4 := Lib.hid hs4
              have HSZW : Hid (w.heap.size ≤ wr.heap.size) := Lib.hid HQ.out.1.size
              have HI4 : Hid (Ints [sb, fm4, b, ml, mc] w4 (.slice pa ps.length pc) ps) := Lib.hid (by
                have hgn := HB3.out.2
                have h1 : Ints [sb, fm2, b, ml, mc] wc (.slice pa ps.length pc) ps := (HI3.out.kept (HFC.out.mono (fun x hx _ => List.mem_append.2 (.inr (List.mem_range.2 (by rw [List.mem_singleton.1 hx]; exact HQ.out.2.2.2.2.2)))))).mono (fun x hx => List.mem_append.2 (.inl hx))
                exact ints_next h1 hf4 hm4.1)
              have HB4 : Hid (w4.heap[g]? = some (.cells #[.int .i64 4, nilV, nilV, nilV, nilV, .int .i64 n, .int .u64 (ep + 1), .int .i64 root, .int .i64 depth, .int .i64 count, .int .i64 hx] 90 (0, 0))) := Lib.hid (hf4.heap HBC.out HB3.out.2)
              clear hs4 hf4 hm4 HWR z0 z1 z2 z3 z4 z5' z6 z7 z8 z9 z10'
              by_cases h2 : e2 = 0
              · subst h2
                obtain ⟨qv5, q25, q35, q45, lv5, bf5, bl5, pf5, pl5, hb4, hv4⟩ := HS4.out.blk
                have c0 := blk_cell hb4 0
                simp only [stL, List.getElem?_toArray, List.getElem?_cons_zero] at c0
                have HSY := Lib.hid (sync_k w4 HS4.out.dev)
                have HSL1 : Hid (T.commit root depth count = if syncE T2.dev ≠ 0 then (syncE T2.dev, ({ T2 with dev := syncD T2.dev } : StD).end (syncE T2.dev)) else (0, ({ T2 with dev := syncD T2.dev, super := superPg (ep + 1) root depth count hx n, lists := ps, base := T2.pool.turn } : StD).abort)) := Lib.hid (by rw [HSL.out, if_neg (by simp)])
                clear hb4 hv4 HSL
                go_wp2_with fail
                with_reducible refine HSY.out.mono ?_
                rintro e w5 ⟨rfl, hd5, hf5⟩
                have HS5 : Hid (StoAt w5 sb b ml mc fm4 { T2 with dev := syncD T2.dev }) := Lib.hid (HS4.out.devIs hf5 hd5)
                have hm5 : ∀ x, x ∈ [b, ml, mc] → x < w4.heap.size → x ∈ [sb, fm4, b, ml, mc] := fun x hx _ => by simp only [List.mem_cons, List.not_mem_nil, or_false] at hx ⊢; rcases hx with h | h | h <;> simp [h]
                have HR5 : Hid (Fr [sb, fm, b, ml, mc] w w5 ∧ (fm4 = fm ∨ w.heap.size ≤ fm4) ∧ ApK w sb w5) := Lib.hid (StoR.add HR4.out.1 HR4.out.2 (hf5.mono hm5) ⟨.inl rfl, ApK.ofFr hf5 HS4.out.lt.1 (by have := HS4.out.apart; simp; omega)⟩)
                have HI5 : Hid (Ints [sb, fm4, b, ml, mc] w5 (.slice pa ps.length pc) ps) := Lib.hid (HI4.out.kept (hf5.mono hm5))
                have HB5 : Hid (w5.heap[g]? = some (.cells #[.int .i64 4, nilV, nilV, nilV, nilV, .int .i64 n, .int .u64 (ep + 1), .int .i64 root, .int .i64 depth, .int .i64 count, .int .i64 hx] 90 (0, 0))) := Lib.hid (hf5.heap HB4.out (by have := HB3.out.2; simp only [List.mem_cons, List.not_mem_nil, or_false] at this ⊢; omega))
                obtain ⟨e3, he3⟩ : ∃ e3, syncE T2.dev = e3 := ⟨_, rfl⟩
                rw [he3] at HSL1 ⊢
                clear hd5 hf5 hm5 HSY c0 he3
                by_cases h3 : e3 = 0
                · subst h3
                  have HSL2 : Hid (T.commit root depth count = (0, ({ T2 with dev := syncD T2.dev, super := superPg (ep + 1) root depth count hx n, lists := ps, base := T2.pool.turn } : StD).abort)) := Lib.hid (by rw [HSL1.out, if_neg (by simp)])
                  clear HSL1
                  have hap5 := HS5.out.apart
                  have hlt5 := HS5.out.lt
                  obtain ⟨pv7, kv7, dv7, gv7, lv7, bf7, bl7, pf7, pl7, hb5, hv5⟩ := HS5.out.blk
                  obtain ⟨⟨x1, y1, rfl⟩, ⟨x2, y2, rfl⟩, ⟨x3, y3, rfl⟩, ⟨x4, y4, rfl⟩, ⟨x5, y5, rfl⟩, ⟨x6, y6, rfl⟩, ⟨x7, y7, rfl⟩, ⟨qa, qc, rfl⟩, ⟨ra, rc, rfl⟩⟩ := hv5.sl
                  have hgn : g ≠ sb := by have := HB3.out.2; simp only [List.mem_cons, List.not_mem_nil, or_false] at this; omega
                  dsimp only at hb5 hv5 ⊢
                  have HB5S := Lib.hid hb5
                  have HV5 := Lib.hid hv5
                  have hcc : w5.cell? ⟨sb, 16, none⟩ = some (.int .i64 T2.pool.high) ∧ w5.cell? ⟨sb, 17, none⟩ = some (.slice qa T2.pool.free.length qc) ∧ w5.cell? ⟨sb, 18, none⟩ = some (.slice ra T2.pool.limbo.length rc) ∧ w5.cell? ⟨g, 0, none⟩ = some (.int .i64 4) ∧ w5.cell? ⟨g, 1, none⟩ = some (nilV) ∧ w5.cell? ⟨g, 2, none⟩ = some (nilV) ∧ w5.cell? ⟨g, 3, none⟩ = some (nilV) ∧ w5.cell? ⟨g, 4, none⟩ = some (nilV) ∧ w5.cell? ⟨g, 5, none⟩ = some (.int .i64 n) ∧ w5.cell? ⟨g, 6, none⟩ = some (.int .u64 (ep + 1)) ∧ w5.cell? ⟨g, 7, none⟩ = some (.int .i64 root) ∧ w5.cell? ⟨g, 8, none⟩ = some (.int .i64 depth) ∧ w5.cell? ⟨g, 9, none⟩ = some (.int .i64 count) ∧ w5.cell? ⟨g, 10, none⟩ = some (.int .i64 hx) := ⟨(by rw [blk_cell hb5 16]; rfl), (by rw [blk_cell hb5 17]; rfl), (by rw [blk_cell hb5 18]; rfl), (by rw [blk_cell HB5.out 0]; rfl), (by rw [blk_cell HB5.out 1]; rfl), (by rw [blk_cell HB5.out 2]; rfl), (by rw [blk_cell HB5.out 3]; rfl), (by rw [blk_cell HB5.out 4]; rfl), (by rw [blk_cell HB5.out 5]; rfl), (by rw [blk_cell HB5.out 6]; rfl), (by rw [blk_cell HB5.out 7]; rfl), (by rw [blk_cell HB5.out 8]; rfl), (by rw [blk_cell HB5.out 9]; rfl), (by rw [blk_cell HB5.out 10]; rfl)⟩
                  have hK : ∀ (W : World) (i : Nat) (v : Value), i < 16 → (W.cell? ⟨sb, 16, none⟩ = some (.int .i64 T2.pool.high) ∧ W.cell? ⟨sb, 17, none⟩ = some (.slice qa T2.pool.free.length qc) ∧ W.cell? ⟨sb, 18, none⟩ = some (.slice ra T2.pool.limbo.length rc) ∧ W.cell? ⟨g, 0, none⟩ = some (.int .i64 4) ∧ W.cell? ⟨g, 1, none⟩ = some (nilV) ∧ W.cell? ⟨g, 2, none⟩ = some (nilV) ∧ W.cell? ⟨g, 3, none⟩ = some (nilV) ∧ W.cell? ⟨g, 4, none⟩ = some (nilV) ∧ W.cell? ⟨g, 5, none⟩ = some (.int .i64 n) ∧ W.cell? ⟨g, 6, none⟩ = some (.int .u64 (ep + 1)) ∧ W.cell? ⟨g, 7, none⟩ = some (.int .i64 root) ∧ W.cell? ⟨g, 8, none⟩ = some (.int .i64 depth) ∧ W.cell? ⟨g, 9, none⟩ = some (.int .i64 count) ∧ W.cell? ⟨g, 10, none⟩ = some (.int .i64 hx)) → ((W.setCell ⟨sb, i, none⟩ v).cell? ⟨sb, 16, none⟩ = some (.int .i64 T2.pool.high) ∧ (W.setCell ⟨sb, i, none⟩ v).cell? ⟨sb, 17, none⟩ = some (.slice qa T2.pool.free.length qc) ∧ (W.setCell ⟨sb, i, none⟩ v).cell? ⟨sb, 18, none⟩ = some (.slice ra T2.pool.limbo.length rc) ∧ (W.setCell ⟨sb, i, none⟩ v).cell? ⟨g, 0, none⟩ = some (.int .i64 4) ∧ (W.setCell ⟨sb, i, none⟩ v).cell? ⟨g, 1, none⟩ = some (nilV) ∧ (W.setCell ⟨sb, i, none⟩ v).cell? ⟨g, 2, none⟩ = some (nilV) ∧ (W.setCell ⟨sb, i, none⟩ v).cell? ⟨g, 3, none⟩ = some (nilV) ∧ (W.setCell ⟨sb, i, none⟩ v).cell? ⟨g, 4, none⟩ = some (nilV) ∧ (W.setCell ⟨sb, i, none⟩ v).cell? ⟨g, 5, none⟩ = some (.int .i64 n) ∧ (W.setCell ⟨sb, i, none⟩ v).cell? ⟨g, 6, none⟩ = some (.int .u64 (ep + 1)) ∧ (W.setCell ⟨sb, i, none⟩ v).cell? ⟨g, 7, none⟩ = some (.int .i64 root) ∧ (W.setCell ⟨sb, i, none⟩ v).cell? ⟨g, 8, none⟩ = some (.int .i64 depth) ∧ (W.setCell ⟨sb, i, none⟩ v).cell? ⟨g, 9, none⟩ = some (.int .i64 count) ∧ (W.setCell ⟨sb, i, none⟩ v).cell? ⟨g, 10, none⟩ = some (.int .i64 hx)) := fun W i v hi h => by
                    have e1 : ∀ j, 16 ≤ j → (⟨sb, i, none⟩ : Addr) ≠ ⟨sb, j, none⟩ := fun j hj e => by simp only [Addr.mk.injEq] at e; omega
                    have e2 : ∀ j, (⟨sb, i, none⟩ : Addr) ≠ ⟨g, j, none⟩ := fun j e => by simp only [Addr.mk.injEq] at e; omega
                    obtain ⟨h16, h17, h18, k0, k1, k2, k3, k4, k5, k6, k7, k8, k9, k10⟩ := h
                    refine ⟨?_, ?_, ?_, ?_, ?_, ?_, ?_, ?_, ?_, ?_, ?_, ?_, ?_, ?_⟩
                    · rw [World.cell?_setCell_other (h := e1 16 (by omega))]; exact h16
                    · rw [World.cell?_setCell_other (h := e1 17 (by omega))]; exact h17
                    · rw [World.cell?_setCell_other (h := e1 18 (by omega))]; exact h18
                    · rw [World.cell?_setCell_other (h := e2 0)]; exact k0
                    · rw [World.cell?_setCell_other (h := e2 1)]; exact k1
                    · rw [World.cell?_setCell_other (h := e2 2)]; exact k2
                    · rw [World.cell?_setCell_other (h := e2 3)]; exact k3
                    · rw [World.cell?_setCell_other (h := e2 4)]; exact k4
                    · rw [World.cell?_setCell_other (h := e2 5)]; exact k5
                    · rw [World.cell?_setCell_other (h := e2 6)]; exact k6
                    · rw [World.cell?_setCell_other (h := e2 7)]; exact k7
                    · rw [World.cell?_setCell_other (h := e2 8)]; exact k8
                    · rw [World.cell?_setCell_other (h := e2 9)]; exact k9
                    · rw [World.cell?_setCell_other (h := e2 10)]; exact k10
                  have hmv : ∀ W : World, Fr [] w5 W → (W.cell? ⟨sb, 16, none⟩ = some (.int .i64 T2.pool.high) ∧ W.cell? ⟨sb, 17, none⟩ = some (.slice qa T2.pool.free.length qc) ∧ W.cell? ⟨sb, 18, none⟩ = some (.slice ra T2.pool.limbo.length rc) ∧ W.cell? ⟨g, 0, none⟩ = some (.int .i64 4) ∧ W.cell? ⟨g, 1, none⟩ = some (nilV) ∧ W.cell? ⟨g, 2, none⟩ = some (nilV) ∧ W.cell? ⟨g, 3, none⟩ = some (nilV) ∧ W.cell? ⟨g, 4, none⟩ = some (nilV) ∧ W.cell? ⟨g, 5, none⟩ = some (.int .i64 n) ∧ W.cell? ⟨g, 6, none⟩ = some (.int .u64 (ep + 1)) ∧ W.cell? ⟨g, 7, none⟩ = some (.int .i64 root) ∧ W.cell? ⟨g, 8, none⟩ = some (.int .i64 depth) ∧ W.cell? ⟨g, 9, none⟩ = some (.int .i64 count) ∧ W.cell? ⟨g, 10, none⟩ = some (.int .i64 hx)) := fun W hf => by
                    have h1 := hf.heap HB5S.out (by simp)
                    have h2 := hf.heap HB5.out (by simp)
                    exact ⟨(by rw [blk_cell h1 16]; rfl), (by rw [blk_cell h1 17]; rfl), (by rw [blk_cell h1 18]; rfl), (by rw [blk_cell h2 0]; rfl), (by rw [blk_cell h2 1]; rfl), (by rw [blk_cell h2 2]; rfl), (by rw [blk_cell h2 3]; rfl), (by rw [blk_cell h2 4]; rfl), (by rw [blk_cell h2 5]; rfl), (by rw [blk_cell h2 6]; rfl), (by rw [blk_cell h2 7]; rfl), (by rw [blk_cell h2 8]; rfl), (by rw [blk_cell h2 9]; rfl), (by rw [blk_cell h2 10]; rfl)⟩
                  have HD := Lib.hid (hmv w5.drew (Fr.refl [] _).drew)
                  have HMV := Lib.hid hmv
                  have HKK := Lib.hid hK
                  have HCC := Lib.hid hcc
                  have HTN := Lib.hid (turn_k (S := []) (p := T2.pool) w5.drew ⟨_, _, rfl, (hv5.pfree.mono (by simp)).kept (Fr.refl [] _).drew, (hv5.plimbo.mono (by simp)).kept (Fr.refl [] _).drew⟩ (HG1.out.ok HS4.out.dev.fine.n4).1.1)
                  have HPS5 : Hid (∀ i v, (stL b fm4 T2.super (.slice x1 T2.super.pairs.length y1) (.slice x2 T2.super.keys.length y2) (.slice x3 T2.super.kids.length y3) (.slice x4 T2.super.pages.length y4) (.slice x5 T2.lists.length y5) T2.base.high (.slice x6 T2.base.free.length y6) (.slice x7 T2.base.limbo.length y7) T2.pool.high (.slice qa T2.pool.free.length qc) (.slice ra T2.pool.limbo.length rc))[i]? = some v → ∀ W, Fr [] w5 W → W.cell? ⟨sb, i, none⟩ = some v ∧ W.frozen? ⟨sb, i, none⟩ = false) := Lib.hid fun i v hi W hf => by
                    have h1 := hf.heap HB5S.out (by simp)
                    exact ⟨by rw [blk_cell h1, List.getElem?_toArray]; exact hi, blk_free h1 i⟩
                  obtain ⟨q1, q2, q3, hcg⟩ := hcc
                  obtain ⟨z0, z1, z2, z3, z4, z5', z6, z7, z8, z9, z10'⟩ := hcg
                  clear hb5 hv5 hap5 hlt5 hK hmv
                  go_upto_region 23 with fail
                  go_region_held3 (fun w' => w'.cell? ⟨sb, 16, none⟩ = some (.int .i64 T2.pool.high) ∧ w'.cell? ⟨sb, 17, none⟩ = some (.slice qa T2.pool.free.length qc) ∧ w'.cell? ⟨sb, 18, none⟩ = some (.slice ra T2.pool.limbo.length rc) ∧ w'.cell? ⟨g, 0, none⟩ = some (.int .i64 4) ∧ w'.cell? ⟨g, 1, none⟩ = some (nilV) ∧ w'.cell? ⟨g, 2, none⟩ = some (nilV) ∧ w'.cell? ⟨g, 3, none⟩ = some (nilV) ∧ w'.cell? ⟨g, 4, none⟩ = some (nilV) ∧ w'.cell? ⟨g, 5, none⟩ = some (.int .i64 n) ∧ w'.cell? ⟨g, 6, none⟩ = some (.int .u64 (ep + 1)) ∧ w'.cell? ⟨g, 7, none⟩ = some (.int .i64 root) ∧ w'.cell? ⟨g, 8, none⟩ = some (.int .i64 depth) ∧ w'.cell? ⟨g, 9, none⟩ = some (.int .i64 count) ∧ w'.cell? ⟨g, 10, none⟩ = some (.int .i64 hx)) (first | with_reducible exact HD.out | with_reducible exact HC6.out | (with_reducible exact HCC.out) | ((repeat with_reducible refine HKK.out _ _ _ (by decide) ?_); with_reducible exact HC6.out))
                    (first
                    | (go_at_call 106
                       with_reducible refine HTN.out.mono ?_
                       rintro e w6 ⟨v6, rfl, hn6, hf6⟩
                       obtain ⟨fv6, lv6, rfl, hi6, hl6⟩ := hn6 [] (by simp)
                       obtain ⟨fa, fc, rfl, _⟩ := Slc.form hi6
                       obtain ⟨la6, lc6, rfl, _⟩ := Slc.form hl6
                       have HN6 := Lib.hid hn6
                       have hf56 := (Fr.refl [] w5).drew.trans hf6
                       have HF6 := Lib.hid hf56
                       have HC6 := Lib.hid (HMV.out w6 hf56)
                       have d1 := (HPS5.out 1 _ rfl w6 hf56).1
                       have f1 := (HPS5.out 1 _ rfl w6 hf56).2
                       have d2 := (HPS5.out 2 _ rfl w6 hf56).1
                       have f2 := (HPS5.out 2 _ rfl w6 hf56).2
                       have d3 := (HPS5.out 3 _ rfl w6 hf56).1
                       have f3 := (HPS5.out 3 _ rfl w6 hf56).2
                       have d4 := (HPS5.out 4 _ rfl w6 hf56).1
                       have f4 := (HPS5.out 4 _ rfl w6 hf56).2
                       have d5 := (HPS5.out 5 _ rfl w6 hf56).1
                       have f5 := (HPS5.out 5 _ rfl w6 hf56).2
                       have d6 := (HPS5.out 6 _ rfl w6 hf56).1
                       have f6 := (HPS5.out 6 _ rfl w6 hf56).2
                       have d7 := (HPS5.out 7 _ rfl w6 hf56).1
                       have f7 := (HPS5.out 7 _ rfl w6 hf56).2
                       have d8 := (HPS5.out 8 _ rfl w6 hf56).1
                       have f8 := (HPS5.out 8 _ rfl w6 hf56).2
                       have d9 := (HPS5.out 9 _ rfl w6 hf56).1
                       have f9 := (HPS5.out 9 _ rfl w6 hf56).2
                       have d10 := (HPS5.out 10 _ rfl w6 hf56).1
                       have f10 := (HPS5.out 10 _ rfl w6 hf56).2
                       have d11 := (HPS5.out 11 _ rfl w6 hf56).1
                       have f11 := (HPS5.out 11 _ rfl w6 hf56).2
                       have d12 := (HPS5.out 12 _ rfl w6 hf56).1
                       have f12 := (HPS5.out 12 _ rfl w6 hf56).2
                       have d13 := (HPS5.out 13 _ rfl w6 hf56).1
                       have f13 := (HPS5.out 13 _ rfl w6 hf56).2
                       have d14 := (HPS5.out 14 _ rfl w6 hf56).1
                       have f14 := (HPS5.out 14 _ rfl w6 hf56).2
                       have d15 := (HPS5.out 15 _ rfl w6 hf56).1
                       have f15 := (HPS5.out 15 _ rfl w6 hf56).2
                       clear hn6 hi6 hl6 hf6 hf56))
                  all_goals
                    obtain ⟨WZ, hWZ⟩ : ∃ WZ, (((((((((((((((w6).setCell ⟨sb, 1, none⟩ (.int .i64 4)).setCell ⟨sb, 2, none⟩ (nilV)).setCell ⟨sb, 3, none⟩ (nilV)).setCell ⟨sb, 4, none⟩ (nilV)).setCell ⟨sb, 5, none⟩ (nilV)).setCell ⟨sb, 6, none⟩ (.int .i64 n)).setCell ⟨sb, 7, none⟩ (.int .u64 (ep + 1))).setCell ⟨sb, 8, none⟩ (.int .i64 root)).setCell ⟨sb, 9, none⟩ (.int .i64 depth)).setCell ⟨sb, 10, none⟩ (.int .i64 count)).setCell ⟨sb, 11, none⟩ (.int .i64 hx)).setCell ⟨sb, 12, none⟩ (.slice pa ps.length pc)).setCell ⟨sb, 13, none⟩ (.int .i64 T2.pool.turn.high)).setCell ⟨sb, 14, none⟩ (.slice fa T2.pool.turn.free.length fc)).setCell ⟨sb, 15, none⟩ (.slice la6 T2.pool.turn.limbo.length lc6) = WZ := ⟨_, rfl⟩
                    rw [hWZ]
                    have hb6 := HF6.out.heap HB5S.out (by simp)
                    have hchain : (((((((((((((((w6).setCell ⟨sb, 1, none⟩ (.int .i64 4)).setCell ⟨sb, 2, none⟩ (nilV)).setCell ⟨sb, 3, none⟩ (nilV)).setCell ⟨sb, 4, none⟩ (nilV)).setCell ⟨sb, 5, none⟩ (nilV)).setCell ⟨sb, 6, none⟩ (.int .i64 n)).setCell ⟨sb, 7, none⟩ (.int .u64 (ep + 1))).setCell ⟨sb, 8, none⟩ (.int .i64 root)).setCell ⟨sb, 9, none⟩ (.int .i64 depth)).setCell ⟨sb, 10, none⟩ (.int .i64 count)).setCell ⟨sb, 11, none⟩ (.int .i64 hx)).setCell ⟨sb, 12, none⟩ (.slice pa ps.length pc)).setCell ⟨sb, 13, none⟩ (.int .i64 T2.pool.turn.high)).setCell ⟨sb, 14, none⟩ (.slice fa T2.pool.turn.free.length fc)).setCell ⟨sb, 15, none⟩ (.slice la6 T2.pool.turn.limbo.length lc6) = w6.setCells sb 1 [.int .i64 4, nilV, nilV, nilV, nilV, .int .i64 n, .int .u64 (ep + 1), .int .i64 root, .int .i64 depth, .int .i64 count, .int .i64 hx, .slice pa ps.length pc, .int .i64 T2.pool.turn.high, .slice fa T2.pool.turn.free.length fc, .slice la6 T2.pool.turn.limbo.length lc6] := rfl
                    have hbz : WZ.heap[sb]? = some (.cells (stL b fm4 (superPg (ep + 1) root depth count hx n) nilV nilV nilV nilV (.slice pa ps.length pc) T2.pool.turn.high (.slice fa T2.pool.turn.free.length fc) (.slice la6 T2.pool.turn.limbo.length lc6) T2.pool.high (.slice qa T2.pool.free.length qc) (.slice ra T2.pool.limbo.length rc)).toArray 113 (0, 0)) := by
                      rw [← hWZ, hchain, blk_setCells _ 1 w6 _ hb6]
                      rfl
                    have hfz : Fr [sb] w6 WZ := by
                      rw [← hWZ, hchain]
                      exact Fr.setCells sb _ 1 w6
                    have HSZ : Hid (StoAt WZ sb b ml mc fm4 { T2 with dev := syncD T2.dev, super := superPg (ep + 1) root depth count hx n, lists := ps, base := T2.pool.turn }) := Lib.hid (by
                      have hap := HS5.out.apart
                      have hlt := HS5.out.lt
                      have hz : ∀ x, x ∈ [sb] → x < w6.heap.size → x ∈ [sb, fm4, b, ml, mc] := fun x hx _ => by rw [List.mem_singleton.1 hx]; simp
                      have hnp := newPool_parts HN6.out [sb, fm4, b, ml, mc] (fun x hx => by simp only [List.mem_cons, List.not_mem_nil, or_false] at hx; rcases hx with h | h | h | h | h <;> rw [h] <;> simp <;> omega)
                      refine ⟨⟨_, _, _, _, _, _, _, _, _, hbz, ⟨⟨Slc.nil _ _, Slc.nil _ _, Slc.nil _ _, Slc.nil _ _⟩, (HI5.out.kept HF6.out.nil).kept (hfz.mono hz), hnp.1.kept (hfz.mono hz), hnp.2.kept (hfz.mono hz), (HV5.out.pfree.kept HF6.out.nil).kept (hfz.mono hz), (HV5.out.plimbo.kept HF6.out.nil).kept (hfz.mono hz)⟩⟩, (HS5.out.map.kept HF6.out (by simp)).kept hfz (by simp; omega), ?_, HS5.out.ne⟩
                      refine (HS5.out.dev.kept HF6.out).apart hfz (fun x hx => ?_) (by simp; omega) (by simp; omega) (by simp; omega)
                      rw [List.mem_singleton.1 hx]
                      intro i u he
                      exact HS5.out.noByte.1 i u (by rw [← HF6.out.cell (a := ⟨sb, i, none⟩) hlt.1 (by simp)]; exact he))
                    have HRZ : Hid (Fr [sb, fm, b, ml, mc] w WZ ∧ (fm4 = fm ∨ w.heap.size ≤ fm4) ∧ ApK w sb WZ) := Lib.hid (by
                      refine ⟨(HR5.out.1.trans HF6.out.nil).trans (hfz.mono (fun x hx _ => by rw [List.mem_singleton.1 hx]; simp)), HR5.out.2.1, ?_⟩
                      intro S hS ha i B o m c hc h0
                      have ha5 := HR5.out.2.2 S hS ha
                      rw [blk_cell hbz, List.getElem?_toArray] at hc
                      have hm := List.mem_of_getElem? hc
                      have hs5 := HR5.out.1.size
                      have hnp := newPool_parts HN6.out S (fun x hx => by have := hS x hx; simp; omega)
                      have e17 : w5.cell? ⟨sb, 17, none⟩ = some (.slice qa T2.pool.free.length qc) := by rw [blk_cell HB5S.out 17]; rfl
                      have e18 : w5.cell? ⟨sb, 18, none⟩ = some (.slice ra T2.pool.limbo.length rc) := by rw [blk_cell HB5S.out 18]; rfl
                      unfold stL at hm
                      simp only [List.mem_cons, List.not_mem_nil, or_false] at hm
                      rcases hm with h | h | h | h | h | h | h | h | h | h | h | h | h | h | h | h | h | h | h | h
                      · cases h
                      · cases h
                      · cases h
                      · cases h
                      · cases h
                      · cases h
                      · cases h
                      · cases h
                      · cases h
                      · cases h
                      · cases h
                      · cases h
                      · have h1 := HI3.out.mono (S' := S) (fun x hx => List.mem_append.2 (.inr (List.mem_range.2 (by have := hS x hx; have := HSZW.out; omega))))
                        rw [← h] at h1
                        exact ints_ap h1 h0
                      · cases h
                      · have h1 := hnp.1
                        rw [← h] at h1
                        exact ints_ap h1 h0
                      · have h1 := hnp.2
                        rw [← h] at h1
                        exact ints_ap h1 h0
                      · cases h
                      · rw [← h] at e17
                        exact ha5 17 B o m c e17 h0
                      · rw [← h] at e18
                        exact ha5 18 B o m c e18 h0
                      · cases h)
                    have HAB := Lib.hid (abort_k WZ HSZ.out)
                    clear hbz hfz hb6 hchain hWZ d1 f1 d2 f2 d3 f3 d4 f4 d5 f5 d6 f6 d7 f7 d8 f8 d9 f9 d10 f10 d11 f11 d12 f12 d13 f13 d14 f14 d15 f15
                    go_wp2_with fail
                    with_reducible refine HAB.out.mono ?_
                    rintro e w7 ⟨rfl, hr7⟩
                    have HR7 := Lib.hid (StoR.trans HRZ.out.1 HRZ.out.2 hr7)
                    clear hr7 HAB
                    go_wp2_with fail
                    go_ret
                    exact ⟨by rw [HSL2.out]; rfl, by rw [HSL2.out]; exact HR7.out⟩
                · have HP : Hid (T.commit root depth count = (e3, ({ T2 with dev := syncD T2.dev } : StD).end e3)) := Lib.hid (by rw [HSL1.out, if_pos h3])
                  have HEN := Lib.hid (end_k e3 w5 HS5.out)
                  have b3 : (e3 != 0) = true := by simpa using h3
                  clear h3
                  go_wp2_with fail
                  with_reducible refine HEN.out.mono ?_
                  rintro e w6 ⟨rfl, hr6⟩
                  have HR6 := Lib.hid (StoR.trans HR5.out.1 HR5.out.2 hr6)
                  clear hr6 HEN
                  go_wp2_with fail
                  go_ret
                  exact ⟨by rw [HP.out]; rfl, by rw [HP.out]; exact HR6.out⟩
              · have HP : Hid (T.commit root depth count = (e2, T2.end e2)) := Lib.hid (by rw [HSL.out, if_pos h2])
                have HEN := Lib.hid (end_k e2 w4 HS4.out)
                have b2 : (e2 != 0) = true := by simpa using h2
                have b3 : (e2 == 0) = false := by simpa using h2
                clear h2
                go_wp2_with fail
                with_reducible refine HEN.out.mono ?_
                rintro e w5 ⟨rfl, hr5⟩
                have HR5 := Lib.hid (StoR.trans HR4.out.1 HR4.out.2 hr5)
                clear hr5 HEN
                go_wp2_with fail
                go_ret
                exact ⟨by rw [HP.out]; rfl, by rw [HP.out]; exact HR5.out⟩
          · have HP : Hid (T.commit root depth count = (e1, T1.end e1)) := Lib.hid (by rw [HCM1.out, if_pos h1])
            have HEN := Lib.hid (end_k e1 w3 HS3.out)
            have b1 : (e1 != 0) = true := by simpa using h1
            clear h1 hi3
            go_wp2_with fail
            with_reducible refine HEN.out.mono ?_
            rintro e w4 ⟨rfl, hr4⟩
            have HR4 := Lib.hid (StoR.trans HR3.out.1 HR3.out.2 hr4)
            clear hr4 HEN
            go_wp2_with fail
            go_ret
            exact ⟨by rw [HP.out]; rfl, by rw [HP.out]; exact HR4.out⟩
end Go.Proofs.YtgpohemcfgepeaaGreat

namespace Go.Proofs.YtgpohemcfgepeaaGreat
open Go.RowKit Go.MapKept
def stN (b : Nat) (p : PageD) (pv kv dv gv lv : Value) (bh : Int) (bf bl : Value) (ph : Int) (pf pl : Value) : List Value :=
  [.pointer (some ⟨b, 0, none⟩), .int .i64 p.kind, pv, kv, dv, gv, .int .i64 p.next, .int .u64 p.epoch, .int .i64 p.root, .int .i64 p.depth, .int .i64 p.count, .int .i64 p.high, lv, .int .i64 bh, bf, bl, .int .i64 ph, pf, pl, .map none]
structure StoN (w : World) (sb b ml mc : Nat) (T : StD) : Prop where
  blk : ∃ pv kv dv gv lv bf bl pf pl, w.heap[sb]? = some (.cells (stN b T.super pv kv dv gv lv T.base.high bf bl T.pool.high pf pl).toArray 113 (0, 0)) ∧ StoV w [sb, b, ml, mc] T pv kv dv gv lv bf bl pf pl
  dev : DevAt w b ml mc T.dev
theorem StoN.lt {w : World} {sb b ml mc : Nat} {T : StD} (h : StoN w sb b ml mc T) : sb < w.heap.size ∧ b < w.heap.size ∧ ml < w.heap.size ∧ mc < w.heap.size := by
  obtain ⟨pv, kv, dv, gv, lv, bf, bl, pf, pl, hb, hv⟩ := h.blk
  exact ⟨lt_of_heap hb, h.dev.lt⟩
theorem StoN.ne {w : World} {sb b ml mc : Nat} {T : StD} (h : StoN w sb b ml mc T) : sb ≠ b ∧ sb ≠ ml ∧ sb ≠ mc := by
  obtain ⟨pv, kv, dv, gv, lv, bf, bl, pf, pl, hb, hv⟩ := h.blk
  obtain ⟨f1, hm1, _⟩ := h.dev.lastM
  obtain ⟨f2, hm2, _⟩ := h.dev.cacheM
  refine ⟨?_, hm1.notCells hb, hm2.notCells hb⟩
  rintro rfl
  have := h.dev.blk
  rw [hb] at this
  injection this with this
  injection this with _ ht _
  exact absurd ht (by decide)
theorem StoN.noByte {w : World} {sb b ml mc : Nat} {T : StD} (h : StoN w sb b ml mc T) : NoByte w sb := fun i u he => by
  obtain ⟨pv, kv, dv, gv, lv, bf, bl, pf, pl, hb, hv⟩ := h.blk
  obtain ⟨⟨a1, k1, e1⟩, ⟨a2, k2, e2⟩, ⟨a3, k3, e3⟩, ⟨a4, k4, e4⟩, ⟨a5, k5, e5⟩, ⟨a6, k6, e6⟩, ⟨a7, k7, e7⟩, ⟨a8, k8, e8⟩, ⟨a9, k9, e9⟩⟩ := hv.sl
  rw [blk_cell hb, List.getElem?_toArray] at he
  have hm := List.mem_of_getElem? he
  unfold stN at hm
  subst e1 e2 e3 e4 e5 e6 e7 e8 e9
  simp [byteV] at hm
set_option maxRecDepth 100000 in
set_option maxHeartbeats 1000000 in
theorem abort_new {sb b ml mc : Nat} {T : StD} (w : World) (h : StoN w sb b ml mc T) :
    Calls Tryz.prog 79 #[.pointer (some ⟨sb, 0, none⟩)] w fun e w' => e = .returned (.tuple #[]) ∧ StoAt w' sb b ml mc w.heap.size T.abort ∧ Fr [sb] w w' := by
  have HST := Lib.hid h
  obtain ⟨pv, kv, dv, gv, lv, bf, bl, pf, pl, hb, hv⟩ := h.blk
  obtain ⟨_, _, _, _, _, ⟨ba, bc, rfl⟩, ⟨la, lc, rfl⟩, ⟨qa, qc, rfl⟩, ⟨ra, rc, rfl⟩⟩ := hv.sl
  have HB := Lib.hid hb
  have HV := Lib.hid hv
  have c13 := blk_cell hb 13
  have c14 := blk_cell hb 14
  have c15 := blk_cell hb 15
  have c16 := blk_cell hb 16
  have c17 := blk_cell hb 17
  have c18 := blk_cell hb 18
  have c19 := blk_cell hb 19
  have f16 := blk_free hb 16
  have f17 := blk_free hb 17
  have f18 := blk_free hb 18
  have f19 := blk_free hb 19
  simp only [stN, List.getElem?_toArray, List.getElem?_cons_zero, List.getElem?_cons_succ] at c13 c14 c15 c16 c17 c18 c19
  have hal := Fr.alloc1 w (.map #[] 0)
  have hbA := hal.heap hb (by simp)
  have d16 := hal.cellSome c16 (by simp)
  have d17 := hal.cellSome c17 (by simp)
  have d18 := hal.cellSome c18 (by simp)
  have d19 := hal.cellSome c19 (by simp)
  have g16 := blk_free hbA 16
  have g17 := blk_free hbA 17
  have g18 := blk_free hbA 18
  have g19 := blk_free hbA 19
  have hmm := @run_makeMap Tryz.prog
  have HQ : Hid (StoAt (((((w.alloc (.map #[] 0)).setCell ⟨sb, 16, none⟩ (.int .i64 T.base.high)).setCell ⟨sb, 17, none⟩ (.slice ba T.base.free.length bc)).setCell ⟨sb, 18, none⟩ (.slice la T.base.limbo.length lc)).setCell ⟨sb, 19, none⟩ (.map (some w.heap.size))) sb b ml mc w.heap.size T.abort ∧ Fr [sb] w (((((w.alloc (.map #[] 0)).setCell ⟨sb, 16, none⟩ (.int .i64 T.base.high)).setCell ⟨sb, 17, none⟩ (.slice ba T.base.free.length bc)).setCell ⟨sb, 18, none⟩ (.slice la T.base.limbo.length lc)).setCell ⟨sb, 19, none⟩ (.map (some w.heap.size)))) := Lib.hid (by
    have hlt := h.lt
    obtain ⟨W2, hW2⟩ : ∃ W2, (((((w.alloc (.map #[] 0)).setCell ⟨sb, 16, none⟩ (.int .i64 T.base.high)).setCell ⟨sb, 17, none⟩ (.slice ba T.base.free.length bc)).setCell ⟨sb, 18, none⟩ (.slice la T.base.limbo.length lc)).setCell ⟨sb, 19, none⟩ (.map (some w.heap.size))) = W2 := ⟨_, rfl⟩
    have hf2 : Fr [sb] (w.alloc (.map #[] 0)) W2 := by
      rw [← hW2]
      exact (((Fr.setCell _ ⟨sb, 16, none⟩ _).trans (Fr.setCell _ ⟨sb, 17, none⟩ _)).trans (Fr.setCell _ ⟨sb, 18, none⟩ _)).trans (Fr.setCell _ ⟨sb, 19, none⟩ _)
    have hb2 : W2.heap[sb]? = some (.cells (stL b w.heap.size T.super pv kv dv gv lv T.base.high (.slice ba T.base.free.length bc) (.slice la T.base.limbo.length lc) T.base.high (.slice ba T.base.free.length bc) (.slice la T.base.limbo.length lc)).toArray 113 (0, 0)) := by
      rw [← hW2, blk_set (blk_set (blk_set (blk_set hbA 16 _) 17 _) 18 _) 19 _]
      rfl
    rw [hW2]
    have hv2 : StoV W2 [sb, w.heap.size, b, ml, mc] T pv kv dv gv lv (.slice ba T.base.free.length bc) (.slice la T.base.limbo.length lc) (.slice qa T.pool.free.length qc) (.slice ra T.pool.limbo.length rc) :=
      ((hv.more (S' := [sb, w.heap.size, b, ml, mc]) (fun x hx => by simp only [List.mem_cons, List.not_mem_nil, or_false] at hx ⊢; rcases hx with h | h | h | h | h <;> simp [h])).kept hal.nil).kept (hf2.mono (by simp))
    refine ⟨⟨⟨pv, kv, dv, gv, lv, _, _, _, _, hb2, ⟨hv2.super, hv2.lists, hv2.bfree, hv2.blimbo, hv2.bfree, hv2.blimbo⟩⟩, ?_, ?_, ?_⟩, hal.nil.trans hf2⟩
    · refine MapG.congr ((MapG.made w).kept hf2 (by simp; omega)) (fun k => rfl)
    · refine (h.dev.kept hal).apart hf2 (fun x hx => ?_) (by have := h.ne; simp; omega) (by have := h.ne; simp; omega) (by have := h.ne; simp; omega)
      rw [List.mem_singleton.1 hx]
      intro i u he
      exact h.noByte i u (by rw [← hal.cell (a := ⟨sb, i, none⟩) hlt.1 (by simp)]; exact he)
    · exact ⟨by omega, by omega⟩)
  clear h hb hv hal hbA
  go_enter Tryz.func79, Tryz.ntmps79
  go_wp2
  go_end0
  exact ⟨rfl, HQ.out⟩
def StD.new (D : Dv) : StD := ⟨D, pgZero, [], ⟨2, [], []⟩, ⟨0, [], []⟩, fun _ => false⟩
def formatD (D : Dv) : Int × StD := (StD.new D).abort.commit 0 0 0
theorem newGood {D : Dv} (h : 2 ≤ D.n) : (StD.new D).abort.good := by
  have : PoolG ⟨2, [], []⟩ D.n := ⟨by decide, by show (2 : Int) ≤ _; omega, ⟨List.Pairwise.nil, by simp⟩, ⟨List.Pairwise.nil, by simp⟩, by simp⟩
  exact ⟨this, this⟩
set_option maxRecDepth 100000 in
set_option maxHeartbeats 1000000 in
theorem format_k {b ml mc : Nat} {D : Dv} (w : World) (h : DevAt w b ml mc D) (hn2 : 2 ≤ D.n) :
    Calls Tryz.prog 52 #[.pointer (some ⟨b, 0, none⟩)] w fun e w' =>
      Fr [b, ml, mc] w w' ∧ (((formatD D).1 = 0 ∧ ∃ fm, w.heap.size < fm ∧ e = .returned (.tuple #[.pointer (some ⟨w.heap.size, 0, none⟩), .int .i64 0]) ∧ StoAt w' w.heap.size b ml mc fm (formatD D).2) ∨
        ((formatD D).1 ≠ 0 ∧ e = .returned (.tuple #[.pointer none, .int .i64 (formatD D).1]) ∧ DevAt w' b ml mc (formatD D).2.dev)) := by
  obtain ⟨W1, hW1⟩ : ∃ W1, w.alloc (.cells (stN b pgZero nilV nilV nilV nilV nilV 2 nilV nilV 0 nilV nilV).toArray 113) = W1 := ⟨_, rfl⟩
  have hal : Fr [] w W1 := by rw [← hW1]; exact Fr.alloc1 w _
  have hlt := h.lt
  have hbk : W1.heap[w.heap.size]? = some (.cells (stN b pgZero nilV nilV nilV nilV nilV 2 nilV nilV 0 nilV nilV).toArray 113 (0, 0)) := by rw [← hW1]; exact blk_new w _
  have hsn : StoN W1 w.heap.size b ml mc (StD.new D) := ⟨⟨nilV, nilV, nilV, nilV, nilV, nilV, nilV, nilV, nilV, hbk, ⟨⟨Slc.nil _ _, Slc.nil _ _, Slc.nil _ _, Slc.nil _ _⟩, Slc.nil _ _, Slc.nil _ _, Slc.nil _ _, Slc.nil _ _, Slc.nil _ _⟩⟩, h.kept hal⟩
  have hsz : W1.heap.size = w.heap.size + 1 := by rw [← hW1]; simp
  have HAB := Lib.hid (abort_new W1 hsn)
  have HAL := Lib.hid (And.intro hal (And.intro hsz hlt))
  have HG := Lib.hid (newGood hn2)
  clear h hn2 hal hbk hsn hsz hlt
  unfold stN pgZero at hW1
  dsimp only at hW1
  have hnd : ∀ w : World, (binOp BinOp.eql 54 (.pointer (some ⟨b, 0, none⟩)) (.pointer none)).run Tryz.prog w = .ok (.bool false) w := fun _ => by kernel_rfl
  go_enter Tryz.func52, Tryz.ntmps52
  go_wp2_with fail
  with_reducible refine HAB.out.mono ?_
  rintro e w2 ⟨rfl, hs2, hf2⟩
  have HCM := Lib.hid (commit_k 0 0 0 w2 hs2 HG.out (by show (0 : Int) ≤ 0; decide) (by show (0 : Int) < 4611686018427387904; decide) (by show 0 ≤ 1000000; decide))
  have HF2 := Lib.hid hf2
  clear hs2 hf2 HAB
  obtain ⟨⟨e1, T1⟩, hC⟩ : ∃ x, (StD.new D).abort.commit 0 0 0 = x := ⟨_, rfl⟩
  have HFD : Hid (formatD D = (e1, T1)) := Lib.hid hC
  rw [hC] at HCM
  dsimp only at HCM
  clear hC
  go_wp2_with fail
  with_reducible refine HCM.out.mono ?_
  rintro e w3 ⟨rfl, fm3, hs3, hf3, hm3⟩
  have HQ : Hid (StoAt w3 w.heap.size b ml mc fm3 T1 ∧ Fr [b, ml, mc] w w3 ∧ w.heap.size < fm3) := Lib.hid (by
    have h1 := HF2.out.size
    have h2 := HAL.out.2.1
    refine ⟨hs3, ?_, ?_⟩
    · have hf02 : Fr [b, ml, mc] w w2 := HAL.out.1.nil.andThen HF2.out (fun x hx => .inr (by rw [List.mem_singleton.1 hx]; exact Nat.le_refl _))
      exact hf02.andThen hf3 (fun x hx => by
        simp only [List.mem_cons, List.not_mem_nil, or_false] at hx ⊢
        rcases hx with h | h | h | h | h
        · exact .inr (by omega)
        · exact .inr (by omega)
        · simp [h]
        · simp [h]
        · simp [h])
    · rcases hm3.1 with h | h <;> omega)
  clear hs3 hf3 hm3 HCM hW1
  by_cases h1 : e1 = 0
  · subst h1
    go_wp2_with fail
    go_ret2
    rw [HFD.out]
    exact ⟨HQ.out.2.1, .inl ⟨rfl, fm3, HQ.out.2.2, rfl, HQ.out.1⟩⟩
  · have H1 := Lib.hid h1
    have b1 : (e1 != 0) = true := by simpa using h1
    clear h1
    go_wp2_with fail
    go_ret2
    rw [HFD.out]
    exact ⟨HQ.out.2.1, .inr ⟨H1.out, rfl, HQ.out.1.dev⟩⟩
end Go.Proofs.YtgpohemcfgepeaaGreat

namespace Go.Proofs.YtgpohemcfgepeaaGreat
open Go.RowKit Go.MapKept
def newStep (D : Dv) (best : PageD) (n : Int) : PageD := match decP n (D.bytes n) with
  | none => best
  | some p => if best.kind = 0 ∨ best.epoch < p.epoch then p else best
def bests (D : Dv) : Nat → PageD
  | 0 => pgZero
  | k + 1 => newStep D (bests D k) (k : Int)
def newestD (D : Dv) : PageD × Int :=
  if useE D 0 0 ≠ 0 then (pgZero, useE D 0 0) else if useE D 1 0 ≠ 0 then (pgZero, useE D 1 0)
  else if (bests D 2).kind = 0 then (bests D 2, 70) else (bests D 2, 0)
structure NwAt (w wr : World) (D : Dv) (k : Nat) (best : PageD) (pa : Option Addr) (pc : Nat) (ka : Option Addr) (kc : Nat) (da : Option Addr) (dc : Nat) (ga : Option Addr) (gc : Nat) : Prop where
  blk : wr.heap[w.heap.size]? = some (.cells (pageCells best (.slice pa best.pairs.length pc) (.slice ka best.keys.length kc) (.slice da best.kids.length dc) (.slice ga best.pages.length gc)).toArray 90 (0, 0))
  pg : ∀ S : List Nat, (∀ x, x ∈ S → x < w.heap.size + 1) → PageIn S wr best (.slice pa best.pairs.length pc) (.slice ka best.keys.length kc) (.slice da best.kids.length dc) (.slice ga best.pages.length gc)
  fr : Fr [] w wr
  is : best = bests D k
  used : ∀ j, j < k → useE D (j : Nat) 0 = 0
end Go.Proofs.YtgpohemcfgepeaaGreat

namespace Go.Proofs.YtgpohemcfgepeaaGreat
open Go.RowKit Go.MapKept
def badP (high : Int) (free : List Int) (n : Int) : Bool := decide (n < 2) || decide (high ≤ n) || decide (n ∈ free)
def chainD (D : Dv) : Nat → List Int → List (List Int) → Int → Option (List Int × List (List Int))
  | 0, _, _, _ => none
  | f + 1, ls, ll, n => if n = 0 then some (ls, ll) else if (pageD D n).2 ≠ 0 ∨ (pageD D n).1.kind ≠ 3 ∨ n ∈ ls then none else chainD D f (ls ++ [n]) (ll ++ [(pageD D n).1.pages]) (pageD D n).1.next
def openD (D : Dv) : Int × Option StD :=
  if (newestD D).2 ≠ 0 then ((newestD D).2, none)
  else match chainD D (D.n + 2) [] [] (newestD D).1.next with
    | none => (71, none)
    | some (ls, ll) => if (ofP (newestD D).1.high ll).2 ≠ 0 ∨ (D.n : Int) < (newestD D).1.high ∨ ls.any (badP (newestD D).1.high (ofP (newestD D).1.high ll).1.free) = true then (71, none)
      else (0, some (StD.abort ⟨D, (newestD D).1, ls, (ofP (newestD D).1.high ll).1, ⟨0, [], []⟩, fun _ => false⟩))
theorem nodup_len : ∀ (n : Nat) (l : List Int), l.Nodup → (∀ x ∈ l, 0 ≤ x ∧ x < (n : Int)) → l.length ≤ n
  | 0, l, _, hb => by
    cases l with
    | nil => exact Nat.le_refl _
    | cons x l => have := hb x (by simp); omega
  | n + 1, l, hd, hb => by
    have h1 := nodup_len n (l.erase (n : Int)) (hd.erase _) (fun x hx => by
      have h2 := (List.Nodup.mem_erase_iff hd).1 hx
      have h3 := hb x h2.2
      have h4 := h2.1
      omega)
    have h5 : l.length ≤ (l.erase (n : Int)).length + 1 := by
      rw [List.length_erase]
      split <;> omega
    omega
theorem nodup_snoc {l : List Int} {n : Int} (h : l.Nodup) (hn : n ∉ l) : (l ++ [n]).Nodup := by
  rw [List.nodup_append]
  refine ⟨h, by simp, ?_⟩
  intro a ha b hb
  rw [List.mem_singleton.1 hb]
  rintro rfl
  exact hn ha
end Go.Proofs.YtgpohemcfgepeaaGreat
