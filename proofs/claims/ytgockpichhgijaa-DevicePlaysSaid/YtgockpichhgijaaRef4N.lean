/- The document's device: Restart, walked. -/
import Derived.Test.YtgockpichhgijaaRef4M
import Derived.Deep.RegionHeld3
namespace Go.Proofs.Ytgockpichhgijaa
open Go.RowKit Go.MapKept
attribute [local go_sem] ldOp

/-- 'append(append([]byte{}, p...), q...)'. -/
theorem joined_run {w : World} {vp vq : Value} {p q : List UInt8} (h0 : p.length + q.length ≤ 1024) (b0 : Bytes [] w vp p) (b1 : Bytes [] w vq q) (ty1 ty2 : TypeId) :
    ∃ v1 w2 v2 w3, (Builtin.append_ #[23, 23] ty1 #[.slice (some ⟨w.heap.size, 0, none⟩) 0 0, vp]).run Try.prog (w.alloc (.cells #[] 5)) = .ok v1 w2 ∧
      (Builtin.append_ #[23, 23] ty2 #[v1, vq]).run Try.prog w2 = .ok v2 w3 ∧
      (∀ S : List Nat, (∀ x, x ∈ S → x < w.heap.size) → Bytes S w3 v2 (p ++ q)) ∧ Fr [] w w2 ∧ Fr [] w w3 := by
  have hown : (w.alloc (.cells #[] 5)).ownsRow w.heap.size 5 1 (.slice (some ⟨w.heap.size, 0, none⟩) 0 0) 0 [] :=
    ⟨rfl, .inr ⟨w.heap.size, 0, #[], rfl, Nat.le_refl _, heap_alloc_new w _, Nat.le_refl _, Nat.zero_le _, rfl, rfl⟩⟩
  obtain ⟨v1, w2, hr1, ho1, hf1, hn1⟩ := run_append_slc (P := Try.prog) (t := 23) (ty := ty1) Try.underlying23 Try.info5 rfl (by decide) hown (b0.kept (Fr.alloc1 _ _)) (by simp) (bytes_one p) (by unfold maxLen; omega) (by omega) (by simp)
  rw [Nat.zero_add, List.nil_append] at ho1
  have hfa : Fr [] w w2 := (Fr.alloc1 w _).andThen hf1 (by simp [Value.ownBlock])
  obtain ⟨v2, w3, hr2, ho2, hf2, hn2⟩ := run_append_slc (P := Try.prog) (t := 23) (ty := ty2) Try.underlying23 Try.info5 rfl (by decide) ho1 (b1.kept hfa) (by simp) (bytes_one q) (by unfold maxLen; omega) (by omega) (by have := hf1.size; simp at this; omega)
  refine ⟨v1, w2, v2, w3, hr1, hr2, fun S hS => ?_, hfa, hfa.andThen hf2 (fun x hx => .inr ?_)⟩
  · have := Slc.ofOwns (S := S) ho2 hS
    unfold Bytes
    rw [List.length_append, List.map_append]
    exact this
  · cases hb : v1.ownBlock with
    | none => rw [hb] at hx; cases hx
    | some g => rw [hb] at hx; simp at hx; rw [hx]; exact (ho1.lt g hb).1

theorem rst_end {D : Dv} (hf : D.fine) (keep : List Int) (torn cut : Int) : ({ rstUp D keep torn cut D.n with off := false, fuse := -1 } : Dv) = restartD D keep torn cut := by
  rw [← rst_all hf]
  have hc : (rstUp D keep torn cut D.n).cache = fun _ => none := by
    funext j
    unfold rstUp
    simp only
    by_cases hj : j ∈ upto D.n
    · rw [if_pos hj]
    · rw [if_neg hj]
      cases hc : D.cache j with
      | none => rfl
      | some l =>
        have := hf.keysC j l hc
        exfalso
        apply hj
        unfold upto
        exact List.mem_map.2 ⟨j.toNat, List.mem_range.2 (by omega), by show ((j.toNat : Nat) : Int) = j; omega⟩
  unfold wakeD
  rw [← hc]

theorem bytes_some {S : List Nat} {w : World} {a : Option Addr} {n c : Nat} {l : List UInt8} (h : Bytes S w (.slice a n c) l) (hl : l.length = 1024) : n = 1024 ∧ 1024 ≤ c ∧ ∃ B o, a = some ⟨B, o, none⟩ := by
  rcases h with ⟨_, _, _, h0, _⟩ | ⟨B, o, cap, h, hc, _⟩
  · omega
  · cases h
    exact ⟨hl, by omega, B, o, rfl⟩
theorem bytes_lo {S : List Nat} {w : World} {B o q c : Nat} {l : List UInt8} (h : Bytes S w (.slice (some ⟨B, o, none⟩) 1024 q) l) (hl : l.length = 1024) (hc : c ≤ 1024) (hq : 1024 ≤ q) :
    Bytes S w (.slice (some ⟨B, if q = c then o else o + c, none⟩) (1024 - c) (q - c)) (l.drop c) := by
  by_cases e : q = c
  · rw [if_pos e, List.drop_of_length_le (by omega), show 1024 - c = 0 by omega]
    exact .inl ⟨_, _, rfl, rfl, rfl, fun h => by cases h⟩
  · rw [if_neg e]; exact h.drop (by omega)

set_option maxRecDepth 100000 in
set_option maxHeartbeats 4000000 in
theorem rrestart_k {r LB CB IB : Nat} {D : Dv} {kv : Value} {keep : List Int} (torn cut : Int) (w : World) (h : RefAt w r LB CB IB D) (hk : Ints [r, LB, CB, IB] w kv keep) (hlen : keep.length ≤ 9223372036854775807) :
    Calls Try.prog 38 #[refP r, kv, .int .i64 torn, .int .i64 cut] w fun e w' => e = .returned (.tuple #[]) ∧ RefAt w' r LB CB IB (restartD D keep torn cut) ∧ Fr [r, LB, CB, IB] w w' := by
  obtain ⟨ka, kc, rfl, _⟩ := Slc.form hk
  obtain ⟨c0, c1, c2, c3, c4⟩ := h.cells
  have HH := Lib.hid h
  have HK := Lib.hid hk
  clear h hk
  obtain ⟨c, hc⟩ : ∃ c, clampN cut = c := ⟨_, rfl⟩
  have hcl : c ≤ 1024 := by rw [← hc]; exact clampN_le cut
  have HC := Lib.hid hc
  have hcut : (cut < 0 ∧ c = 0) ∨ (1024 < cut ∧ c = 1024) ∨ (0 ≤ cut ∧ cut ≤ 1024 ∧ cut = c) := by unfold clampN at hc; omega
  clear hc
  go_enter Try.func38, Try.ntmps38
  go_upto_if 11 with fail
  go_cut [3] from 10 to 13 (fun p wx => p = .int .i64 (max cut 0) ∧ w = wx)
  case first =>
    rcases hcut with ⟨h0, rfl⟩ | ⟨h0, rfl⟩ | ⟨h0, h1, rfl⟩
    all_goals
      go_wp2_with fail
      go_meet
      exact ⟨by congr 1; omega, rfl⟩
  case rest =>
    obtain ⟨rfl, rfl⟩ := hcut
    go_upto_if 13 with fail
    go_cut [3] from 12 to 13 (fun p wx => p = .int .i64 c ∧ w = wx)
    case first =>
      rcases hcut with ⟨h0, h2⟩ | ⟨h0, h2⟩ | ⟨h0, h1, h2⟩
      · have e : max cut 0 = 0 := by omega
        rw [e]
        go_wp2_with fail
        go_meet
        exact ⟨by congr 1; omega, rfl⟩
      · have e : max cut 0 = cut := by omega
        rw [e]
        go_wp2_with fail
        go_meet
        exact ⟨by congr 1; omega, rfl⟩
      · have e : max cut 0 = cut := by omega
        rw [e]
        go_wp2_with fail
        go_meet
        exact ⟨by congr 1, rfl⟩
    case rest =>
    obtain ⟨rfl, rfl⟩ := hcut
    clear hcut
    go_wp2_with fail
    go_loopw [8] (fun i wr => ∃ k : Nat, k ≤ D.n ∧ i = .int .i64 k ∧ RefAt wr r LB CB IB (rstUp D keep torn cut k) ∧ Fr [LB, IB] w wr) (fun i _ => D.n - (intOf i).toNat)
    case atStart => exact ⟨0, Nat.zero_le _, rfl, by rw [rstUp_zero]; exact HH.out, Fr.refl _ _⟩
    case round =>
      obtain ⟨k, hkl, rfl, hrf, hfr⟩ := hrel
      have hn4 : D.n ≤ 4096 := HH.out.fine.n4
      have hn : (rstUp D keep torn cut k).n = D.n := rfl
      by_cases hlt : k < D.n
      · have hkI : (k : Int) < (D.n : Int) := by omega
        have hat := rstUp_at D keep torn cut k
        have hHI := Lib.hid ((HK.out.kept (hfr.mono (by simp))).mono (S' := []) (by simp))
        have HFR := Lib.hid hfr
        have hne : LB ≠ IB := hrf.nes.2.2.2.2.1
        have hne2 : IB ≠ LB := Ne.symm hne
        have hrL : r ≠ LB := hrf.nes.1
        obtain ⟨c0, c1, c2, _, _⟩ := hrf.cells
        rw [hn] at c0 c1 c2
        have cI := hrf.atIs (k := k) hlt
        have fI := blk_free hrf.isB k
        rw [hat.1] at cI
        cases hck : D.cache k with
        | none =>
          rw [hck] at cI
          simp only [Option.isSome_none] at cI
          have hst := rstUp_none (D := D) (keep := keep) (torn := torn) (cut := cut) (k := k) (by unfold rstLast; rw [hck])
          have hfin := hrf.toNone k
          rw [← hst] at hfin
          have HFIN := Lib.hid hfin
          clear hfin hst hrf hat hfr hn hck
          go_wp2_with fail
          refine (in_k (k : Int) _ hHI.out hlen).mono ?_
          rintro e w' ⟨rfl, rfl⟩
          go_wp2
          go_roundw
          case rel => exact ⟨k + 1, by omega, by go_num, HFIN.out.1, HFR.out.trans HFIN.out.2⟩
          case measure => simp [intOf]; omega
        | some l =>
          rw [hck] at cI
          simp only [Option.isSome_some] at cI
          have hc' : (rstUp D keep torn cut k).cache k = some l := by rw [hat.1, hck]
          obtain ⟨v, cv, hb⟩ := hrf.atCache hlt hc'
          have hl := (hrf.fine.keysC _ _ hc').2.2
          obtain ⟨VL, hVL, _⟩ := hrf.lastB
          have cL := blk_cell hVL k
          rw [rowOf_get (by exact hlt)] at cL
          have fL := blk_free hVL k
          by_cases hkk : (k : Int) ∈ keep
          · have hst : rstUp D keep torn cut (k + 1) = _ := rstUp_succ
            have hls : rstLast D keep torn cut k = some l := by unfold rstLast; rw [hck]; simp [hkk]
            rw [hls] at hst
            have hfin := hrf.toLast hlt (Fr.refl [] wr) hb hl
            rw [← hst] at hfin
            have HFIN := Lib.hid hfin
            obtain ⟨va, vc, rfl, _⟩ := Slc.form hb
            have HKK := Lib.hid (decide_eq_true hkk)
            clear hfin hst hls hb hl hc' hrf hat hfr hn hck hVL hkk
            go_wp2_with fail
            refine (in_k (k : Int) _ hHI.out hlen).mono ?_
            rintro e w' ⟨rfl, rfl⟩
            rw [HKK.out]
            go_wp2_with fail
            go_region
            go_wp2
            go_roundw
            case rel => exact ⟨k + 1, by omega, by go_num, HFIN.out.1.drew, (HFR.out.trans HFIN.out.2).drew⟩
            case measure => simp [intOf]; omega
          · have HKK := Lib.hid (decide_eq_false hkk)
            by_cases htn : (k : Int) = torn
            · subst htn
              have hst : rstUp D keep k cut (k + 1) = _ := rstUp_succ
              have hls : rstLast D keep k cut k = some (tornB D l k cut) := by unfold rstLast; rw [hck]; simp only; rw [if_neg hkk]; simp
              rw [hls] at hst
              obtain ⟨vl, cvl, hbl⟩ := hrf.atLast hlt
              rw [hat.2] at hbl
              have hml : ((D.last k).getD zeros).length = 1024 := by
                cases hd : D.last k with
                | none => exact zeros_length
                | some x => exact (HH.out.fine.keysL _ _ hd).2.2
              have htb := tornB_length HH.out.fine hl k cut
              have htd : tornB D l k cut = l.take c ++ ((D.last k).getD zeros).drop c := by unfold tornB; rw [HC.out]
              rw [htd] at htb hst
              generalize (D.last k).getD zeros = m at *
              obtain ⟨va, vc, rfl, _⟩ := Slc.form hb
              obtain ⟨la, lc, rfl, _⟩ := Slc.form hbl
              rw [hl] at hb cv
              rw [hml] at hbl cvl
              obtain ⟨_, hq3, B3, o3, rfl⟩ := bytes_some hb hl
              obtain ⟨_, hq4, B4, o4, rfl⟩ := bytes_some hbl hml
              have hbp := Bytes.take hb (k := c) (by omega)
              have hbq := bytes_lo hbl hml hcl hq4
              obtain ⟨v1, w2, v2, w3, hra, hrb, hj, hfa, hfb⟩ := joined_run (w := wr.drew) (by rw [List.length_append] at htb; omega) ((hbp.kept (Fr.refl _ wr).drew).mono (S' := []) (by simp)) ((hbq.kept (Fr.refl _ wr).drew).mono (S' := []) (by simp)) 23 23
              have hrd := hrf.drew
              have hj4 := hj [r, LB, CB, IB] (by have := hrd.lt; intro x hx; simp only [List.mem_cons, List.not_mem_nil, or_false] at hx; omega)
              have hfin := hrd.toLast hlt hfb hj4 htb
              rw [← hst] at hfin
              have HFIN := Lib.hid hfin
              obtain ⟨p2, q2, rfl, _⟩ := Slc.form hj4
              rw [htb] at hrb HFIN hj4
              have hh2 : w2.cell? ⟨r, 0, none⟩ = some (.slice (some ⟨LB, 0, none⟩) D.n D.n) ∧ w2.cell? ⟨r, 1, none⟩ = some (.slice (some ⟨CB, 0, none⟩) D.n D.n) ∧ w2.cell? ⟨CB, k, none⟩ = some (.slice (some ⟨B3, o3, none⟩) 1024 vc) :=
                ⟨hfa.cellSome (w := wr.drew) c0 (by simp), hfa.cellSome (w := wr.drew) c1 (by simp), hfa.cellSome (w := wr.drew) cv (by simp)⟩
              have hh3 : w3.cell? ⟨r, 0, none⟩ = some (.slice (some ⟨LB, 0, none⟩) D.n D.n) ∧ w3.cell? ⟨r, 1, none⟩ = some (.slice (some ⟨CB, 0, none⟩) D.n D.n) ∧ w3.cell? ⟨CB, k, none⟩ = some (.slice (some ⟨B3, o3, none⟩) 1024 vc) :=
                ⟨hfb.cellSome (w := wr.drew) c0 (by simp), hfb.cellSome (w := wr.drew) c1 (by simp), hfb.cellSome (w := wr.drew) cv (by simp)⟩
              have c23 := hfb.cellSome (w := wr.drew) c2 (by simp)
              have h3 := hrd.kept hfb
              obtain ⟨VL3, hVL3, _⟩ := h3.lastB
              have fL3 := blk_free hVL3 k
              have fI3 := blk_free h3.isB k
              have cI3 := hfb.cellSome (w := wr.drew) cI (by simp)
              have HRA := Lib.hid hra
              have HRB := Lib.hid hrb
              have HH2 := Lib.hid hh2
              have HH3 := Lib.hid hh3
              have HRD := Lib.hid (Fr.refl [LB, IB] wr).drew
              have cL3 := hfb.cellSome (w := wr.drew) cvl (by simp)
              have cL2 := hfa.cellSome (w := wr.drew) cvl (by simp)
              have cLa := (Fr.alloc1 wr (.cells #[] 5)).cellSome cvl (by simp)
              have hst4 := Fr.setCell w3 ⟨LB, k, none⟩ (.slice p2 1024 q2)
              have HH4 := Lib.hid (And.intro (hst4.cellSome hh3.1 (by simpa using hrL)) (And.intro (hst4.cellSome hh3.2.1 (by simpa using hrL)) (hst4.cellSome hh3.2.2 (by simpa using hrf.nes.2.2.2.1.symm))))
              have c03 := hh3.1
              have hci : (c : Int) ≤ 1024 := by omega
              have hcq : (c : Int) ≤ (vc : Int) := by omega
              have hcq4 : (c : Int) ≤ (lc : Int) := by omega
              clear hfin hst hls htd htb hb hbl hc' hrf hat hfr hn hck hVL hVL3 hkk hj hj4 hrd h3 hra hrb hbp hbq hfa hfb cL hml hl hh2 hh3 hst4
              by_cases hqc : lc = c
              · subst hqc
                rw [if_pos rfl, Nat.sub_self, show 1024 - lc = 0 by omega] at HRB
                go_wp2_with fail
                refine (in_k (k : Int) _ hHI.out hlen).mono ?_
                rintro e w' ⟨rfl, rfl⟩
                rw [HKK.out]
                go_wp2_with fail
                rw [show Op.load 23 (.tmp 82) = ldOp 23 82 from rfl]
                go_region_held3 (fun w' => w'.cell? ⟨r, 0, none⟩ = some (.slice (some ⟨LB, 0, none⟩) D.n D.n) ∧ w'.cell? ⟨r, 1, none⟩ = some (.slice (some ⟨CB, 0, none⟩) D.n D.n) ∧ w'.cell? ⟨CB, k, none⟩ = some (.slice (some ⟨B3, o3, none⟩) 1024 vc))
                  (first | exact HH2.out | exact HH3.out | exact HH4.out | go_keep)
                  (first
                    | (refine step_append_run2 (vs := .slice (some ⟨wr.heap.size, 0, none⟩) 0 0) (vx := .slice (some ⟨B3, o3, none⟩) lc vc) rfl _ _ _ _ rfl rfl rfl HRA.out ?_)
                    | (refine step_append_run2 (vs := v1) (vx := .slice (some ⟨B4, o4, none⟩) 0 0) rfl _ _ _ _ rfl rfl rfl HRB.out ?_))
                all_goals
                  go_wp2
                  go_roundw
                  case rel => exact ⟨k + 1, by omega, by go_num, HFIN.out.1, HFR.out.trans (HRD.out.trans HFIN.out.2)⟩
                  case measure => simp [intOf]; omega
              · go_wp2_with fail
                refine (in_k (k : Int) _ hHI.out hlen).mono ?_
                rintro e w' ⟨rfl, rfl⟩
                rw [HKK.out]
                rw [if_neg hqc] at HRB
                go_wp2_with fail
                rw [show Op.load 23 (.tmp 82) = ldOp 23 82 from rfl]
                go_region_held3 (fun w' => w'.cell? ⟨r, 0, none⟩ = some (.slice (some ⟨LB, 0, none⟩) D.n D.n) ∧ w'.cell? ⟨r, 1, none⟩ = some (.slice (some ⟨CB, 0, none⟩) D.n D.n) ∧ w'.cell? ⟨CB, k, none⟩ = some (.slice (some ⟨B3, o3, none⟩) 1024 vc))
                  (first | exact HH2.out | exact HH3.out | exact HH4.out | go_keep)
                  (first
                    | (refine step_append_run2 (vs := .slice (some ⟨wr.heap.size, 0, none⟩) 0 0) (vx := .slice (some ⟨B3, o3, none⟩) c vc) rfl _ _ _ _ rfl rfl rfl HRA.out ?_)
                    | (refine step_append_run2 (vs := v1) (vx := .slice (some ⟨B4, o4 + c, none⟩) (1024 - c) (lc - c)) rfl _ _ _ _ rfl rfl rfl HRB.out ?_))
                all_goals
                  go_wp2
                  go_roundw
                  case rel => exact ⟨k + 1, by omega, by go_num, HFIN.out.1, HFR.out.trans (HRD.out.trans HFIN.out.2)⟩
                  case measure => simp [intOf]; omega
            · have hst := rstUp_none (D := D) (keep := keep) (torn := torn) (cut := cut) (k := k) (by unfold rstLast; rw [hck]; simp [hkk, htn])
              have hfin := hrf.toNone k
              rw [← hst] at hfin
              have HFIN := Lib.hid hfin
              clear hfin hst hrf hat hfr hn hck hb hc' hkk hVL
              go_wp2_with fail
              refine (in_k (k : Int) _ hHI.out hlen).mono ?_
              rintro e w' ⟨rfl, rfl⟩
              rw [HKK.out]
              go_wp2
              go_roundw
              case rel => exact ⟨k + 1, by omega, by go_num, HFIN.out.1, HFR.out.trans HFIN.out.2⟩
              case measure => simp [intOf]; omega
      · have hkn : k = D.n := by omega
        subst hkn
        obtain ⟨c0, _, _, _, _⟩ := hrf.cells
        rw [hn] at c0
        obtain ⟨left, hblk, _⟩ := hrf.blk
        have f3 := blk_free hblk 3
        have f4 := blk_free hblk 4
        have c3 := blk_cell hblk 3
        have c4 := blk_cell hblk 4
        have hfs := (Fr.setCell wr ⟨r, 3, none⟩ (.bool false)).trans (Fr.setCell _ ⟨r, 4, none⟩ (.bool false))
        have hfin := hrf.written (w' := (wr.setCell ⟨r, 3, none⟩ (.bool false)).setCell ⟨r, 4, none⟩ (.bool false)) false (-1) left hfs (by omega) (by omega) (by omega) (by rw [blk_set (blk_set hblk 3 _) 4 _]; rfl)
        rw [rst_end HH.out.fine] at hfin
        have HFIN := Lib.hid (And.intro hfin hfs)
        have HFR := Lib.hid hfr
        clear hfin hfs hrf hfr hblk
        go_wp2
        go_end0
        exact ⟨rfl, HFIN.out.1, (HFR.out.mono (fun x hx _ => by simp only [List.mem_cons, List.not_mem_nil, or_false] at hx ⊢; omega)).trans (HFIN.out.2.mono (fun x hx _ => by simp only [List.mem_cons, List.not_mem_nil, or_false] at hx ⊢; omega))⟩
end Go.Proofs.Ytgockpichhgijaa
