/- A store's plain theory: a script. -/
import Derived.Test.YtgpeoonpoogniaaGD
import Derived.Test.YtgpeoonpoogniaaGH
namespace Go.Proofs.Ytgpeoonpoogniaa
open Go.RowKit Go.MapKept

/-- A store between a script's calls. -/
structure StD.Live (T : StD) : Prop where
  run : T.Run
  calm : T.dev.calm
  holds : Holds T.dev T.super T.lists T.base
  bare : T.super.bare
theorem superPg_bare (ep root depth count high next : Int) : (superPg ep root depth count high next).bare := ⟨rfl, rfl, rfl, rfl⟩
theorem StD.Live.step {T T' : StD} (h : T.Live) (hs : T.Step T') : T'.Live := by
  refine ⟨hs.run, hs.calm, ?_, by rw [hs.super]; exact h.bare⟩
  rw [hs.super, hs.lists, hs.base]
  exact h.holds.step hs.n (by rw [hs.calm.off, h.calm.off]) (fun j hj => (hs.bytes j hj).1)
theorem StD.Told.live {T T' : StD} {r d c : Int} (h : T.Told r d c T') : T'.Live := ⟨h.run, h.calm, h.holds, by rw [h.super]; exact superPg_bare _ _ _ _ _ _⟩
theorem StD.Live.lists {T : StD} (h : T.Live) : ∀ x ∈ T.lists, ¬ T.base.opn x := fun x hx ho => by
  have h1 := h.holds.lists x hx
  rcases ho.2 with h2 | h2
  · omega
  · exact h1.2.2 h2
theorem chain_len {D : Dv} {ls' : List Int} {ll' : List (List Int)} : ∀ (f : Nat) (ls : List Int) (ll : List (List Int)) (n : Int), chainD D f ls ll n = some (ls', ll') → ls'.length ≤ f + ls.length
  | 0, ls, ll, n, h => by cases h
  | f + 1, ls, ll, n, h => by
    unfold chainD at h
    split at h
    · cases h; omega
    · split at h
      · cases h
      · have := chain_len f _ _ _ h
        rw [List.length_append, List.length_singleton] at this
        omega
theorem StD.Live.len {T : StD} (h : T.Live) : T.lists.length ≤ 4098 := by
  obtain ⟨ll, hc, _⟩ := h.holds.chain
  have := chain_len _ _ _ _ hc
  have := h.calm.fine.n4
  simp only [List.length_nil] at *
  omega
theorem StD.Live.hold {T : StD} (h : T.Live) : beI ((T.dev.bytes (1 - (T.super.epoch + 1) % 2)).take 8) < T.super.epoch + 1 := by
  have h1 := dec_ep h.holds.dec (by omega)
  have e : 1 - (T.super.epoch + 1) % 2 = T.super.epoch % 2 := by omega
  rw [e, ← h1]
  omega
/-- A commit: refused, and all is as it was but for what was not committed; or told OK. -/
theorem StD.Live.commit {T : StD} (h : T.Live) (he : T.super.epoch < 4611686018427387903) (r d c : Int) :
    (((T.commit r d c).1 = 50 ∨ (T.commit r d c).1 = 60) ∧ T.Step (T.commit r d c).2) ∨ ((T.commit r d c).1 = 0 ∧ T.Told r d c (T.commit r d c).2) := by
  rcases h.run.commit h.calm h.lists ⟨by have := h.holds.ep; omega, he⟩ h.hold r d c with ⟨h1, h2⟩ | h1
  · exact .inl ⟨h1.elim (fun h => .inl h.1) (fun h => .inr h.1), h2⟩
  · exact .inr h1
theorem StD.Live.open {T : StD} (h : T.Live) : openD T.dev = (0, some ⟨T.dev, T.super, T.lists, T.base, T.base, fun _ => false⟩) := h.holds.open h.calm.off h.calm.fine
theorem StD.Live.format {n : Nat} (h2 : 2 ≤ n) (h4 : n ≤ 4096) : (formatD (Dv.new n)).1 = 0 ∧ (formatD (Dv.new n)).2.Live ∧ (formatD (Dv.new n)).2.super.epoch = 1 ∧ (formatD (Dv.new n)).2.dev.n = n := by
  have h := format_ok h2 h4
  exact ⟨h.1, h.2.live, by rw [h.2.super]; rfl, by rw [h.2.n]; rfl⟩

/-- A call of a script, as far as a store alone is concerned. -/
structure CallS where
  kind : Int
  n : Int
  m : Int
  count : Int
  p : PageD
def fewB (p : PageD) : Bool := decide (p.pairs.length ≤ 300) && decide (p.keys.length ≤ 300) && decide (p.kids.length ≤ 300) && decide (p.pages.length ≤ 300) && p.pairs.all (fun x => decide (x.1.size ≤ 200) && decide (x.2.size ≤ 200)) && p.keys.all fun x => decide (x.size ≤ 200)
theorem fewB_small {p : PageD} (h : fewB p = true) : p.small := by
  unfold fewB at h
  simp only [Bool.and_eq_true, decide_eq_true_eq] at h
  exact ⟨by omega, by omega, by omega, by omega⟩
def stepT (T : StD) (c : CallS) : StD :=
  if fewB c.p = true then
    (if c.kind = 1 then (T.lay c.n c.p).2.2 else if c.kind = 2 then (T.drop c.n).2 else if c.kind = 4 then (T.commit c.n c.m c.count).2 else if c.kind = 5 then T.abort else T)
  else T
def doneT (T : StD) (cs : List CallS) : StD := (cs.take 40).foldl stepT T
theorem StD.Live.stepT {T : StD} (h : T.Live) {E : Int} (he : T.super.epoch ≤ E) (hE : E < 4611686018427387903) (c : CallS) : (stepT T c).Live ∧ (stepT T c).super.epoch ≤ E + 1 ∧ (stepT T c).dev.n = T.dev.n := by
  have keep : ∀ {T' : StD}, T.Step T' → T'.Live ∧ T'.super.epoch ≤ E + 1 ∧ T'.dev.n = T.dev.n := fun hs => ⟨h.step hs, by rw [hs.super]; omega, hs.n⟩
  have same : T.Live ∧ T.super.epoch ≤ E + 1 ∧ T.dev.n = T.dev.n := ⟨h, by omega, rfl⟩
  unfold Go.Proofs.Ytgpeoonpoogniaa.stepT
  split
  · split
    · exact keep (h.run.lay h.calm c.n c.p).1
    · split
      · exact keep (h.run.toDrop h.calm c.n)
      · split
        · rcases h.commit (by omega) c.n c.m c.count with ⟨_, h1⟩ | ⟨_, h1⟩
          · exact keep h1
          · refine ⟨h1.live, ?_, h1.n⟩
            rw [h1.super]
            show T.super.epoch + 1 ≤ E + 1
            omega
        · split
          · exact keep (h.run.toAbort h.calm)
          · exact same
  · exact same
theorem StD.Live.foldT {T : StD} (h : T.Live) : ∀ (k : Nat) (cs : List CallS), k ≤ 1000 → cs.length ≤ k → T.super.epoch ≤ 1 → (cs.foldl Go.Proofs.Ytgpeoonpoogniaa.stepT T).Live ∧ (cs.foldl Go.Proofs.Ytgpeoonpoogniaa.stepT T).super.epoch ≤ 1 + cs.length ∧ (cs.foldl Go.Proofs.Ytgpeoonpoogniaa.stepT T).dev.n = T.dev.n := by
  intro k cs hk hc he
  have key : ∀ (cs : List CallS) (T : StD) (E : Int), T.Live → T.super.epoch ≤ E → E + cs.length < 4611686018427387903 → (cs.foldl Go.Proofs.Ytgpeoonpoogniaa.stepT T).Live ∧ (cs.foldl Go.Proofs.Ytgpeoonpoogniaa.stepT T).super.epoch ≤ E + cs.length ∧ (cs.foldl Go.Proofs.Ytgpeoonpoogniaa.stepT T).dev.n = T.dev.n := by
    intro cs
    induction cs with
    | nil => intro T E h h1 _; exact ⟨h, by simpa using h1, rfl⟩
    | cons c cs ih =>
      intro T E h h1 h2
      rw [List.length_cons] at h2
      obtain ⟨s1, s2, s3⟩ := h.stepT h1 (by omega) c
      obtain ⟨i1, i2, i3⟩ := ih _ (E + 1) s1 s2 (by omega)
      rw [List.foldl_cons, List.length_cons]
      exact ⟨i1, by omega, i3.trans s3⟩
  exact key cs T 1 h he (by omega)
end Go.Proofs.Ytgpeoonpoogniaa


/- A store's plain theory: a page of its own, laid and laid again. -/
namespace Go.Proofs.Ytgpeoonpoogniaa
open Go.RowKit Go.MapKept

/-- A page that is laid in no page's place: the store is full, or the page is one that was not laid before. -/
theorem StD.Run.lay_new {T : StD} (h : T.Run) (hc : T.dev.calm) {p : PageD} (hk : p.check = true) (h4 : p.kind ≠ 4) :
    (T.lay 0 p).2.1 = 60 ∨ ((T.lay 0 p).2.1 = 0 ∧ T.fresh (T.lay 0 p).1 = false ∧ (T.lay 0 p).1 < (T.dev.n : Int) ∧ ∀ k, (T.lay 0 p).2.2.fresh k = (decide (k = (T.lay 0 p).1) || T.fresh k)) := by
  have hb : ¬ (p.check = false ∨ p.kind = 4) := by rintro (h | h); (rw [hk] at h; cases h); exact h4 h
  have hf : ¬ T.fresh 0 = true := fun hf => by have := (h.fresh 0 hf).1.1; omega
  obtain ⟨p1, p2, p3, p4, p5, p6⟩ := h.place hc 0
  by_cases h0 : T.take.2.1 = 0
  · obtain ⟨t1, t2, t3, t4, t5, t6, t7, t8, t9, t10, t11, t12⟩ := h.take h0
    have ep : T.place 0 = (T.take.1, 0, T.take.2.2) := by unfold StD.place; rw [if_neg hf, if_pos (.inr rfl), h0]
    rw [ep] at p1 p2 p4
    have hn4 := hc.fine.n4
    have hhi := p1.run.good.pool.hi
    rw [p1.n] at hhi
    have hok : p.okAt T.take.1 = true := by
      unfold PageD.okAt
      rw [hk, if_neg h4]
      have := t6.1
      have : T.take.1 < T.take.2.2.pool.high := t7
      rw [placeB_iff.2 ⟨by omega, by dsimp only at hhi; omega⟩]; rfl
    have hlt : T.take.1 < (T.take.2.2.dev.n : Int) := by
      have : T.take.2.2.dev.n = T.dev.n := p1.n
      rw [this]; dsimp only at hhi; omega
    have hge : 0 ≤ T.take.1 := by have := t6.1; omega
    have hw := p1.run.write p1.calm hok hge hlt
    have e : T.lay 0 p = (T.take.1, 0, (T.take.2.2.write T.take.1 p).2) := by
      unfold StD.lay
      rw [if_neg hb, ep, if_neg (by simp)]
      dsimp only
      rw [if_neg (by simp [hw.1])]
    rw [e]
    refine .inr ⟨rfl, t8, by dsimp only; rw [← p1.n]; exact hlt, fun k => ?_⟩
    show (T.take.2.2.write T.take.1 p).2.fresh k = _
    rw [hw.2.1]; exact t9 k
  · have hq := StD.take_fail h0
    have ep : T.place 0 = (T.take.1, 60, T) := by unfold StD.place; rw [if_neg hf, if_pos (.inl h0), hq.1, hq.2]
    have e : T.lay 0 p = (0, 60, T.end 60) := by unfold StD.lay; rw [if_neg hb, ep, if_pos (by simp)]
    rw [e]
    exact .inl rfl
/-- A page that is laid in the place of one that was laid since the last commit stays there. -/
theorem StD.Run.lay_again {T : StD} (h : T.Run) (hc : T.dev.calm) {p : PageD} (hk : p.check = true) (h4 : p.kind ≠ 4) {n : Int} (hf : T.fresh n = true) :
    (T.lay n p).1 = n ∧ (T.lay n p).2.1 = 0 ∧ ∀ k, (T.lay n p).2.2.fresh k = T.fresh k := by
  have hb : ¬ (p.check = false ∨ p.kind = 4) := by rintro (h | h); (rw [hk] at h; cases h); exact h4 h
  have ep : T.place n = (n, 0, T) := by unfold StD.place; rw [if_pos hf]
  have h1 := h.fresh n hf
  have hn4 := hc.fine.n4
  have hhi := h.good.pool.hi
  have hok : p.okAt n = true := by
    unfold PageD.okAt
    rw [hk, if_neg h4]
    have := h1.1.1
    have := h1.2.1
    rw [placeB_iff.2 ⟨by omega, by omega⟩]; rfl
  have hw := h.write hc hok (by have := h1.1.1; omega) (by have := h1.2.1; omega)
  have e : T.lay n p = (n, 0, (T.write n p).2) := by
    unfold StD.lay
    rw [if_neg hb, ep, if_neg (by simp)]
    dsimp only
    rw [if_neg (by simp [hw.1])]
  rw [e]
  refine ⟨rfl, rfl, fun k => ?_⟩
  show (T.write n p).2.fresh k = _
  rw [hw.2.1]
end Go.Proofs.Ytgpeoonpoogniaa


/- A store's plain theory: what a restart leaves. -/
namespace Go.Proofs.Ytgpeoonpoogniaa
open Go.RowKit Go.MapKept

theorem Dv.fine.len {D : Dv} (h : D.fine) (j : Int) : (D.bytes j).length = 1024 := by
  unfold Dv.bytes
  cases hc : D.cache j with
  | some l => exact (h.keysC j l hc).2.2
  | none =>
    cases hl : D.last j with
    | some l => exact (h.keysL j l hl).2.2
    | none => exact zeros_length
theorem Dv.fine.lastLen {D : Dv} (h : D.fine) (j : Int) : ((D.last j).getD zeros).length = 1024 := by
  cases hl : D.last j with
  | some l => exact (h.keysL j l hl).2.2
  | none => exact zeros_length
/-- What was not written since the last commit is on the disk; the other superblock is whole. -/
structure StD.clean (T : StD) : Prop where
  cache : ∀ j, ¬ T.base.opn j → T.dev.cache j = none
  slot : (T.dev.bytes (1 - T.super.epoch % 2)).take 8 = (T.dev.bytes (1 - T.super.epoch % 2)).drop 1016
theorem opn_two {b : PoolD} {j : Int} (h : j < 2) : ¬ b.opn j := fun ho => by have := ho.1; omega
theorem StD.clean.step {T T' : StD} (h : T.clean) (hs : T.Step T') : T'.clean := by
  refine ⟨fun j hj => ?_, ?_⟩
  · rw [hs.base] at hj
    rw [(hs.bytes j hj).2]; exact h.cache j hj
  · rw [hs.super, (hs.bytes _ (opn_two (by omega))).1]; exact h.slot
theorem StD.Told.clean {T T' : StD} {r d c : Int} (ht : T.Told r d c T') (hz : (T.dev.bytes (T.super.epoch % 2)).take 8 = (T.dev.bytes (T.super.epoch % 2)).drop 1016) : T'.clean := by
  refine ⟨fun j _ => ht.synced j, ?_⟩
  have e : 1 - T'.super.epoch % 2 = T.super.epoch % 2 := by
    rw [ht.super]
    show 1 - (T.super.epoch + 1) % 2 = _
    omega
  rw [e, ht.slot]; exact hz
theorem StD.Live.whole {T : StD} (h : T.Live) : (T.dev.bytes (T.super.epoch % 2)).take 8 = (T.dev.bytes (T.super.epoch % 2)).drop 1016 := by
  have := dec_epoch h.holds.dec (by omega)
  rw [this.1, this.2]
theorem StD.clean.stepT {T : StD} (h : T.clean) (hL : T.Live) (he : T.super.epoch < 4611686018427387903) (c : CallS) : (stepT T c).clean := by
  unfold Go.Proofs.Ytgpeoonpoogniaa.stepT
  split
  · split
    · exact h.step (hL.run.lay hL.calm c.n c.p).1
    · split
      · exact h.step (hL.run.toDrop hL.calm c.n)
      · split
        · rcases hL.commit he c.n c.m c.count with ⟨_, h1⟩ | ⟨_, h1⟩
          · exact h.step h1
          · exact h1.clean hL.whole
        · split
          · exact h.step (hL.run.toAbort hL.calm)
          · exact h
  · exact h
theorem StD.clean.fold : ∀ (cs : List CallS) (T : StD) (E : Int), T.clean → T.Live → T.super.epoch ≤ E → E + cs.length < 4611686018427387903 → (cs.foldl Go.Proofs.Ytgpeoonpoogniaa.stepT T).clean
  | [], _, _, h, _, _, _ => h
  | c :: cs, T, E, h, hL, h1, h2 => by
    rw [List.length_cons] at h2
    obtain ⟨s1, s2, _⟩ := hL.stepT h1 (by omega) c
    exact StD.clean.fold cs _ (E + 1) (h.stepT hL (by omega) c) s1 s2 (by omega)
theorem StD.clean.format {n : Nat} (h2 : 2 ≤ n) (h4 : n ≤ 4096) : (formatD (Dv.new n)).2.clean := (format_ok h2 h4).2.clean (by
  show (zeros).take 8 = zeros.drop 1016
  decide +kernel)

/-- What a restart keeps of a sector. -/
theorem keepAll_at (j : Int) : ∀ (keep : List Int) (D : Dv), (keepAll D keep).n = D.n ∧ (((keepAll D keep).cache j = D.cache j ∧ (keepAll D keep).last j = D.last j) ∨ ∃ l, D.cache j = some l ∧ (keepAll D keep).cache j = none ∧ (keepAll D keep).last j = some l)
  | [], D => ⟨rfl, .inl ⟨rfl, rfl⟩⟩
  | k :: keep, D => by
    have h := keepAll_at j keep (keepStep D k)
    have e : keepAll D (k :: keep) = keepAll (keepStep D k) keep := rfl
    rw [e]
    have hk : (keepStep D k).n = D.n ∧ (((keepStep D k).cache j = D.cache j ∧ (keepStep D k).last j = D.last j) ∨ ∃ l, D.cache j = some l ∧ (keepStep D k).cache j = none ∧ (keepStep D k).last j = some l) := by
      unfold keepStep
      cases hc : D.cache k with
      | none => exact ⟨rfl, .inl ⟨rfl, rfl⟩⟩
      | some l =>
        refine ⟨rfl, ?_⟩
        by_cases hj : j = k
        · subst hj
          exact .inr ⟨l, hc, upd_same _ _ _, upd_same _ _ _⟩
        · exact .inl ⟨upd_ne _ _ hj, upd_ne _ _ hj⟩
    refine ⟨h.1.trans hk.1, ?_⟩
    rcases hk.2 with ⟨h1, h2⟩ | ⟨l, h1, h2, h3⟩
    · rcases h.2 with ⟨h4, h5⟩ | ⟨l, h4, h5, h6⟩
      · exact .inl ⟨h4.trans h1, h5.trans h2⟩
      · exact .inr ⟨l, h1 ▸ h4, h5, h6⟩
    · right
      rcases h.2 with ⟨h4, h5⟩ | ⟨l', h4, h5, h6⟩
      · exact ⟨l, h1, h4.trans h2, h5.trans h3⟩
      · rw [h2] at h4; cases h4
theorem restart_n (D : Dv) (keep : List Int) (torn cut : Int) : (restartD D keep torn cut).n = D.n ∧ (restartD D keep torn cut).off = false ∧ (restartD D keep torn cut).fuse = -1 ∧ ∀ j, (restartD D keep torn cut).cache j = none := by
  refine ⟨?_, rfl, rfl, fun _ => rfl⟩
  show (tornD (keepAll D keep) torn cut).n = D.n
  unfold tornD
  split
  · exact (keepAll_at 0 keep D).1
  · exact (keepAll_at 0 keep D).1
theorem restart_none {D : Dv} (keep : List Int) (torn cut : Int) {j : Int} (h : D.cache j = none) : (restartD D keep torn cut).bytes j = D.bytes j := by
  have hk := (keepAll_at j keep D).2
  have hk' : (keepAll D keep).cache j = none ∧ (keepAll D keep).last j = D.last j := by
    rcases hk with ⟨h1, h2⟩ | ⟨l, h1, _⟩
    · exact ⟨h1.trans h, h2⟩
    · rw [h] at h1; cases h1
  have e : (tornD (keepAll D keep) torn cut).last j = D.last j := by
    unfold tornD
    split
    · rename_i l hl
      have hj : j ≠ torn := fun e => by subst e; rw [hk'.1] at hl; cases hl
      show upd (keepAll D keep).last torn _ j = _
      rw [upd_ne _ _ hj]; exact hk'.2
    · exact hk'.2
  unfold Dv.bytes
  rw [h]
  show (none : Option (List UInt8)).getD (((tornD (keepAll D keep) torn cut).last j).getD zeros) = _
  rw [e]
theorem restart_some {D : Dv} (keep : List Int) (torn cut : Int) {j : Int} {l : List UInt8} (h : D.cache j = some l) (hl : l.length = 1024) (hz : ((D.last j).getD zeros).length = 1024) : ∃ c, (restartD D keep torn cut).bytes j = l.take c ++ ((D.last j).getD zeros).drop c := by
  have eb : (restartD D keep torn cut).bytes j = ((tornD (keepAll D keep) torn cut).last j).getD zeros := rfl
  rw [eb]
  rcases (keepAll_at j keep D).2 with ⟨h1, h2⟩ | ⟨l', h1, h2, h3⟩
  · by_cases hj : j = torn
    · subst hj
      refine ⟨clampN cut, ?_⟩
      unfold tornD
      rw [h1, h]
      show ((upd (keepAll D keep).last j _ j).getD zeros) = _
      rw [upd_same, h2]; rfl
    · refine ⟨0, ?_⟩
      have e : (tornD (keepAll D keep) torn cut).last j = D.last j := by
        unfold tornD
        split
        · show upd (keepAll D keep).last torn _ j = _
          rw [upd_ne _ _ hj]; exact h2
        · exact h2
      rw [e]; simp
  · rw [h] at h1
    cases h1
    refine ⟨1024, ?_⟩
    have e : (tornD (keepAll D keep) torn cut).last j = some l := by
      unfold tornD
      split
      · rename_i m hm
        have hj : j ≠ torn := fun e => by subst e; rw [h2] at hm; cases hm
        show upd (keepAll D keep).last torn _ j = _
        rw [upd_ne _ _ hj]; exact h3
      · exact h3
    rw [e, List.drop_of_length_le (by omega), List.append_nil, List.take_of_length_le (by omega)]; rfl
end Go.Proofs.Ytgpeoonpoogniaa


/- A store's plain theory: a commit whose power is cut. -/
namespace Go.Proofs.Ytgpeoonpoogniaa
open Go.RowKit Go.MapKept

/-- A device with a fuse; one whose power has gone. -/
def Dv.armed (D : Dv) (F : Int) : Dv := { D with fuse := F }
def Dv.dead (D : Dv) : Dv := { D with off := true, fuse := -1 }
def StD.on (T : StD) (D : Dv) : StD := { T with dev := D }
theorem on_on (T : StD) (D D' : Dv) : (T.on D).on D' = T.on D' := rfl
theorem armed_act {D : Dv} (_ : D.calm) {F : Int} (hF : 0 ≤ F) : (actE (D.armed F) = 40 ∧ actD (D.armed F) = D.dead) ∨ (actE (D.armed F) = 0 ∧ actD (D.armed F) = D.armed (F - 1) ∧ 0 ≤ F - 1) := by
  have e : (D.armed F).fuse = F := rfl
  by_cases h0 : F = 0
  · left
    unfold actE actD
    rw [e, if_pos h0, if_pos h0]
    exact ⟨rfl, rfl⟩
  · right
    unfold actE actD
    rw [e, if_neg h0, if_neg h0, if_pos (by omega)]
    exact ⟨rfl, rfl, by omega⟩
theorem write_armed {D : Dv} (hc : D.calm) {k : Int} {l : List UInt8} (h0 : 0 ≤ k) (h1 : k < D.n) (h2 : l.length = 1024) {F : Int} (hF : 0 ≤ F) :
    (writeE (D.armed F) k l = 40 ∧ writeD (D.armed F) k l = D.dead) ∨ (writeE (D.armed F) k l = 0 ∧ writeD (D.armed F) k l = (writeD D k l).armed (F - 1) ∧ 0 ≤ F - 1) := by
  have hu : useE (D.armed F) k l.length = 0 := hc.use h0 h1 (by omega)
  have hw := (hc.write h0 h1 h2).2
  rw [hw]
  unfold writeE writeD
  rw [if_pos hu, if_pos hu]
  rcases armed_act hc hF with ⟨a1, a2⟩ | ⟨a1, a2, a3⟩
  · left
    rw [a1, a2, if_neg (by decide)]
    exact ⟨rfl, rfl⟩
  · right
    rw [a1, a2, if_pos rfl, pad_full h2]
    exact ⟨rfl, rfl, a3⟩
theorem sync_armed {D : Dv} (hc : D.calm) {F : Int} (hF : 0 ≤ F) :
    (syncE (D.armed F) = 40 ∧ syncD (D.armed F) = D.dead) ∨ (syncE (D.armed F) = 0 ∧ syncD (D.armed F) = (syncD D).armed (F - 1) ∧ 0 ≤ F - 1) := by
  have ho : ¬ (D.armed F).off = true := by show ¬ D.off = true; rw [hc.off]; simp
  rw [hc.sync.2]
  unfold syncE syncD
  rw [if_neg ho, if_neg ho]
  rcases armed_act hc hF with ⟨a1, a2⟩ | ⟨a1, a2, a3⟩
  · left
    rw [a1, a2, if_neg (by decide)]
    exact ⟨rfl, rfl⟩
  · right
    rw [a1, a2, if_pos rfl]
    exact ⟨rfl, rfl, a3⟩
theorem drop_on (T : StD) (D : Dv) (n : Int) : ((T.on D).drop n).2 = ((T.drop n).2).on D := by
  unfold StD.drop
  show (if (if T.fresh n = true then T.pool.back n else T.pool.give n).2 = 0 then _ else _ : Int × StD).2 = _
  by_cases h : (if T.fresh n = true then T.pool.back n else T.pool.give n).2 = 0
  · rw [if_pos h, if_pos h]; rfl
  · rw [if_neg h, if_neg h]
theorem drops_on (D : Dv) : ∀ (l : List Int) (T : StD), (T.on D).drops l = (T.drops l).on D
  | [], _ => rfl
  | x :: l, T => by
    show ((T.on D).drop x).2.drops l = ((T.drop x).2.drops l).on D
    rw [drop_on, drops_on D l]
theorem take_on (T : StD) {D : Dv} (hn : D.n = T.dev.n) : (T.on D).take = (T.take.1, T.take.2.1, T.take.2.2.on D) := by
  unfold StD.take
  have e : (T.on D).pool.take (T.on D).dev.n = T.pool.take T.dev.n := by show T.pool.take D.n = _; rw [hn]
  rw [e]
  split <;> rfl
theorem take_n (T : StD) : T.take.2.2.dev = T.dev := by unfold StD.take; split <;> rfl
theorem takes_on {D : Dv} : ∀ (f : Nat) (ps : List Int) (T : StD), D.n = T.dev.n → StD.takes f ps (T.on D) = ((StD.takes f ps T).1, (StD.takes f ps T).2.1, (StD.takes f ps T).2.2.on D)
  | 0, ps, T, _ => rfl
  | f + 1, ps, T, hn => by
    conv => lhs; unfold StD.takes
    conv => rhs; unfold StD.takes
    rw [take_on T hn]
    by_cases h1 : T.pool.listsP.length ≤ ps.length
    · have h1' : (T.on D).pool.listsP.length ≤ ps.length := h1
      rw [if_pos h1, if_pos h1']
    · have h1' : ¬ (T.on D).pool.listsP.length ≤ ps.length := h1
      rw [if_neg h1, if_neg h1']
      by_cases h2 : T.take.2.1 = 0
      · rw [if_neg (by simp [h2]), if_neg (by simp [h2])]
        exact takes_on f _ _ (by rw [take_n]; exact hn)
      · rw [if_pos h2, if_pos h2]
theorem put_armed {T : StD} (hc : T.dev.calm) {n : Int} {p : PageD} (hp : p.okAt n = true) (h0 : 0 ≤ n) (h1 : n < T.dev.n) {F : Int} (hF : 0 ≤ F) :
    (T.on (T.dev.armed F)).write n p = (40, T.on T.dev.dead) ∨ ((T.on (T.dev.armed F)).write n p = (0, (T.write n p).2.on ((T.write n p).2.dev.armed (F - 1))) ∧ 0 ≤ F - 1) := by
  have hl := encL_length hp
  unfold StD.write
  rw [if_pos hp, if_pos hp]
  rcases write_armed hc h0 h1 hl hF with ⟨a1, a2⟩ | ⟨a1, a2, a3⟩
  · left
    show (writeE (T.dev.armed F) n (p.encL n), ({ T.on (T.dev.armed F) with dev := writeD (T.dev.armed F) n (p.encL n) } : StD)) = _
    rw [a1, a2]; rfl
  · refine .inr ⟨?_, a3⟩
    show (writeE (T.dev.armed F) n (p.encL n), ({ T.on (T.dev.armed F) with dev := writeD (T.dev.armed F) n (p.encL n) } : StD)) = _
    rw [a1, a2]; rfl
theorem puts_armed {ps : List Int} {ls : List (List Int)} (hn : ps.Nodup) (hk : ∀ k, k < ps.length → (listPg ps ls k).okAt (ps.getD k 0) = true) :
    ∀ (f i : Nat) (T : StD) (F : Int), T.Run → T.dev.calm → i + f = ps.length → (∀ x ∈ ps, T.base.opn x ∧ x < T.dev.n) → 0 ≤ F →
      (∃ T', T.Step T' ∧ StD.puts ps ls f i (T.on (T.dev.armed F)) = (40, T'.on T'.dev.dead)) ∨
        ∃ F', 0 ≤ F' ∧ StD.puts ps ls f i (T.on (T.dev.armed F)) = (0, (StD.puts ps ls f i T).2.on ((StD.puts ps ls f i T).2.dev.armed F'))
  | 0, i, T, F, h, hc, hl, hx, hF => .inr ⟨F, hF, rfl⟩
  | f + 1, i, T, F, h, hc, hl, hx, hF => by
    have hi : i < ps.length := by omega
    have hm : ps.getD i 0 ∈ ps := by rw [getD_at hi]; exact List.getElem_mem hi
    have hxi := hx _ hm
    have h0 : 0 ≤ ps.getD i 0 := by have := hxi.1.1; omega
    obtain ⟨w1, w2, w3, w4, w5, w6, w7, w8⟩ := h.write hc (hk i hi) h0 hxi.2
    have hst := h.toWrite hc (hk i hi) h0 hxi.2 hxi.1
    rcases put_armed (F := F) hc (hk i hi) h0 hxi.2 hF with a1 | ⟨a1, a2⟩
    · refine .inl ⟨T, .refl h hc, ?_⟩
      conv => lhs; unfold StD.puts
      rw [a1, if_pos (by show (40 : Int) ≠ 0; decide)]
    · have e : StD.puts ps ls (f + 1) i T = StD.puts ps ls f (i + 1) (T.write (ps.getD i 0) (listPg ps ls i)).2 := by
        conv => lhs; unfold StD.puts
        rw [if_neg (fun hne => hne w1)]
      have e' : StD.puts ps ls (f + 1) i (T.on (T.dev.armed F)) = StD.puts ps ls f (i + 1) ((T.write (ps.getD i 0) (listPg ps ls i)).2.on ((T.write (ps.getD i 0) (listPg ps ls i)).2.dev.armed (F - 1))) := by
        conv => lhs; unfold StD.puts
        rw [a1, if_neg (by simp)]
      rw [e, e']
      rcases puts_armed hn hk f (i + 1) _ (F - 1) w3 w4 (by omega) (fun x hm => by rw [hst.base, w5]; exact hx x hm) a2 with ⟨T', h1, h2⟩ | h1
      · exact .inl ⟨T', hst.trans h1, h2⟩
      · exact .inr h1
/-- What a commit has left on the disk, and in the cache, where its power was cut, or not. -/
inductive StD.Cut (T : StD) (root depth count : Int) (e : Int) (D : Dv) : Prop where
  | old (he : e ≠ 0) (hn : D.n = T.dev.n) (h : ∀ j, ¬ T.base.opn j → D.cache j = none ∧ D.bytes j = T.dev.bytes j)
  | half (T' : StD) (he : e ≠ 0) (ht : T.Told root depth count T') (hn : D.n = T.dev.n) (h : ∀ j, j ≠ (T.super.epoch + 1) % 2 → D.cache j = none ∧ D.bytes j = T'.dev.bytes j)
      (hc : D.cache ((T.super.epoch + 1) % 2) = some (T'.dev.bytes ((T.super.epoch + 1) % 2))) (hl : (D.last ((T.super.epoch + 1) % 2)).getD zeros = T.dev.bytes ((T.super.epoch + 1) % 2))
  | new (T' : StD) (ht : T.Told root depth count T') (hn : D.n = T.dev.n) (h : ∀ j, D.cache j = none ∧ D.bytes j = T'.dev.bytes j)
theorem StD.Cut.ofStep {T T' : StD} {r d c e : Int} {D : Dv} (hcl : T.clean) (hs : T.Step T') (he : e ≠ 0) (hn : D.n = T'.dev.n) (hca : D.cache = T'.dev.cache) (hla : D.last = T'.dev.last) : T.Cut r d c e D := by
  refine .old he (hn.trans hs.n) fun j hj => ?_
  have hb := hs.bytes j hj
  refine ⟨by rw [hca, hb.2]; exact hcl.cache j hj, ?_⟩
  rw [← hb.1]
  unfold Dv.bytes
  rw [hca, hla]
theorem end_dev (T : StD) (e : Int) : (T.end e).dev = T.dev := by unfold StD.end; split <;> rfl
/-- A commit with a fuse. -/
theorem StD.Run.commit_cut {T : StD} (h : T.Run) (hc : T.dev.calm) (hl : ∀ x ∈ T.lists, ¬ T.base.opn x) (he : 0 ≤ T.super.epoch ∧ T.super.epoch < 4611686018427387903)
    (hold : beI ((T.dev.bytes (1 - (T.super.epoch + 1) % 2)).take 8) < T.super.epoch + 1) (hcl : T.clean) (root depth count : Int) {F : Int} (hF : 0 ≤ F) :
    T.Cut root depth count ((T.on (T.dev.armed F)).commit root depth count).1 ((T.on (T.dev.armed F)).commit root depth count).2.dev := by
  have hcom := h.commit hc hl he hold root depth count
  by_cases hck : (superPg (T.super.epoch + 1) root depth count T.pool.high 0).check = false
  · have e : (T.on (T.dev.armed F)).commit root depth count = (50, T.on (T.dev.armed F)) := by
      unfold StD.commit
      have hck' : (superPg ((T.on (T.dev.armed F)).super.epoch + 1) root depth count (T.on (T.dev.armed F)).pool.high 0).check = false := hck
      rw [if_pos hck']
    rw [e]
    exact .ofStep hcl (.refl h hc) (by show (50 : Int) ≠ 0; decide) rfl rfl rfl
  have hckA : ¬ (superPg ((T.on (T.dev.armed F)).super.epoch + 1) root depth count (T.on (T.dev.armed F)).pool.high 0).check = false := hck
  obtain ⟨T0, hT0⟩ : ∃ T0, T.drops T.lists = T0 := ⟨_, rfl⟩
  have hd := h.drops T.lists
  have hdf := fun k hk => drops_fresh (k := k) T.lists T hk
  rw [hT0] at hd hdf
  obtain ⟨d1, d2, d3, d4, d5, d6⟩ := hd
  have hc0 : T0.dev.calm := by rw [d2]; exact hc
  have hst0 : T.Step T0 := .ofDev d1 hc d2 d3 d4 d5
  obtain ⟨t1, t2, t3, t4⟩ := StD.Run.takes (T0.pool.listsP.length + 1) [] T0 d1 hc0 List.nodup_nil (by simp)
  have hA0 : (T.on (T.dev.armed F)).drops (T.on (T.dev.armed F)).lists = T0.on (T.dev.armed F) := by
    show (T.on (T.dev.armed F)).drops T.lists = _
    rw [drops_on, hT0]
  have hA1 : StD.takes ((T0.on (T.dev.armed F)).pool.listsP.length + 1) [] (T0.on (T.dev.armed F)) = _ := takes_on (D := T.dev.armed F) (T0.pool.listsP.length + 1) [] T0 (by show T.dev.n = _; rw [d2])
  by_cases h0 : (StD.takes (T0.pool.listsP.length + 1) [] T0).2.1 = 0
  · obtain ⟨u1, u2, u3, u4⟩ := t4 h0
    have u4 := u4 (by simp)
    obtain ⟨⟨ps, e1, T1⟩, hR⟩ : ∃ R, StD.takes (T0.pool.listsP.length + 1) [] T0 = R := ⟨_, rfl⟩
    rw [hR] at t1 t2 t3 h0 u1 u2 u3 u4
    simp only at t1 t2 t3 h0 u1 u2 u3 u4
    subst h0
    have hc1 := t1.calm
    have hn4 := hc.fine.n4
    have hn1 : T1.dev.n = T.dev.n := by rw [t2, d2]
    have hb1 : T1.base = T.base := t1.base.trans d5
    have hg1 := t1.run.good.pool
    have hhi := hg1.hi
    rw [hn1] at hhi
    have hps : ∀ x ∈ ps, T1.base.opn x ∧ x < T1.pool.high ∧ 2 ≤ x ∧ x < 4096 ∧ x < (T1.dev.n : Int) ∧ x ∉ T1.pool.free ∧ x ∉ T1.pool.limbo := fun x hx => by
      have h1 := u2 x hx
      have h2 := t1.run.fresh x h1.1
      have := h2.1.1
      exact ⟨h2.1, h2.2.1, this, by have := h2.2.1; omega, by rw [hn1]; have := h2.2.1; omega, h2.2.2, h1.2⟩
    have hps0 : ∀ x ∈ ps, T.base.opn x ∧ T.fresh x = false := fun x hx => by
      have h1 := (hps x hx).1
      rw [hb1] at h1
      refine ⟨h1, ?_⟩
      rcases u3 x hx with h2 | h2
      · cases h2
      · rw [← hdf x (fun hm => hl x hm h1)]; exact h2
    have hrise : Rise T1.pool.high T1.pool.turn.free := hg1.turn.free
    have hls : ∀ l ∈ T1.pool.listsP, l.Pairwise (· < ·) ∧ l.length ≤ 200 ∧ ∀ x ∈ l, 2 ≤ x ∧ x < 4096 := fun l hlm => by
      have hs : l.Sublist T1.pool.turn.free := chunkL_sub hlm
      exact ⟨hrise.1.sublist hs, listsP_small _ l hlm, fun x hx => by have := hrise.2 x (hs.subset hx); omega⟩
    have hok : ∀ k, k < ps.length → (listPg ps T1.pool.listsP k).okAt (ps.getD k 0) = true := fun k hk => by
      have hm : ps.getD k 0 ∈ ps := by rw [getD_at hk]; exact List.getElem_mem hk
      have hx := hps _ hm
      have hL : (T1.pool.listsP.getD k []).Pairwise (· < ·) ∧ (T1.pool.listsP.getD k []).length ≤ 200 ∧ ∀ x ∈ T1.pool.listsP.getD k [], 2 ≤ x ∧ x < 4096 := by
        rw [List.getD_eq_getElem?_getD]
        cases hq : T1.pool.listsP[k]? with
        | none => simp
        | some l => exact hls l (List.mem_of_getElem? hq)
      refine free_ok hL.1 hL.2.1 hL.2.2 ?_ ⟨hx.2.2.1, hx.2.2.2.1⟩
      by_cases hk1 : k + 1 < ps.length
      · right
        have hm1 : ps.getD (k + 1) 0 ∈ ps := by rw [getD_at hk1]; exact List.getElem_mem hk1
        have := hps _ hm1
        exact ⟨this.2.2.1, this.2.2.2.1⟩
      · left
        rw [List.getD_eq_getElem?_getD, List.getElem?_eq_none (by omega)]; rfl
    obtain ⟨p1, p2, p3, p4, p5, p6⟩ := StD.Run.puts u1 hok ps.length 0 T1 t1.run hc1 (by omega) (fun x hx => ⟨(hps x hx).1, (hps x hx).2.2.2.2.1⟩)
    obtain ⟨⟨e2, T2⟩, hP⟩ : ∃ R, StD.puts ps T1.pool.listsP ps.length 0 T1 = R := ⟨_, rfl⟩
    rw [hP] at p1 p2 p3 p4 p5 p6
    simp only at p1 p2 p3 p4 p5 p6
    subst p1
    have hc2 := p2.calm
    have hsy := hc2.synced
    have hL : T0.listed = (ps, 0, { T2 with dev := syncD T2.dev }) := by
      unfold StD.listed
      rw [hR]
      simp only
      rw [if_neg (by simp), hP]
      simp only
      rw [if_neg (by simp), hc2.sync.1]
    obtain ⟨T3, hT3⟩ : ∃ T3 : StD, { T2 with dev := syncD T2.dev } = T3 := ⟨_, rfl⟩
    rw [hT3] at hL
    have r3 : T3.Run := by rw [← hT3]; exact p2.run.dev hsy.2.1
    have c3 : T3.dev.calm := by rw [← hT3]; exact hsy.1
    have n3 : T3.dev.n = T.dev.n := by rw [← hT3]; exact hsy.2.1.trans (p2.n.trans hn1)
    have b3 : ∀ j, T3.dev.bytes j = T2.dev.bytes j := by rw [← hT3]; exact hsy.2.2.1
    have pl3 : T3.pool = T1.pool := by rw [← hT3]; exact p3
    have hn2 := hc.fine.n2
    have hhd : ps.headD 0 = 0 ∨ (2 ≤ ps.headD 0 ∧ ps.headD 0 < 4096) := by
      cases ps with
      | nil => exact .inl rfl
      | cons x l => have := hps x (by simp); exact .inr ⟨this.2.2.1, this.2.2.2.1⟩
    have hslot : (T.super.epoch + 1) % 2 = 0 ∨ (T.super.epoch + 1) % 2 = 1 := by omega
    have hlo3 := hg1.lo
    have hsok : (superPg (T.super.epoch + 1) root depth count T3.pool.high (ps.headD 0)).okAt ((T.super.epoch + 1) % 2) = true := by
      rw [pl3]
      refine super_ok (high := T.pool.high) (next := 0) ?_ ⟨hlo3, by omega⟩ hhd hslot
      cases hq : (superPg (T.super.epoch + 1) root depth count T.pool.high 0).check with
      | true => rfl
      | false => exact absurd hq hck
    obtain ⟨w1, w2, w3, w4, w5, w6, w7, w8⟩ := r3.write c3 hsok (by omega) (by rw [n3]; omega)
    obtain ⟨⟨e4, T4⟩, hW⟩ : ∃ R, T3.write ((T.super.epoch + 1) % 2) (superPg (T.super.epoch + 1) root depth count T3.pool.high (ps.headD 0)) = R := ⟨_, rfl⟩
    rw [hW] at w1 w2 w3 w4 w5 w6 w7 w8
    simp only at w1 w2 w3 w4 w5 w6 w7 w8
    subst w1
    have hsy4 := w4.synced
    have e : T.commit root depth count = (0, ({ T4 with dev := syncD T4.dev, super := superPg (T.super.epoch + 1) root depth count T3.pool.high (ps.headD 0), lists := ps, base := T4.pool.turn } : StD).abort) := by
      unfold StD.commit
      rw [if_neg hck, hT0, hL]
      simp only
      rw [if_neg (by simp)]
      unfold StD.sealUp
      simp only
      rw [hW]
      simp only
      rw [if_neg (by simp), w4.sync.1, if_neg (by simp)]
    have ht : T.Told root depth count (T.commit root depth count).2 := by
      rcases hcom with ⟨h1 | h1, _⟩ | h1
      · exact absurd h1.2 hck
      · rw [hT0, hR] at h1; exact absurd rfl h1.2
      · exact h1.2
    have hD : (T.commit root depth count).2.dev = syncD T4.dev := by rw [e]; rfl
    obtain ⟨T', hT'⟩ : ∃ T', (T.commit root depth count).2 = T' := ⟨_, rfl⟩
    rw [hT'] at ht hD
    clear e hcom
    have hst2 : T.Step T2 := (hst0.trans t1).trans p2
    rw [hR] at hA1
    have e1 : T1.on (T.dev.armed F) = T1.on (T1.dev.armed F) := by rw [t2, d2]
    simp only at hA1
    rw [e1] at hA1
    have hb2 : ∀ j, ¬ T.base.opn j → T3.dev.bytes j = T.dev.bytes j := fun j hj => by rw [b3]; exact (hst2.bytes j hj).1
    have hc3 : ∀ j, T3.dev.cache j = none := by rw [← hT3]; exact hsy.2.2.2
    unfold StD.commit
    rw [if_neg hckA, hA0]
    have hpool1 : (T1.on (T1.dev.armed F)).pool.listsP = T1.pool.listsP := rfl
    rcases puts_armed u1 hok ps.length 0 T1 F t1.run hc1 (by omega) (fun x hx => ⟨(hps x hx).1, (hps x hx).2.2.2.2.1⟩) hF with ⟨T5, s5, q5⟩ | ⟨F1, hF1, q5⟩
    · have hLA : (T0.on (T.dev.armed F)).listed = ([], 40, T5.on T5.dev.dead) := by
        unfold StD.listed
        rw [hA1]
        simp only
        rw [if_neg (by simp), hpool1, q5]
        simp only
        rw [if_pos (by show (40 : Int) ≠ 0; decide)]
      rw [hLA]
      simp only
      rw [if_pos (by show (40 : Int) ≠ 0; decide)]
      refine .ofStep hcl ((hst0.trans t1).trans s5) (by show (40 : Int) ≠ 0; decide) ?_ ?_ ?_ <;> (rw [end_dev]; rfl)
    · rw [hP] at q5
      simp only at q5
      rcases sync_armed hc2 hF1 with ⟨z1, z2⟩ | ⟨z1, z2, z3⟩
      · have hLA : (T0.on (T.dev.armed F)).listed = (ps, 40, T2.on T2.dev.dead) := by
          unfold StD.listed
          rw [hA1]
          simp only
          rw [if_neg (by simp), hpool1, q5]
          simp only
          rw [if_neg (by simp)]
          show (ps, syncE (T2.dev.armed F1), ({ T2.on (T2.dev.armed F1) with dev := syncD (T2.dev.armed F1) } : StD)) = _
          rw [z1, z2]; rfl
        rw [hLA]
        simp only
        rw [if_pos (by show (40 : Int) ≠ 0; decide)]
        refine .ofStep hcl hst2 (by show (40 : Int) ≠ 0; decide) ?_ ?_ ?_ <;> (rw [end_dev]; rfl)
      · have hLA : (T0.on (T.dev.armed F)).listed = (ps, 0, T3.on (T3.dev.armed (F1 - 1))) := by
          unfold StD.listed
          rw [hA1]
          simp only
          rw [if_neg (by simp), hpool1, q5]
          simp only
          rw [if_neg (by simp)]
          show (ps, syncE (T2.dev.armed F1), ({ T2.on (T2.dev.armed F1) with dev := syncD (T2.dev.armed F1) } : StD)) = _
          rw [z1, z2, ← hT3]; rfl
        rw [hLA]
        simp only
        rw [if_neg (by simp)]
        unfold StD.sealUp
        have hsu : superPg ((T.on (T.dev.armed F)).super.epoch + 1) root depth count (T3.on (T3.dev.armed (F1 - 1))).pool.high (ps.headD 0) = superPg (T.super.epoch + 1) root depth count T3.pool.high (ps.headD 0) := rfl
        have hsl : ((T.on (T.dev.armed F)).super.epoch + 1) % 2 = (T.super.epoch + 1) % 2 := rfl
        rw [hsu, hsl]
        rcases put_armed (F := F1 - 1) c3 hsok (by omega) (by rw [n3]; omega) z3 with a1 | ⟨a1, a2⟩
        · simp only
          rw [a1]
          simp only
          rw [if_pos (by show (40 : Int) ≠ 0; decide)]
          refine .old (by show (40 : Int) ≠ 0; decide) (by rw [end_dev]; exact n3) fun j hj => ?_
          rw [end_dev]
          exact ⟨hc3 j, hb2 j hj⟩
        · rw [hW] at a1
          simp only at a1
          simp only
          rw [a1]
          simp only
          rw [if_neg (by simp)]
          show T.Cut root depth count (if syncE (T4.dev.armed (F1 - 1 - 1)) ≠ 0 then _ else _ : Int × StD).1 (if syncE (T4.dev.armed (F1 - 1 - 1)) ≠ 0 then _ else _ : Int × StD).2.dev
          rcases sync_armed w4 a2 with ⟨y1, y2⟩ | ⟨y1, y2, y3⟩
          · rw [y1, if_pos (by show (40 : Int) ≠ 0; decide)]
            refine .half T' (by show syncE (T4.dev.armed (F1 - 1 - 1)) ≠ 0; rw [y1]; decide) ht (by rw [end_dev]; show (syncD (T4.dev.armed (F1 - 1 - 1))).n = _; rw [y2]; exact w5.trans n3) (fun j hj => ?_) ?_ ?_
            · rw [end_dev]
              show (syncD (T4.dev.armed (F1 - 1 - 1))).cache j = none ∧ (syncD (T4.dev.armed (F1 - 1 - 1))).bytes j = _
              rw [y2, hD, hsy4.2.2.1]
              exact ⟨(w8 j hj).trans (hc3 j), rfl⟩
            · rw [end_dev]
              show (syncD (T4.dev.armed (F1 - 1 - 1))).cache _ = _
              rw [y2, hD, hsy4.2.2.1, w6, if_pos rfl]
              show T4.dev.cache _ = _
              rw [w2]
              show (writeD T3.dev _ _).cache _ = _
              rw [(c3.write (by omega) (by rw [n3]; omega) (encL_length hsok)).2]
              exact upd_same _ _ _
            · rw [end_dev]
              show ((syncD (T4.dev.armed (F1 - 1 - 1))).last _).getD zeros = _
              rw [y2, ← hb2 _ (opn_two (by omega))]
              show (T4.dev.last _).getD zeros = _
              rw [w7]
              unfold Dv.bytes
              rw [hc3]; rfl
          · rw [y1, if_neg (by simp)]
            have hz : ∀ j, (syncD (T4.dev.armed (F1 - 1 - 1))).cache j = none ∧ (syncD (T4.dev.armed (F1 - 1 - 1))).bytes j = T'.dev.bytes j := fun j => by
              rw [y2, hD]
              exact ⟨hsy4.2.2.2 j, rfl⟩
            exact .new T' ht (by show (syncD (T4.dev.armed (F1 - 1 - 1))).n = _; rw [y2]; exact hsy4.2.1.trans (w5.trans n3)) hz
  · have hLA : (T0.on (T.dev.armed F)).listed = StD.takes (T0.pool.listsP.length + 1) [] (T0.on (T.dev.armed F)) := by
      unfold StD.listed
      rw [hA1]
      simp only
      rw [if_pos h0]
      exact hA1.symm
    unfold StD.commit
    rw [if_neg hckA, hA0, hLA]
    have hA1' : StD.takes (T0.pool.listsP.length + 1) [] (T0.on (T.dev.armed F)) = _ := hA1
    rw [hA1']
    simp only
    rw [if_pos h0]
    refine .ofStep hcl (.refl h hc) h0 ?_ ?_ ?_ <;> (rw [end_dev]; rfl)
end Go.Proofs.Ytgpeoonpoogniaa


/- A store's plain theory: what Open finds behind a cut. -/
namespace Go.Proofs.Ytgpeoonpoogniaa
open Go.RowKit Go.MapKept

/-- The other superblock is torn: Open finds the one that is whole. -/
theorem Holds.openTorn {D0 D : Dv} {s : PageD} {ls : List Int} {base : PoolD} (h : Holds D0 s ls base) (h0 : D0.off = false) (hn : D.n = D0.n) (ho : D.off = false) (hf : D.fine)
    (hb : ∀ j, ¬ base.opn j → j ≠ 1 - s.epoch % 2 → D.bytes j = D0.bytes j) (ht : decP (1 - s.epoch % 2) (D.bytes (1 - s.epoch % 2)) = none) :
    openD D = (0, some ⟨D, s, ls, base, base, fun _ => false⟩) ∧ ∀ ls' ll', chainD D (D.n + 2) [] [] (newestD D).1.next = some (ls', ll') → ll'.flatten.length ≤ 10000 := by
  have hd : decP (s.epoch % 2) (D.bytes (s.epoch % 2)) = some s := by
    rw [hb _ (opn_two (by omega)) (by omega)]; exact h.dec
  have hn2 := hf.n2
  have u0 : useE D 0 0 = 0 := by unfold useE; rw [if_neg (by simp [ho]), if_neg (by omega)]
  have u1 : useE D 1 0 = 0 := by unfold useE; rw [if_neg (by simp [ho]), if_neg (by omega)]
  have hk : s.kind = 4 := dec_kind hd (by omega)
  have hbs : bests D 2 = s := by
    show newStep D (newStep D pgZero 0) 1 = s
    rcases (by omega : s.epoch % 2 = 0 ∨ s.epoch % 2 = 1) with hm | hm
    · rw [hm] at hd ht
      have e0 : newStep D pgZero 0 = s := by
        unfold newStep
        rw [hd]
        simp only
        rw [if_pos (.inl rfl)]
      rw [e0]
      unfold newStep
      have ht' : decP 1 (D.bytes 1) = none := ht
      rw [ht']
    · rw [hm] at hd ht
      have ht' : decP 0 (D.bytes 0) = none := ht
      have e0 : newStep D pgZero 0 = pgZero := by
        unfold newStep
        rw [ht']
      rw [e0]
      unfold newStep
      rw [hd]
      simp only
      rw [if_pos (.inl rfl)]
  have hnw : newestD D = (s, 0) := by
    unfold newestD
    rw [u0, u1, if_neg (by simp), if_neg (by simp), hbs, if_neg (by rw [hk]; decide)]
  obtain ⟨ll, hc0, hfl⟩ := h.chain
  have hc : chainD D (D.n + 2) [] [] s.next = some (ls, ll) := by
    rw [hn]
    exact chain_congr _ _ _ _ hc0 (fun m hm => pageD_congr hn (ho.trans h0.symm) (hb m (fun hop => by
      have := h.lists m hm
      rcases hop.2 with h1 | h1
      · omega
      · exact this.2.2 h1) (by have := (h.lists m hm).1; omega)))
  have hof : ofP s.high ll = (base, 0) := by
    unfold ofP
    rw [hfl, h.high.1]
    have e : (⟨base.high, base.free, []⟩ : PoolD) = base := by
      have := h.good.2
      cases base
      simp_all
    rw [e, if_pos ((check_iff base 4096).2 h.good.1)]
  constructor
  · unfold openD
    rw [hnw]
    simp only
    rw [if_neg (by simp), hc]
    simp only
    rw [hof, if_neg]
    · rfl
    · rintro (h1 | h1 | h1)
      · exact h1 rfl
      · have := h.high; rw [← hn] at this; omega
      · rw [List.any_eq_true] at h1
        obtain ⟨x, hx, hb⟩ := h1
        have := h.lists x hx
        have hh := h.high.1
        unfold badP at hb
        simp only [Bool.or_eq_true, decide_eq_true_eq] at hb
        rcases hb with (hb | hb) | hb
        · omega
        · omega
        · exact this.2.2 hb
  · intro ls' ll' hc'
    rw [hnw] at hc'
    rw [hc] at hc'
    cases hc'
    rw [hfl]
    have := (h.good.1.small (by omega)).2.1
    omega
theorem Dv.fine.neg {D : Dv} (h : D.fine) {j : Int} (hj : j < 0) : D.bytes j = zeros := by
  unfold Dv.bytes
  cases hc : D.cache j with
  | some l => have := h.keysC j l hc; omega
  | none =>
    cases hl : D.last j with
    | some l => have := h.keysL j l hl; omega
    | none => rfl
/-- A device in which Open finds the last commit, or the one that was cut. -/
def StD.Finds (T : StD) (root depth count e : Int) (R : Dv) : Prop :=
  ∃ T', openD R = (0, some T') ∧ (∀ ls' ll', chainD R (R.n + 2) [] [] (newestD R).1.next = some (ls', ll') → ll'.flatten.length ≤ 10000) ∧
    T'.super.bare ∧ T'.dev = R ∧ ((T'.super = T.super ∧ e ≠ 0) ∨ ∃ T2, T.Told root depth count T2 ∧ T'.super = T2.super ∧ ∀ j, T'.dev.bytes j = T2.dev.bytes j)
/-- What Open finds behind a cut. -/
theorem StD.Cut.opens {T : StD} (hL : T.Live) (hcl : T.clean) {root depth count e : Int} {D : Dv} (hcut : T.Cut root depth count e D) (keep : List Int) (torn cut : Int) (hf : (restartD D keep torn cut).fine) :
    T.Finds root depth count e (restartD D keep torn cut) := by
  obtain ⟨r1, r2, r3, r4⟩ := restart_n D keep torn cut
  have old : e ≠ 0 → Holds (restartD D keep torn cut) T.super T.lists T.base → T.Finds root depth count e (restartD D keep torn cut) := fun he hh => ⟨_, hh.open r2 hf, hh.flat r2 hf, hL.bare, rfl, .inl ⟨rfl, he⟩⟩
  have new : ∀ T2, T.Told root depth count T2 → D.n = T.dev.n → (∀ j, (restartD D keep torn cut).bytes j = T2.dev.bytes j) → T.Finds root depth count e (restartD D keep torn cut) := fun T2 ht hn hb => by
    have hh : Holds (restartD D keep torn cut) T2.super T2.lists T2.base := ht.holds.step (r1.trans (hn.trans ht.n.symm)) (r2.trans ht.calm.off.symm) (fun j _ => hb j)
    exact ⟨_, hh.open r2 hf, hh.flat r2 hf, ht.live.bare, rfl, .inr ⟨T2, ht, rfl, hb⟩⟩
  cases hcut with
  | old he hn h => exact old he (hL.holds.step (r1.trans hn) (r2.trans hL.calm.off.symm) (fun j hj => (restart_none keep torn cut (h j hj).1).trans (h j hj).2))
  | new T2 ht hn h => exact new T2 ht hn (fun j => (restart_none keep torn cut (h j).1).trans (h j).2)
  | half T2 he ht hn h hc hl =>
    obtain ⟨s, hs⟩ : ∃ s, (T.super.epoch + 1) % 2 = s := ⟨_, rfl⟩
    rw [hs] at h hc hl
    have hs01 : s = 0 ∨ s = 1 := by omega
    have hs1 : 1 - T.super.epoch % 2 = s := by omega
    have hA := ht.calm.fine.len s
    have hB := hL.calm.fine.len s
    obtain ⟨c, hr⟩ := restart_some keep torn cut hc hA (by rw [hl]; exact hB)
    rw [hl] at hr
    have hT2 : T2.super.epoch = T.super.epoch + 1 := by rw [ht.super]; rfl
    have hne : ∀ j, j ≠ s → (restartD D keep torn cut).bytes j = T2.dev.bytes j := fun j hj => (restart_none keep torn cut (h j hj).1).trans (h j hj).2
    have hno : ∀ j, ¬ T.base.opn j → j ≠ s → (restartD D keep torn cut).bytes j = T.dev.bytes j := fun j hj hjs => by
      rw [hne j hjs]
      by_cases h2 : 2 ≤ j
      · exact ht.bytes j h2 (.inl hj)
      · by_cases h0 : j < 0
        · rw [ht.calm.fine.neg h0, hL.calm.fine.neg h0]
        · have e : j = T.super.epoch % 2 := by omega
          rw [e]; exact ht.slot
    cases hdec : decP s ((restartD D keep torn cut).bytes s) with
    | none =>
      have ht' := hL.holds.openTorn (D := restartD D keep torn cut) hL.calm.off (r1.trans hn) r2 hf (fun j hj hjs => hno j hj (by rw [hs1] at hjs; exact hjs)) (by rw [hs1]; exact hdec)
      exact ⟨_, ht'.1, ht'.2, hL.bare, rfl, .inl ⟨rfl, he⟩⟩
    | some p =>
      rw [hr] at hdec
      have hw := ht.live.whole
      rw [hT2, hs] at hw
      have hcs := hcl.slot
      rw [hs1] at hcs
      have hdf : (T2.dev.bytes s).take 8 ≠ (T.dev.bytes s).take 8 := fun e => by
        have h1 := ht.holds.dec
        rw [hT2, hs] at h1
        have h2 := dec_ep h1 hs01
        have h3 := hL.holds.old
        rw [hs1, ← e, ← h2] at h3
        omega
      rcases dec_torn c hs01 hA hB hw hcs hdf hdec with hq | hq
      · refine new T2 ht hn (fun j => ?_)
        by_cases hj : j = s
        · subst hj; rw [hr, hq]
        · exact hne j hj
      · refine old he (hL.holds.step (r1.trans hn) (r2.trans hL.calm.off.symm) (fun j hj => ?_))
        by_cases hjs : j = s
        · subst hjs; rw [hr, hq]
        · exact hno j hj hjs
/-- A commit on a device with whatever fuse. -/
theorem StD.Live.cut {T : StD} (hL : T.Live) (hcl : T.clean) (he : T.super.epoch < 4611686018427387903) (root depth count acts : Int) :
    T.Cut root depth count ((T.on (T.dev.fused acts)).commit root depth count).1 ((T.on (T.dev.fused acts)).commit root depth count).2.dev := by
  by_cases ha : acts < 0
  · have hm : max acts (-1) = -1 := by omega
    have e : T.dev.fused acts = T.dev := by
      have h1 := hL.calm.fuse
      unfold Dv.fused
      rw [hm, ← h1]
    rw [e]
    show T.Cut root depth count (T.commit root depth count).1 (T.commit root depth count).2.dev
    rcases hL.commit he root depth count with ⟨h1, h2⟩ | ⟨h1, h2⟩
    · exact .ofStep hcl h2 (by rcases h1 with h | h <;> rw [h] <;> decide) rfl rfl rfl
    · exact .new _ h2 h2.n (fun j => ⟨h2.synced j, rfl⟩)
  · have e : T.dev.fused acts = T.dev.armed acts := by
      unfold Dv.fused Dv.armed
      rw [show max acts (-1) = acts by omega]
    rw [e]
    exact hL.run.commit_cut hL.calm hL.lists ⟨by have := hL.holds.ep; omega, he⟩ hL.hold hcl root depth count (by omega)
theorem StD.Cut.n {T : StD} {r d c e : Int} {D : Dv} (h : T.Cut r d c e D) : D.n = T.dev.n := by
  cases h with
  | old _ hn _ => exact hn
  | half _ _ _ hn _ _ _ => exact hn
  | new _ _ hn _ => exact hn
theorem StD.good.on {T : StD} (h : T.good) {D : Dv} (hn : D.n = T.dev.n) : (T.on D).good := ⟨by show PoolG T.pool D.n; rw [hn]; exact h.pool, by show PoolG T.base D.n; rw [hn]; exact h.base⟩
end Go.Proofs.Ytgpeoonpoogniaa

