/- Texts of mine, joined by merge.py: VcLawT3, VcLawT4, VcLawT5, VcLawT6, VcLawT7, VcLawT8, VcLawT9, VcLawTA, VcLawTB, VcLawTC, LawHnswSure. -/
import Derived.Test.YtpbelkpfljhjlaaGreatDoorMrg9
import Derived.Test.YtpbelkpfljhjlaaGreatDoorCards
import Derived.Test.YtpbelkpfljhjlaaGreatDoorTie
import Derived.ShutString
import Derived.Below
import Derived.OpenShut
import Derived.Handed
import Derived.ProofKit
set_option maxRecDepth 100000

/- VcLawT3 -/
namespace Go.Proofs.YtpbelkpfljhjlaaGreatDoor

/-- A table that lies apart from blocks D. -/
structure TabSt (ub u : H) (D : Nat → Prop) (n : Nat) (d : Int) (L : List Rw) : Prop where
  ex : ∃ uT, uT.le u ∧ (∀ c, D c → uT c = none) ∧ TabAt uT n d L ∧ ub.le uT ∧ ub n = none

theorem TabSt.le {ub u : H} {D : Nat → Prop} {n : Nat} {d : Int} {L : List Rw} (h : TabSt ub u D n d L) : ub.le u := by
  obtain ⟨uT, h1, _, _, h4, _⟩ := h.ex
  exact h4.trans h1

theorem TabSt.mono {ub u u' : H} {D : Nat → Prop} {n : Nat} {d : Int} {L : List Rw} (h : TabSt ub u D n d L) (hu : u.le u') : TabSt ub u' D n d L := by
  obtain ⟨uT, h1, h2, h3, h4, h5⟩ := h.ex
  exact ⟨uT, h1.trans hu, h2, h3, h4, h5⟩

theorem TabSt.rows {ub u : H} {D : Nat → Prop} {n : Nat} {d : Int} {L : List Rw} (h : TabSt ub u D n d L) : ∃ s : Sl, u n = some (.cells #[.int .i64 d, .slice s.a s.n s.c] 83 (0, 0)) ∧ Rws u s L := by
  obtain ⟨uT, h1, _, h3, _, _⟩ := h.ex
  obtain ⟨s, v, hn, hv, _, hR⟩ := h3.ex
  exact ⟨s, h1 _ _ hn, hR.mono (hv.trans h1)⟩

theorem TabSt.rise {ub u : H} {D : Nat → Prop} {n : Nat} {d : Int} {L : List Rw} (h : TabSt ub u D n d L) : (L.map Rw.pr).Pairwise fun a b => a.1 < b.1 := by
  obtain ⟨uT, _, _, h3, _, _⟩ := h.ex
  exact h3.rise

theorem TabSt.nodup {ub u : H} {D : Nat → Prop} {n : Nat} {d : Int} {L : List Rw} (h : TabSt ub u D n d L) : (L.map (·.id)).Nodup := by
  obtain ⟨uT, _, _, h3, _, _⟩ := h.ex
  rw [List.nodup_iff_pairwise_ne, List.pairwise_map]
  exact h3.srt.imp fun h => Int.ne_of_lt h

/-- The tree turned: the table lies apart from it still. -/
theorem TabSt.turn {ub u u' : H} {D D' : Nat → Prop} {n : Nat} {d : Int} {L : List Rw} (h : TabSt ub u D n d L) (k : IxTurn u D u' D') : TabSt ub u' D' n d L := by
  obtain ⟨uT, h1, h2, h3, h4, h5⟩ := h.ex
  obtain ⟨k1, k2⟩ := k.apart h1 h2
  exact ⟨uT, k1, k2, h3, h4, h5⟩

theorem spec.tabPut {ub u : H} {D : Nat → Prop} {n : Nat} {d id : Int} {L : List Rw} {t : Sl} {q : List Int} {K : Bool → Int → H → Prop} (h : TabSt ub u D n d L) (hDu : ∀ c, D c → u c ≠ none) (hl : L.length ≤ 1000000) (ht : Ints ub t q)
    (hbad : mayErr id q d (decide (id ∈ L.map (·.id))) L.length ≠ 0 → ∀ u', TabSt ub u' D n d L → (∀ c o, u c = some o → D c → u' c = some o) → K false (mayErr id q d (decide (id ∈ L.map (·.id))) L.length) u')
    (hok : mayErr id q d (decide (id ∈ L.map (·.id))) L.length = 0 → ∀ u' L', TabSt ub u' D n d L' → (∀ c o, u c = some o → D c → u' c = some o) → L'.map Rw.pr = tputP (L.map Rw.pr) id q → K (decide (id ∉ L.map (·.id))) 0 u') : C.theodoliteref05_Table__Put (some ⟨n, 0, none⟩) id t u K := by
  obtain ⟨uT, h1, h2, h3, h4, h5⟩ := h.ex
  let K0 : Bool → Int → H → Prop := fun b e v' => ∃ L', TabAt v' n d L' ∧ ub.le v' ∧ ((b = false ∧ e = mayErr id q d (decide (id ∈ L.map (·.id))) L.length ∧ mayErr id q d (decide (id ∈ L.map (·.id))) L.length ≠ 0 ∧ L' = L) ∨
    (b = decide (id ∉ L.map (·.id)) ∧ e = 0 ∧ mayErr id q d (decide (id ∈ L.map (·.id))) L.length = 0 ∧ L'.map Rw.pr = tputP (L.map Rw.pr) id q))
  have hc : C.theodoliteref05_Table__Put (some ⟨n, 0, none⟩) id t uT K0 := spec.theodoliteref05_Table__Put h3 hl (ht.mono h4) (fun hne => ⟨L, h3, h4, .inl ⟨rfl, rfl, hne, rfl⟩⟩)
    fun he u' L' hT' hp hk => ⟨L', hT', fun c o hc => hk c o (h4 c o hc) (fun e => by rw [e, h5] at hc; cases hc), .inr ⟨rfl, rfl, he, hp⟩⟩
  refine hc.frame h1 ?_
  rintro b e v0' v' hf ⟨L', hT', hub', hcase⟩
  have hst : TabSt ub v' D n d L' := ⟨v0', hf.le, fun c hc => by
    cases hx : u c with
    | none => exact absurd hx (hDu c hc)
    | some o => exact (hf.out c o (h2 c hc) hx).1, hT', hub', h5⟩
  have hkeep : ∀ c o, u c = some o → D c → v' c = some o := fun c o hc hd => (hf.out c o (h2 c hd) hc).2
  rcases hcase with ⟨rfl, rfl, hne, rfl⟩ | ⟨rfl, rfl, he, hp⟩
  · exact hbad hne v' hst hkeep
  · exact hok he v' L' hst hkeep hp

theorem spec.tabDelete {ub u : H} {D : Nat → Prop} {n : Nat} {d id : Int} {L : List Rw} {K : Bool → H → Prop} (h : TabSt ub u D n d L) (hDu : ∀ c, D c → u c ≠ none) (hl : L.length ≤ 1000000)
    (hno : (∀ r ∈ L, r.id ≠ id) → ∀ u', TabSt ub u' D n d L → (∀ c o, u c = some o → D c → u' c = some o) → K false u')
    (hyes : (∃ r ∈ L, r.id = id) → ∀ u' L', TabSt ub u' D n d L' → (∀ c o, u c = some o → D c → u' c = some o) → L'.map Rw.pr = tdelP (L.map Rw.pr) id → K true u') : C.theodoliteref05_Table__Delete (some ⟨n, 0, none⟩) id u K := by
  obtain ⟨uT, h1, h2, h3, h4, h5⟩ := h.ex
  let K0 : Bool → H → Prop := fun b v' => ∃ L', TabAt v' n d L' ∧ ub.le v' ∧ ((b = false ∧ (∀ r ∈ L, r.id ≠ id) ∧ L' = L) ∨ (b = true ∧ (∃ r ∈ L, r.id = id) ∧ L'.map Rw.pr = tdelP (L.map Rw.pr) id))
  have hc : C.theodoliteref05_Table__Delete (some ⟨n, 0, none⟩) id uT K0 := spec.theodoliteref05_Table__Delete h3 hl (fun hno => ⟨L, h3, h4, .inl ⟨rfl, hno, rfl⟩⟩)
    fun he u' L' hT' hp hk => ⟨L', hT', fun c o hc => hk c o (h4 c o hc) (fun e => by rw [e, h5] at hc; cases hc), .inr ⟨rfl, he, hp⟩⟩
  refine hc.frame h1 ?_
  rintro b v0' v' hf ⟨L', hT', hub', hcase⟩
  have hst : TabSt ub v' D n d L' := ⟨v0', hf.le, fun c hc => by
    cases hx : u c with
    | none => exact absurd hx (hDu c hc)
    | some o => exact (hf.out c o (h2 c hc) hx).1, hT', hub', h5⟩
  have hkeep : ∀ c o, u c = some o → D c → v' c = some o := fun c o hc hd => (hf.out c o (h2 c hd) hc).2
  rcases hcase with ⟨rfl, hne, rfl⟩ | ⟨rfl, he, hp⟩
  · exact hno hne v' hst hkeep
  · exact hyes he v' L' hst hkeep hp

theorem spec.tabOf {ub u : H} {D : Nat → Prop} {s : Sl} {l : List Rw} {d : Int} {K : Option Addr → H → Prop} (hle : ub.le u) (hDb : ∀ c, D c → ub c = none) (hDu : ∀ c, D c → u c ≠ none) (hs : Rws ub s l) (hl : Rok l d)
    (hK : ∀ n u' L, TabSt ub u' D n d L → (∀ c o, u c = some o → D c → u' c = some o) → (L.map Rw.pr).Perm (l.map Rw.pr) → K (some ⟨n, 0, none⟩) u') : C.theodoliteref05_Of s d u K := by
  let K0 : Option Addr → H → Prop := fun p v' => ∃ n L, p = some ⟨n, 0, none⟩ ∧ ub n = none ∧ ub.le v' ∧ TabAt v' n d L ∧ (L.map Rw.pr).Perm (l.map Rw.pr)
  have hc : C.theodoliteref05_Of s d ub K0 := spec.theodoliteref05_Of hs hl fun n u' L h1 h2 h3 h4 => ⟨n, L, rfl, h1, h2, h3, h4⟩
  refine hc.frame hle ?_
  rintro p v0' v' hf ⟨n, L, rfl, h1, h2, h3, h4⟩
  refine hK n v' L ⟨v0', hf.le, fun c hc => ?_, h3, h2, h1⟩ (fun c o hc hd => (hf.out c o (hDb c hd) hc).2) h4
  cases hx : u c with
  | none => exact absurd hx (hDu c hc)
  | some o => exact (hf.out c o (hDb c hc) hx).1

/-- A tree and a table of the same rows. -/
structure TSt (ub u : H) (D : Nat → Prop) (b : Nat) (X : Tr) (n : Nat) (L : List Rw) : Prop where
  ix : Ix ub u D b X
  tab : TabSt ub u D n X.dim L
  perm : (ixRows X).Perm (L.map Rw.pr)
  ok : Rok L X.dim

theorem TSt.mono {ub u u' : H} {D : Nat → Prop} {b : Nat} {X : Tr} {n : Nat} {L : List Rw} (h : TSt ub u D b X n L) (hu : u.le u') : TSt ub u' D b X n L := ⟨h.ix.mono hu, h.tab.mono hu, h.perm, h.ok⟩
theorem TSt.le {ub u : H} {D : Nat → Prop} {b : Nat} {X : Tr} {n : Nat} {L : List Rw} (h : TSt ub u D b X n L) : ub.le u := h.tab.le

theorem TSt.ids {ub u : H} {D : Nat → Prop} {b : Nat} {X : Tr} {n : Nat} {L : List Rw} (h : TSt ub u D b X n L) (id : Int) : id ∈ (ixRows X).map (·.1) ↔ id ∈ L.map (·.id) := by
  rw [ids_pr]
  exact (h.perm.map _).mem_iff

theorem TSt.len {ub u : H} {D : Nat → Prop} {b : Nat} {X : Tr} {n : Nat} {L : List Rw} (h : TSt ub u D b X n L) : (ixRows X).length = L.length := by
  have := h.perm.length_eq
  simpa using this

theorem spec.theodolitelaw11_looks {ub u : H} {D : Nat → Prop} {b : Nat} {X : Tr} {n : Nat} {L : List Rw} {K : Bool → H → Prop} (h : TSt ub u D b X n L) (hK : ∀ u', u.le u' → K true u') :
    C.theodolitelaw11_looks (some ⟨b, 0, none⟩) (some ⟨n, 0, none⟩) u K := by
  apply vc.theodolitelaw11_looks
  refine spec.ix_Rows h.ix fun s ls u1 hR hp hs => ?_
  intro K2 hK2
  have hu1 : u.le u1 := hR.own.le
  obtain ⟨ts, hn, hRw⟩ := (h.mono hu1).tab.rows
  have hlen := hRw.len
  have c1 : H.cell? u1 ((⟨n, 0, none⟩ : Addr).add 1) = some (.slice ts.a ts.n ts.c) := H.cell?_of hn 1
  refine ⟨_, rfl, ts, c1, ?_⟩
  refine spec.theodolitekeep_Rows hR.rws hRw ?_
  have hpr : (ls.map Rw.pr).Perm (L.map Rw.pr) := hp.trans h.perm
  have hrise : (ls.map Rw.pr).Pairwise fun a b => a.1 < b.1 := by
    rw [List.pairwise_map]
    have hnd : (ls.map (·.id)).Nodup := by
      rw [ids_pr]
      exact ((hpr.map (·.1)).nodup_iff).2 (by rw [← ids_pr]; exact h.tab.nodup)
    rw [List.nodup_iff_pairwise_ne, List.pairwise_map] at hnd
    refine (hs.and hnd).imp fun {x y} hxy => ?_
    have := hxy.1
    have := hxy.2
    show x.id < y.id
    omega
  have e : ls.map Rw.pr = L.map Rw.pr := pr_rise_eq hrise h.tab.rise hpr
  have fin : ∀ bb : Bool, bb = true → K2 bb u1 := fun bb hb => hK2 bb u1 (spec.theodolitekeep_SpoilRows hR fun u' hle _ => by rw [hb]; exact hK u' hle)
  have len : ∀ {A : Int → H → Prop}, A (L.length : Int) u1 → C.hnsw_Tree__Len (some ⟨b, 0, none⟩) u1 A := fun hA => spec.ix_Len (h.ix.mono hu1) (by rw [h.len]; exact hA)
  refine ⟨fun _ => ⟨_, rfl, len ⟨ts, c1, fin _ (decide_eq_true (by omega))⟩, ts, c1, len (fin _ (decide_eq_true (by omega)))⟩, fun hb => ?_⟩
  rw [decide_eq_true e] at hb
  cases hb

theorem OwnF.again {u1 u2 v u3 : H} {e k : Nat} {s : Sl} {xs : List Value} (h : OwnF u1 u2 e k s xs) (hv : v.le u1) (h3 : v.le u3) (hk : ∀ b o, u1 b = none → u2 b = some o → u3 b = some o) : OwnF v u3 e k s xs :=
  ⟨h.own.le fun b o hb hu => hk b o (h.fresh b hb) hu, h3, fun g hg => by
    cases hx : v g with
    | none => rfl
    | some o => have := hv _ _ hx; rw [h.fresh g hg] at this; cases this⟩

theorem AnsO.again {u1 u2 v u3 : H} {sh ss sr : Sl} {hits : List Hit} {seen : List Int} {rest : List Rgn} (h : AnsO u1 u2 sh ss sr hits seen rest) (hv : v.le u1) (h3 : v.le u3) (hk : ∀ b o, u1 b = none → u2 b = some o → u3 b = some o) : AnsO v u3 sh ss sr hits seen rest :=
  ⟨h.h.again hv h3 hk, h.s.again hv h3 hk, h.r.again hv h3 hk, fun r hr => ⟨(h.g r hr).l.again hv h3 hk, (h.g r hr).h.again hv h3 hk, (h.g r hr).i.again hv h3 hk⟩, h.far⟩

theorem ixR_co {X : Tr} {q : List Int} {bud : Int} {rest : List Rgn} (h : rest.map Rgn.core = ixR X q bud) : ∀ r ∈ rest, (∀ x ∈ r.lo, coordOk x) ∧ ∀ x ∈ r.hi, coordOk x := by
  intro r hr
  have hm : r.core ∈ ixR X q bud := by rw [← h]; exact List.mem_map_of_mem hr
  unfold ixR at hm
  split at hm
  · cases hm
  · have := List.mem_singleton.1 hm
    simp only [Rgn.core, Prod.mk.injEq] at this
    obtain ⟨_, _, h3, h4, _⟩ := this
    rw [h3, h4]
    exact ⟨fun x hx => (by cases hx), fun x hx => (by cases hx)⟩

theorem spec.theodolitelaw11_searches {ub u : H} {D : Nat → Prop} {b : Nat} {X : Tr} {n : Nat} {L : List Rw} {kind id k bud rid : Int} {rv qs : Sl} {q : List Int} {K : Bool → H → Prop} (h : TSt ub u D b X n L) (hq : Ints ub qs q) (hb : q.length ≤ 1000000)
    (hK : ∀ u', u.le u' → K true u') : C.theodolitelaw11_searches (some ⟨b, 0, none⟩) (some ⟨n, 0, none⟩) kind id k bud rid rv qs u K := by
  apply vc.theodolitelaw11_searches
  refine spec.theodolitekeep_Lend (hq.mono h.le) hb fun g hg => ?_
  have l1 : u.le (u.ins g (lentObj q)) := H.le_ins _ hg
  have h1 := h.mono l1
  refine spec.ix_Search h1.ix (lent_ints (H.ins_same _ _ _) hb) (fun hne u2 l2 => ?_) (fun he sh ss sr rest u2 ha hr => ?_)
  · intro K7 hK7
    refine spec.theodolitekeep_Back (l2 _ _ (H.ins_same _ _ _)) (hq.mono ((h1.le).trans l2)) hb fun o => ⟨fun hx => absurd rfl hx, fun _ => ?_⟩
    have l3 : u.le (u2.ins g o) := fun c x hc => by
      rw [H.ins_other _ _ (fun e => by rw [e, hg] at hc; cases hc)]
      exact (l1.trans l2) c x hc
    obtain ⟨ts, hn, _⟩ := (h.mono l3).tab.rows
    have c0 : H.cell? (u2.ins g o) ⟨n, 0, none⟩ = some (.int .i64 X.dim) := H.cell?_of hn 0
    have k7 : K7 false (u2.ins g o) := hK7 false _ ⟨fun _ => spec.theodolitekeep_Answer (AnsR.nil _) (AnsR.nil _) rfl (hK _ l3), fun e0 => absurd e0 hne⟩
    have leaf : C.theodoliteref05_Searched qs X.dim k bud (u2.ins g o) (fun (x : Int) (v : H) => ((¬ (askErr q X.dim k bud = x)) → K false v) ∧ ((askErr q X.dim k bud = x) → K7 false v)) :=
      spec.theodoliteref05_Searched (hq.mono (h.le.trans l3)) ⟨fun hx => absurd rfl hx, fun _ => k7⟩
    refine ⟨_, rfl, ?_⟩
    repeat' (first | exact leaf | refine ⟨_, c0, ?_⟩ | apply And.intro)
  · intro K7 hK7
    refine spec.theodolitekeep_Back (ha.le _ _ (H.ins_same _ _ _)) (hq.mono ((h1.le).trans ha.le)) hb fun o => ⟨fun hx => absurd rfl hx, fun _ => ?_⟩
    have l3 : u.le (u2.ins g o) := fun c x hc => by
      rw [H.ins_other _ _ (fun e => by rw [e, hg] at hc; cases hc)]
      exact (l1.trans ha.le) c x hc
    have h3 := h.mono l3
    have hub3 := h3.le
    obtain ⟨ts, hn, hR⟩ := h3.tab.rows
    have c0 : H.cell? (u2.ins g o) ⟨n, 0, none⟩ = some (.int .i64 X.dim) := H.cell?_of hn 0
    have ha3 : AnsO u (u2.ins g o) sh ss sr (ixH X q k bud) (ixS X q bud) rest := ha.again l1 l3 fun c x h1 h2 => by
      rw [H.ins_other _ _ (fun e => by rw [e, H.ins_same] at h1; cases h1)]
      exact h2
    obtain ⟨hv, k1, k2, b1, b2⟩ := askErr_ok.1 he
    obtain ⟨_, _, hql, hvq⟩ := vcheck_ok hv
    have hqok : Qok L q := ⟨hvq, by rw [hql]; exact h.ok⟩
    have obeys : ∀ {v : H} {K' : Bool → H → Prop} {sh ss sr : Sl} {rest : List Rgn}, (u2.ins g o).le v → AnsR v sh ss sr (ixH X q k bud) (ixS X q bud) rest → rest.map Rgn.core = ixR X q bud → K' true v → C.theodoliteref05_Obeys ts qs k bud sh ss sr v K' := fun {v K' sh ss sr rest} hle hr hcore hK' => by
      obtain ⟨s1, s2, s3⟩ := ix_sound h.ix he h.perm.symm hqok hcore
      exact spec.theodoliteref05_Obeys (hR.mono hle) (hq.mono (hub3.trans hle)) hqok (by omega) hr s1 s2 s3 hK'
    have k7 : K7 false (u2.ins g o) := by
      refine hK7 false _ ⟨fun hx => absurd rfl hx, fun _ => ⟨_, rfl, ts, H.cell?_of hn 1, obeys (H.le.refl _) ha3.read hr ⟨fun hx => absurd rfl hx, fun _ => ?_⟩⟩⟩
      refine spec.ix_Search h3.ix (hq.mono hub3) (fun hne => absurd he hne) fun _ sh' ss' sr' rest' u5 hb' hr' => ?_
      refine spec.theodolitekeep_Answer (ha3.mono hb'.le).read hb'.read (hr.trans hr'.symm) ?_
      refine spec.theodolitekeep_Spoil (ha3.mono hb'.le) (ixR_co hr) fun u6 l6 hk6 => ⟨fun _ => ?_, fun e => (by cases e)⟩
      have hb6 := hb'.else (u' := u6) fun x o' e1 e2 => hk6 x o' e2 fun s hs hg' => ha3.known s hs x hg' e1
      have h6 := h.mono l6
      obtain ⟨ts', hn', hR'⟩ := h6.tab.rows
      obtain ⟨s1, s2, s3⟩ := ix_sound h.ix he h.perm.symm hqok hr'
      exact ⟨_, rfl, ts', H.cell?_of hn' 1, spec.theodoliteref05_Obeys hR' (hq.mono h6.le) hqok (by omega) hb6 s1 s2 s3 (hK _ l6)⟩
    have leaf : C.theodoliteref05_Searched qs X.dim k bud (u2.ins g o) (fun (x : Int) (v : H) => ((¬ ((0 : Int) = x)) → K false v) ∧ (((0 : Int) = x) → K7 false v)) := by
      refine spec.theodoliteref05_Searched (hq.mono hub3) ?_
      rw [show (if vcheck q X.dim ≠ 0 then vcheck q X.dim else if k < 1 ∨ 64 < k ∨ bud < 0 ∨ 1000000 < bud then 1 else 0) = 0 from he]
      exact ⟨fun hx => absurd rfl hx, fun _ => k7⟩
    refine ⟨_, rfl, ?_⟩
    repeat' (first | exact leaf | refine ⟨_, c0, ?_⟩ | apply And.intro)

end Go.Proofs.YtpbelkpfljhjlaaGreatDoor

/- VcLawT4 -/
namespace Go.Proofs.YtpbelkpfljhjlaaGreatDoor

theorem rok_pr {L' : List Rw} {d : Int} (hd : 1 ≤ d ∧ d ≤ 64) (hlen : L'.length ≤ 512) (hnd : (L'.map (·.id)).Nodup) (h : ∀ p ∈ L'.map Rw.pr, 1 ≤ p.1 ∧ p.1 ≤ 1000000000 ∧ (p.2.length : Int) = d ∧ vok p.2) : Rok L' d :=
  ⟨hd, hlen, fun r hr => ⟨(h r.pr (List.mem_map_of_mem hr)).1, (h r.pr (List.mem_map_of_mem hr)).2.1⟩, hnd, fun r hr => (h r.pr (List.mem_map_of_mem hr)).2.2⟩

theorem rok_all {L : List Rw} {d : Int} (h : Rok L d) : ∀ p ∈ L.map Rw.pr, 1 ≤ p.1 ∧ p.1 ≤ 1000000000 ∧ (p.2.length : Int) = d ∧ vok p.2 := by
  intro p hp
  obtain ⟨r, hr, rfl⟩ := List.mem_map.1 hp
  exact ⟨(h.id r hr).1, (h.id r hr).2, h.v r hr⟩

theorem tputP_all (P : List Pr) (id : Int) (v : List Int) : (tputP P id v).Perm ((id, v) :: P.filter fun p => p.1 != id) := by
  unfold tputP
  refine List.perm_middle.trans (List.Perm.cons _ ?_)
  have e1 : P.filter (fun p => decide (p.1 < id)) = (P.filter fun p => p.1 != id).filter fun p => decide (p.1 < id) := by
    rw [List.filter_filter]
    refine List.filter_congr fun p _ => ?_
    by_cases h : p.1 < id
    · have : p.1 ≠ id := by omega
      simp [h, this]
    · simp [h]
  have e2 : P.filter (fun p => decide (id < p.1)) = (P.filter fun p => p.1 != id).filter fun p => !decide (p.1 < id) := by
    rw [List.filter_filter]
    refine List.filter_congr fun p _ => ?_
    by_cases h : id < p.1
    · have h1 : p.1 ≠ id := by omega
      have h2 : ¬ p.1 < id := by omega
      simp [h, h1, h2]
    · by_cases h2 : p.1 < id
      · simp [h, h2]
      · have : p.1 = id := by omega
        simp [this]
  rw [e1, e2]
  exact List.filter_append_perm _ _

theorem mayErr_ok {id : Int} {v : List Int} {d : Int} {there : Bool} {many : Int} (h : mayErr id v d there many = 0) : 1 ≤ id ∧ id ≤ 1000000000 ∧ vcheck v d = 0 ∧ (there = false → many < 512) := by
  unfold mayErr at h
  split at h
  · omega
  · split at h
    · rename_i h1 h2; exact absurd h h2
    · split at h
      · omega
      · rename_i h1 h2 h3
        refine ⟨by omega, by omega, by omega, fun ht => ?_⟩
        by_cases hm : many < 512
        · exact hm
        · exact absurd ⟨ht, by omega⟩ h3

theorem filter_ne_lt {P : List Pr} {id : Int} (h : id ∈ P.map (·.1)) : (P.filter fun p => p.1 != id).length < P.length := by
  obtain ⟨p, hp1, hp2⟩ := List.mem_map.1 h
  exact List.length_filter_lt_length_iff_exists.2 ⟨p, hp1, by simp [hp2]⟩

theorem Ix.rebase {u0 u v : H} {D : Nat → Prop} {b : Nat} {X : Tr} (h : Ix u0 u D b X) (hv : v.le u0) : Ix v u D b X := by
  obtain ⟨fp, h1, h2, h3⟩ := h.ex
  exact ⟨fp, h1, ⟨h2.tr, hv.trans h2.le, fun c hc => by
    cases hx : v c with
    | none => rfl
    | some o => have := hv _ _ hx; rw [h2.out c hc] at this; exact (nomatch this), h2.known⟩, h3⟩

theorem rok_put {L L' : List Rw} {d id : Int} {q : List Int} (h : Rok L d) (hp : L'.map Rw.pr = tputP (L.map Rw.pr) id q) (hnd : (L'.map (·.id)).Nodup) (he : mayErr id q d (decide (id ∈ L.map (·.id))) L.length = 0) : Rok L' d := by
  obtain ⟨h1, h2, h3, h4⟩ := mayErr_ok he
  obtain ⟨_, _, h5, h6⟩ := vcheck_ok h3
  have hperm := tputP_all (L.map Rw.pr) id q
  rw [← hp] at hperm
  have hlen : L'.length ≤ 512 := by
    have e := hperm.length_eq
    simp only [List.length_map, List.length_cons] at e
    by_cases hm : id ∈ L.map (·.id)
    · rw [ids_pr] at hm
      have := filter_ne_lt hm
      have hl := h.len
      rw [List.length_map] at this
      omega
    · have := h4 (by simp only [decide_eq_false_iff_not]; exact hm)
      have h7 := List.length_filter_le (fun p : Pr => p.1 != id) (L.map Rw.pr)
      rw [List.length_map] at h7
      omega
  refine rok_pr h.dim hlen hnd fun p hp => ?_
  rcases List.mem_cons.1 (hperm.mem_iff.1 hp) with rfl | hp
  · exact ⟨h1, h2, h5, h6⟩
  · exact rok_all h p (List.mem_filter.1 hp).1

theorem rok_del {L L' : List Rw} {d id : Int} (h : Rok L d) (hp : L'.map Rw.pr = tdelP (L.map Rw.pr) id) (hnd : (L'.map (·.id)).Nodup) : Rok L' d := by
  have hlen : L'.length ≤ 512 := by
    have e := congrArg List.length hp
    have h7 := List.length_filter_le (fun p : Pr => p.1 != id) (L.map Rw.pr)
    have hl := h.len
    unfold tdelP at e
    rw [List.length_map] at e h7
    omega
  refine rok_pr h.dim hlen hnd fun p hp' => ?_
  rw [hp] at hp'
  exact rok_all h p (List.mem_filter.1 hp').1

theorem TSt.known {ub u : H} {D : Nat → Prop} {b : Nat} {X : Tr} {n : Nat} {L : List Rw} (h : TSt ub u D b X n L) : ∀ c, D c → u c ≠ none := h.ix.base.2.2

theorem spec.theodolitelaw11_step {ub u : H} {D : Nat → Prop} {b : Nat} {X : Tr} {n : Nat} {L : List Rw} {o : Cll} {K : Bool → H → Prop} (h : TSt ub u D b X n L) (hTab : TabU ub) (hv : Ints ub o.rv o.v) (hq : Ints ub o.qs o.q) (hvb : o.v.length ≤ 1000000) (hqb : o.q.length ≤ 1000000)
    (hK : ∀ u' D' X' L', TSt ub u' D' b X' n L' → X'.dim = X.dim → X'.links = X.links → K true u') : C.theodolitelaw11_step (some ⟨b, 0, none⟩) (some ⟨n, 0, none⟩) o.kind o.id o.k o.bud o.rid o.rv o.qs u K := by
  have fin : ∀ {bb : Bool} {u'} {D' X' L'}, bb = true → TSt ub u' D' b X' n L' → X'.dim = X.dim → X'.links = X.links → K bb u' := fun hb h1 h2 h3 => by rw [hb]; exact hK _ _ _ _ h1 h2 h3
  have hL : L.length ≤ 1000000 := by have := h.ok.len; omega
  apply vc.theodolitelaw11_step
  refine ⟨fun _ => ?_, fun _ => ⟨fun _ => ?_, fun _ => ⟨fun _ => spec.theodolitelaw11_searches h hq hqb fun u' hu' => hK _ _ _ _ (h.mono hu') rfl rfl, fun _ => spec.theodolitelaw11_looks h fun u' hu' => hK _ _ _ _ (h.mono hu') rfl rfl⟩⟩⟩
  · refine spec.theodolitekeep_Lend (hv.mono h.le) hvb fun g hg => ?_
    have l1 : u.le (u.ins g (lentObj o.v)) := H.le_ins _ hg
    have h1 := h.mono l1
    have hgD : ¬ D g := fun hd => h.known g hd hg
    have hub : ub g = none := by
      cases hx : ub g with
      | none => rfl
      | some x => have := h.le _ _ hx; rw [hg] at this; cases this
    have edec : decide (o.rid ∈ (ixRows X).map (·.1)) = decide (o.rid ∈ L.map (·.id)) := decide_eq_decide.2 (h.ids o.rid)
    have edec' : decide (o.rid ∉ (ixRows X).map (·.1)) = decide (o.rid ∉ L.map (·.id)) := decide_eq_decide.2 (not_congr (h.ids o.rid))
    have eerr : mayErr o.rid o.v X.dim (decide (o.rid ∈ (ixRows X).map (·.1))) (ixRows X).length = mayErr o.rid o.v X.dim (decide (o.rid ∈ L.map (·.id))) L.length := by rw [edec, h.len]
    refine spec.ix_Put h1.ix hTab (lent_ints (H.ins_same _ _ _) hvb) (fun g' hg' hd => by
      have : g' = g := by simp [Sl.blk] at hg'; exact hg'.symm
      exact hgD (this ▸ hd)) (fun hne => ?_) (fun he u2 D2 X2 hX2 ht hp hdim hlinks => ?_)
    · rw [eerr] at hne ⊢
      refine spec.theodolitekeep_Back (H.ins_same _ _ _) (hv.mono h1.le) hvb fun x => ?_
      have l3 : u.le ((u.ins g (lentObj o.v)).ins g x) := fun c y hc => by
        rw [H.ins_other _ _ (fun e => by rw [e, hg] at hc; cases hc)]
        exact l1 c y hc
      have h3 := h.mono l3
      refine spec.tabPut h3.tab h3.known hL hv (fun _ u' hst hk => ?_) (fun he => absurd he hne)
      exact ⟨fun _ => ⟨fun _ => fin (decide_eq_true rfl) ⟨h3.ix.same hk hst.le, hst, h.perm, h.ok⟩ rfl rfl, fun hx => absurd rfl hx⟩, fun e => (by cases e)⟩
    · have hgk : u2 g = some (lentObj o.v) := ht.keep _ _ (H.ins_same _ _ _) hgD
      have hgD2 : ¬ D2 g := fun hd => by
        rcases ht.grow g hd with h5 | h5
        · exact hgD h5
        · rw [H.ins_same] at h5; cases h5
      refine spec.theodolitekeep_Back hgk (hv.mono hX2.base.1) hvb fun x => ?_
      have t2 : TabSt ub u2 D2 n X.dim L := h1.tab.turn ht
      have t3 : TabSt ub (u2.ins g x) D2 n X.dim L := by
        obtain ⟨uT, e1, e2, e3, e4, e5⟩ := h.tab.ex
        have k1 := (h1.tab.turn ht)
        obtain ⟨k2, k3⟩ := ht.apart (e1.trans l1) e2
        refine ⟨uT, fun c y hc => ?_, k3, e3, e4, e5⟩
        rw [H.ins_other _ _ (fun e => by have := e1 _ _ hc; rw [e, hg] at this; cases this)]
        exact k2 c y hc
      have i3 : Ix ub (u2.ins g x) D2 b X2 := hX2.same (fun c y hc hd => by rw [H.ins_other _ _ (fun e => hgD2 (by rw [← e]; exact hd))]; exact hc) t3.le
      refine spec.tabPut t3 i3.base.2.2 hL hv (fun hne => absurd (eerr ▸ he) hne) fun he' u' L' hst hk hpL => ?_
      have hrok := rok_put h.ok hpL hst.nodup he'
      have hperm : (ixRows X2).Perm (L'.map Rw.pr) := by
        rw [hpL]
        exact hp.trans ((List.Perm.cons _ (h.perm.filter _)).trans (tputP_all _ _ _).symm)
      rw [edec']
      exact ⟨fun _ => ⟨fun _ => fin (decide_eq_true rfl) ⟨i3.same hk hst.le, hdim ▸ hst, hperm, hdim ▸ hrok⟩ hdim hlinks, fun hx => absurd rfl hx⟩, fun e => (by cases e)⟩
  · refine spec.ix_Delete h.ix (fun hno u2 l2 => ?_) (fun hyes u2 D2 X2 hX2 ht hp hdim hlinks => ?_)
    · have h2 := h.mono l2
      refine spec.tabDelete h2.tab h2.known hL (fun _ u' hst hk => ?_) (fun hy => ?_)
      · exact ⟨fun _ => fin (decide_eq_true rfl) ⟨h2.ix.same hk hst.le, hst, h.perm, h.ok⟩ rfl rfl, fun hx => absurd rfl hx⟩
      · obtain ⟨r, hr, he⟩ := hy
        exact absurd ((h.ids o.id).2 (List.mem_map.2 ⟨r, hr, he⟩)) hno
    · refine spec.tabDelete (h.tab.turn ht) hX2.base.2.2 hL (fun hno => ?_) (fun _ u' L' hst hk hpL => ?_)
      · obtain ⟨r, hr, he⟩ := List.mem_map.1 ((h.ids o.id).1 hyes)
        exact absurd he (hno r hr)
      · have hperm : (ixRows X2).Perm (L'.map Rw.pr) := by
          rw [hpL, hp]
          exact h.perm.filter _
        exact ⟨fun _ => fin (decide_eq_true rfl) ⟨hX2.same hk hst.le, hdim ▸ hst, hperm, hdim ▸ rok_del h.ok hpL hst.nodup⟩ hdim hlinks, fun hx => absurd rfl hx⟩

end Go.Proofs.YtpbelkpfljhjlaaGreatDoor

/- VcLawT5 -/
namespace Go.Proofs.YtpbelkpfljhjlaaGreatDoor

theorem dec_not {p q : Prop} [Decidable p] [Decidable q] (h : p ↔ ¬ q) : decide p = !decide q := by
  by_cases hq : q <;> simp [h, hq]

theorem buildErr_pr {d a : Int} {l l' : List Rw} (h : l.map Rw.pr = l'.map Rw.pr) : buildErr l d a = buildErr l' d a := by
  unfold buildErr
  rw [rcheck_pr h]

theorem buildErr_rok {l : List Rw} {d a : Int} (h : buildErr l d a = 0) : Rok l d ∧ 1 ≤ a ∧ a ≤ 16 := by
  unfold buildErr at h
  split at h
  · rename_i h1; exact absurd h h1
  · rename_i h1
    refine ⟨rcheck_ok.1 (Classical.not_not.1 h1), ?_⟩
    split at h
    · cases h
    · omega

theorem rok_perm {L l : List Rw} {d : Int} (h : Rok l d) (hp : (L.map Rw.pr).Perm (l.map Rw.pr)) : Rok L d := by
  have hlen := hp.length_eq
  rw [List.length_map, List.length_map] at hlen
  refine rok_pr h.dim (by have := h.len; omega) ?_ fun p hp' => rok_all h p (hp.mem_iff.1 hp')
  rw [ids_pr, (hp.map (·.1)).nodup_iff, ← ids_pr]
  exact h.nodup

theorem law.HnswBuild {s : Sl} {l : List Rw} {dim A B seed : Int} {u : H} {K : Bool → H → Prop} (hTab : TabU u) (hs : Rws u s l) (hsm : ∀ r ∈ l, r.v.length ≤ 17592186044416) (hsn : s.n ≤ 17592186044416) (hU : U64 seed) (h : ∀ u', u.le u' → K true u') :
    C.theodolitelaw11_HnswBuild s dim A B seed u K := by
  apply vc.theodolitelaw11_HnswBuild
  refine spec.theodolitelaw11_big (ops := []) ⟨hs, Ops.nil u, hsm, hsn, fun o ho => (by cases ho), by show 0 ≤ 17592186044416; omega⟩ ⟨fun _ => h u (H.le.refl u), fun e => (by cases e)⟩ fun hl _ hv _ => ⟨fun e => (by cases e), fun _ => ?_⟩
  refine spec.theodolitelaw11_wrong hs ?_
  refine spec.theodolitekeep_LendRows hs (by omega) (fun r hr => by have := hv r hr; omega) fun g ls u5 l5 hg hg5 hL hpr => ?_
  have hll : ls.length = l.length := by simpa using congrArg List.length hpr
  have hrs : Rws u5 ⟨some ⟨g, 0, none⟩, l.length, l.length + 1⟩ ls := by
    have := hL.rws hg5 (c := l.length + 1) (by omega) (by omega)
    rwa [hll] at this
  have ebe : buildErr ls dim A = buildErr l dim A := buildErr_pr hpr
  refine vc.theodolitelaw11_build _ _ _ _ _ _ _ ?_
  refine spec.ix_Build hrs (hTab.mono l5) hU (fun hne => ?_) (fun he b D X u8 hX hp hdim hlinks => ?_)
  · refine spec.theodolitekeep_BackRows hg5 hg hL l5 hs hpr (by omega) fun u10 l10 _ => ?_
    intro K11 h11
    rw [ebe] at hne
    refine ⟨fun hx => absurd rfl hx, fun _ => ⟨fun hx => absurd ebe hx, fun _ => ⟨fun hx => absurd (dec_not ⟨fun _ => hne, fun _ => rfl⟩) hx, fun _ => ?_⟩⟩⟩
    exact h11 _ _ (spec.theodolitelaw11_awake (hTab.mono l10) fun u15 l15 => ⟨fun _ => ⟨fun _ => h _ (l10.trans l15), fun hx => absurd rfl hx⟩, fun e => (by cases e)⟩)
  · have hb5 := hX.base
    have hg8 := hb5.1 _ _ hg5
    refine spec.theodolitekeep_BackRows hg8 hg (hL.else fun c o _ hc => hb5.1 c o hc) (l5.trans hb5.1) hs hpr (by omega) fun u10 l10 hk => ?_
    intro K11 h11
    rw [ebe] at he
    refine ⟨fun hx => absurd rfl hx, fun _ => ⟨fun hx => absurd he.symm hx, fun _ => ⟨fun hx => absurd (dec_not ⟨fun e => (by cases e), fun e => absurd he e⟩) hx, fun _ => ?_⟩⟩⟩
    refine h11 _ _ (spec.theodolitelaw11_awake (hTab.mono l10) fun u15 l15 => ⟨fun _ => ⟨fun e => (by cases e), fun _ => ?_⟩, fun e => (by cases e)⟩)
    have i10 : Ix u u10 D b X := (hX.rebase l5).same (fun c o hc hd => hk c o hc (fun e => by
      have := hb5.2.1 c hd
      rw [e, hg5] at this; cases this) fun r hr hbk => by
        obtain ⟨x, h1, h2, _, _, _⟩ := hL.inner r hr
        have : x = c := by rw [h1] at hbk; simpa [Sl.blk] using hbk
        have h3 := hb5.2.1 c hd
        rw [← this, h2] at h3; cases h3) l10
    have i15 := i10.mono l15
    have hrok := (buildErr_rok he).1
    refine spec.tabOf (l10.trans l15) i15.base.2.1 i15.base.2.2 hs hrok fun n u17 L hst hk17 hpL => ?_
    refine spec.theodolitelaw11_looks (ub := u) (D := D) (X := X) (L := L) ⟨i15.same hk17 hst.le, hdim.symm ▸ hst, ?_, hdim.symm ▸ rok_perm hrok hpL⟩ fun u19 l19 => h _ (hst.le.trans l19)
    refine hp.trans ?_
    rw [hpr]
    exact hpL.symm

theorem law.HnswRuns {s t : Sl} {l : List Rw} {ops : List Cll} {dim A B seed : Int} {u : H} {K : Bool → H → Prop} (hTab : TabU u) (hc : Come2 u s t l ops) (hU : U64 seed) (h : ∀ u', u.le u' → K true u') :
    C.theodolitelaw11_HnswRuns s dim A B seed t u K := by
  apply vc.theodolitelaw11_HnswRuns
  refine spec.theodolitelaw11_big hc ⟨fun _ => h u (H.le.refl u), fun e => (by cases e)⟩ fun hl _ hv hvo => ⟨fun e => (by cases e), fun _ => ?_⟩
  refine vc.theodolitelaw11_build _ _ _ _ _ _ _ ?_
  have htn := hc.tn
  refine spec.ix_Build hc.rows hTab hU (fun hne => ?_) (fun he b D X u4 hX hp hdim hlinks => ?_)
  · intro K5 h5
    refine ⟨fun _ => h5 _ _ ⟨fun _ => spec.theodolitelaw11_awake hTab fun u9 l9 => ⟨fun _ => ⟨fun _ => spec.theodolitelaw11_wrong (hc.rows.mono l9) ?_, fun hx => absurd rfl hx⟩, fun e => (by cases e)⟩, fun e => (by cases e)⟩, fun e0 => absurd e0 hne⟩
    exact (show ∀ bb : Bool, bb = true → K bb u9 from fun bb hb => by rw [hb]; exact h _ l9) _ (decide_eq_true rfl)
  · intro K5 h5
    refine ⟨fun hx => absurd rfl hx, fun _ => h5 _ _ ⟨fun ht => (by have := of_decide_eq_true ht; cases this), fun _ => ?_⟩⟩
    have hb4 := hX.base
    have hrok := (buildErr_rok he).1
    refine spec.tabOf hb4.1 hb4.2.1 hb4.2.2 hc.rows hrok fun n u13 L hst hk hpL => ?_
    have st0 : TSt u u13 D b X n L := ⟨hX.same hk hst.le, hdim.symm ▸ hst, hp.trans hpL.symm, hdim.symm ▸ rok_perm hrok hpL⟩
    refine ⟨fun _ x v => 0 ≤ x ∧ ∃ D X L, TSt u v D b X n L, fun _ x _ => ((t.n : Int) - x).toNat, ⟨by omega, D, X, L, st0⟩, fun b16 x v hI => ⟨fun hx => ?_, fun hx => ?_⟩⟩
    · obtain ⟨h0, D, X, L, hst⟩ := hI
      obtain ⟨p, hp, o, _, hmem, c0, c1, c2, c3, c4, c5, c6, _, _⟩ := (hc.calls.mono hst.le).at h0 hx
      refine ⟨p, hp, ⟨h0, hx⟩, _, c0, _, c1, _, c2, _, c3, _, c4, _, c5, _, c6, ?_⟩
      obtain ⟨hov, hoq⟩ := hc.calls.2 o hmem
      have hb := hvo o hmem
      refine spec.theodolitelaw11_step hst hTab hov hoq (by omega) (by omega) fun u' D' X' L' h' _ _ => ⟨fun hx => absurd rfl hx, fun _ => ⟨⟨by omega, by omega⟩, ⟨by omega, D', X', L', h'⟩, by dsimp only; omega⟩⟩
    · obtain ⟨h0, D, X, L, hst⟩ := hI
      exact spec.theodolitelaw11_awake (hTab.mono hst.le) fun u30 l30 => ⟨fun _ => spec.theodolitelaw11_looks (hst.mono l30) fun u32 l32 => h _ ((hst.le.trans l30).trans l32), fun e => (by cases e)⟩

end Go.Proofs.YtpbelkpfljhjlaaGreatDoor

/- VcLawT6 -/
namespace Go.Proofs.YtpbelkpfljhjlaaGreatDoor

theorem spec.hnsw_Tree__PutB {u0 u : H} {fp : Nat → Option Tg} {b : Nat} {T : Tr} {id : Int} {t : Sl} {q : List Int} {K : Bool → Int → H → Prop} (h : In u0 u fp b T) (hT : TOk T) (hTab : TabU u0) (ht0 : Ints u0 t q)
    (hbad : mayErr id q T.dim (decide (id ∈ T.g.map (·.1))) T.g.length ≠ 0 → K false (mayErr id q T.dim (decide (id ∈ T.g.map (·.1))) T.g.length) u)
    (hok : mayErr id q T.dim (decide (id ∈ T.g.map (·.1))) T.g.length = 0 → ∀ u' fp' T', PutRes u0 u fp b T id q u' fp' T' → K (decide (id ∉ T.g.map (·.1))) 0 u') : C.hnsw_Tree__Put (some ⟨b, 0, none⟩) id t u K := by
  have ht := ht0.mono h.le
  obtain ⟨c0, _, _, c3, _⟩ := tree_cells h.tr
  apply vc.hnsw_Tree__Put
  refine ⟨fun e => (by cases e), fun _ => ⟨_, rfl, _, c3, ?_⟩⟩
  refine sem_get2 nodeTy h.tr.map (ct := .ptr) ((getN T.g id).map fun n => (⟨n.p, 0, none⟩ : Addr)) (by rw [getL_ptrs]; cases getN T.g id <;> rfl) ?_
  have hsome : (getL (ptrs T.g) id).isSome = decide (id ∈ T.g.map (·.1)) := by
    rw [getL_ptrs, Option.isSome_map]
    cases e : getN T.g id with
    | none => rw [decide_eq_false (getN_none.1 e)]; rfl
    | some n => rw [decide_eq_true (List.mem_map.2 ⟨_, getN_mem e, rfl⟩)]; rfl
  rw [hsome]
  refine ⟨_, rfl, _, rfl, _, c0, _, c3, sem_maplen nodeTy h.tr.map ⟨H.le.refl u, spec.flat_May ht ?_⟩⟩
  rw [ptrs_len]
  refine ⟨fun hne => hbad hne, fun he => ?_⟩
  have hok := hok he
  have hids : ¬ (id < 1 ∨ 1000000000 < id) ∧ vcheck q T.dim = 0 ∧ ¬ (decide (id ∈ T.g.map (·.1)) = false ∧ 512 ≤ (T.g.length : Int)) := by
    unfold mayErr at he
    by_cases h1 : id < 1 ∨ 1000000000 < id
    · rw [if_pos h1] at he; cases he
    · rw [if_neg h1] at he
      by_cases h2 : vcheck q T.dim ≠ 0
      · rw [if_pos h2] at he; exact absurd he h2
      · rw [if_neg h2] at he
        by_cases h3 : decide (id ∈ T.g.map (·.1)) = false ∧ 512 ≤ (T.g.length : Int)
        · rw [if_pos h3] at he; cases he
        · exact ⟨h1, by simpa using h2, h3⟩
  obtain ⟨d1, d2, d3, d4⟩ := vcheck_ok hids.2.1
  -- behind the deletion
  have lay : ∀ (u1 : H) (fp1 : Nat → Option Tg) (T1 : Tr), In u0 u1 fp1 b T1 → Turn u fp u1 fp1 → TOk T1 → rowsG T1.g = (rowsG T.g).filter (fun x => x.1 != id) → T1.dim = T.dim → T1.links = T.links →
      C.slices_Clone___int_int_ t u1 fun s16 u17 => H.le u1 u17 ∧ C.hnsw_Tree__lay (some ⟨b, 0, none⟩) id s16 u17 fun u18 => K (!decide (decide (id ∈ T.g.map (·.1)) = true)) 0 u18 := by
    intro u1 fp1 T1 h1 ht1 hT1 hr1 hd1 hl1
    have hi1 : Ints u1 t q := ht0.mono h1.le
    refine spec.slices_Clone___int_int_ hi1 (by have := hi1.len; omega) fun s16 u17 ho16 _ => ⟨ho16.le, ?_⟩
    have h17 := h1.mono ho16.le
    obtain ⟨fp2, h2, hv2, hk2⟩ := h17.tagVec (s := s16) (fun g hg => ⟨h1.fresh (ho16.fresh g hg), h1.le.none (ho16.fresh g hg), own_known' ho16 hg⟩) id
    have hnin : id ∉ T1.g.map (·.1) := fun hm => by
      rw [← rowsG_ids, hr1] at hm
      obtain ⟨x, hx, e⟩ := List.mem_map.1 hm
      have := (List.mem_filter.1 hx).2
      simp [e] at this
    have hlen : T1.g.length ≤ 512 := by
      have e1 : T1.g.length = ((rowsG T.g).filter fun x => x.1 != id).length := by rw [← hr1]; simp [rowsG]
      by_cases hin : id ∈ T.g.map (·.1)
      · have : ((rowsG T.g).filter fun x => x.1 != id).length < (rowsG T.g).length := by
          rw [List.length_filter_lt_length_iff_exists]
          rw [← rowsG_ids] at hin
          obtain ⟨x, hx, e⟩ := List.mem_map.1 hin
          exact ⟨x, hx, by simp [e]⟩
        have h5 : (rowsG T.g).length = T.g.length := by simp [rowsG]
        have := hT.k.ok.small
        omega
      · have h4 : ¬ 512 ≤ (T.g.length : Int) := fun h5 => hids.2.2 ⟨decide_eq_false hin, h5⟩
        have h5 : (rowsG T.g).length = T.g.length := by simp [rowsG]
        have := List.length_filter_le (fun x : Int × List Int => x.1 != id) (rowsG T.g)
        omega
    refine spec.hnsw_Tree__lay h2 hT1 hTab hnin (by omega) ho16.ints hv2 ⟨by rw [hd1]; exact d3, d4⟩ hlen fun u18 fp3 T3 h3 ht3 hT3 hr3 hd3 hl3 => ?_
    have hb : (!decide (decide (id ∈ T.g.map (·.1)) = true)) = decide (id ∉ T.g.map (·.1)) := by
      by_cases hin : id ∈ T.g.map (·.1) <;> simp [hin]
    rw [hb]
    refine hok u18 fp3 T3 ⟨h3, ?_, hT3, ?_, hd3.trans hd1, hl3.trans hl1⟩
    · have gone : ∀ c, u1 c = none → fp c ≠ none ∨ u c = none := fun c hc => by
        cases e : fp c with
        | some x => exact .inl (by simp)
        | none =>
          cases e2 : u c with
          | none => exact .inr rfl
          | some o => rw [ht1.keep c o e2 e] at hc; cases hc
      refine ⟨fun c o hc hf => ?_, fun c hc => ?_⟩
      · have h5 := ht1.keep c o hc hf
        have e : s16.blk ≠ some c := fun e => by have := ho16.fresh c e; rw [h5] at this; cases this
        exact ht3.keep c o (ho16.le c o h5) (by rw [hk2 c e]; exact ht1.none hc hf)
      · rcases ht3.grow c hc with h5 | h5
        · by_cases e : s16.blk = some c
          · exact gone c (ho16.fresh c e)
          · rw [hk2 c e] at h5; exact ht1.grow c h5
        · exact gone c (ho16.le.none h5)
    · rw [hr3, hr1]
      exact List.perm_append_singleton _ _
  refine spec.hnsw_Tree__Delete h hT (fun hno u1 hu1 => ?_) fun n hn u1 fp1 T1 hres => ?_
  · refine lay u1 fp T (h.mono hu1) (Turn.mono hu1) hT ?_ rfl rfl
    refine (List.filter_eq_self.2 fun x hx => ?_).symm
    have : x.1 ≠ id := fun e => getN_none.1 hno (by rw [← rowsG_ids]; exact List.mem_map.2 ⟨x, hx, e⟩)
    simpa using this
  · exact lay u1 fp1 T1 hres.is hres.turn hres.ok hres.rows hres.dim hres.links

theorem spec.ix_PutB {u0 u : H} {D : Nat → Prop} {b : Nat} {X : Tr} {id : Int} {t : Sl} {q : List Int} {K : Bool → Int → H → Prop} (h : Ix u0 u D b X) (hTab : TabU u0) (ht : Ints u0 t q)
    (hbad : mayErr id q X.dim (decide (id ∈ (ixRows X).map (·.1))) (ixRows X).length ≠ 0 → K false (mayErr id q X.dim (decide (id ∈ (ixRows X).map (·.1))) (ixRows X).length) u)
    (hok : mayErr id q X.dim (decide (id ∈ (ixRows X).map (·.1))) (ixRows X).length = 0 → ∀ u' D' X', Ix u0 u' D' b X' → IxTurn u D u' D' → (ixRows X').Perm ((id, q) :: (ixRows X).filter fun x => x.1 != id) → X'.dim = X.dim → X'.links = X.links → K (decide (id ∉ (ixRows X).map (·.1))) 0 u') :
    C.hnsw_Tree__Put (some ⟨b, 0, none⟩) id t u K := by
  obtain ⟨fp, h1, h2, h3⟩ := h.ex
  have hl : (ixRows X).length = X.g.length := by simp [ixRows, rowsG]
  have hd : decide (id ∈ X.g.map (·.1)) = decide (id ∈ (ixRows X).map (·.1)) := decide_eq_decide.2 (ix_mem X id)
  have hd2 : decide (id ∉ X.g.map (·.1)) = decide (id ∉ (ixRows X).map (·.1)) := decide_eq_decide.2 (not_congr (ix_mem X id))
  refine spec.hnsw_Tree__PutB h2 h3 hTab ht (fun hne => ?_) fun he u' fp' T' hr => ?_
  · rw [hd, ← hl] at hne ⊢; exact hbad hne
  · rw [hd, ← hl] at he
    rw [hd2]
    exact hok he u' _ T' (ix_of hr.is hr.ok) (turn_ix h1 hr.turn) hr.rows hr.dim hr.links

theorem ix_rok {u0 u : H} {D : Nat → Prop} {b : Nat} {X : Tr} (h : Ix u0 u D b X) (hf : (ixRows X).length ≤ 512) {L : List Rw} (hp : (L.map Rw.pr).Perm (ixRows X)) : Rok L X.dim := by
  obtain ⟨fp, _, h2, h3⟩ := h.ex
  have hn := hp.length_eq
  rw [List.length_map] at hn
  refine rok_pr h3.k.ok.dm (by omega) ?_ fun p hp' => ?_
  · rw [ids_pr, (hp.map (·.1)).nodup_iff]
    exact h.rowsOk
  · obtain ⟨x, hx, rfl⟩ := List.mem_map.1 (hp.mem_iff.1 hp')
    exact ⟨(h3.k.ok.ids x hx).1, (h3.k.ok.ids x hx).2, h3.k.ok.vec x hx⟩

/-- A put leaves few rows. -/
theorem few_put {P P' : List Pr} {id : Int} {q : List Int} {d : Int} (hf : P.length ≤ 512) (he : mayErr id q d (decide (id ∈ P.map (·.1))) P.length = 0) (hp : P'.Perm ((id, q) :: P.filter fun x => x.1 != id)) : P'.length ≤ 512 := by
  obtain ⟨_, _, _, h4⟩ := mayErr_ok he
  have e := hp.length_eq
  simp only [List.length_cons] at e
  by_cases hm : id ∈ P.map (·.1)
  · have := filter_ne_lt hm
    omega
  · have := h4 (by simp only [decide_eq_false_iff_not]; exact hm)
    have h7 := List.length_filter_le (fun p : Pr => p.1 != id) P
    omega

theorem spec.theodolitelaw11_plays {ub u : H} {D : Nat → Prop} {b : Nat} {X : Tr} {t : Sl} {ops : List Cll} {K : H → Prop} (h : Ix ub u D b X) (hf : (ixRows X).length ≤ 512) (hTab : TabU ub) (hO : Ops ub t ops) (htn : t.n ≤ 17592186044416)
    (hK : ∀ u' D' X', Ix ub u' D' b X' → (ixRows X').length ≤ 512 → X'.dim = X.dim → X'.links = X.links → IxTurn u D u' D' → K u') : C.theodolitelaw11_plays (some ⟨b, 0, none⟩) t u K := by
  apply vc.theodolitelaw11_plays
  refine ⟨fun x v => 0 ≤ x ∧ ∃ D' X', Ix ub v D' b X' ∧ (ixRows X').length ≤ 512 ∧ X'.dim = X.dim ∧ X'.links = X.links ∧ IxTurn u D v D', fun x _ => ((t.n : Int) - x).toNat, ⟨by omega, D, X, h, hf, rfl, rfl, IxTurn.mono (H.le.refl u)⟩, fun x v hI => ⟨fun hx => ?_, fun hx => ?_⟩⟩
  · obtain ⟨h0, D', X', hX, hf', hd, hl, ht⟩ := hI
    obtain ⟨p, hp, o, _, hmem, c0, c1, c2, c3, c4, c5, c6, hv, hq⟩ := (hO.mono hX.base.1).at h0 hx
    have next : ∀ {v' : H} {D2 : Nat → Prop} {X2 : Tr}, Ix ub v' D2 b X2 → (ixRows X2).length ≤ 512 → X2.dim = X'.dim → X2.links = X'.links → IxTurn v D' v' D2 →
        InR (x + 1) ∧ (0 ≤ x + 1 ∧ ∃ D' X', Ix ub v' D' b X' ∧ (ixRows X').length ≤ 512 ∧ X'.dim = X.dim ∧ X'.links = X.links ∧ IxTurn u D v' D') ∧ ((t.n : Int) - (x + 1)).toNat < ((t.n : Int) - x).toNat := fun i1 i2 i3 i4 i5 =>
      ⟨⟨by omega, by omega⟩, ⟨by omega, _, _, i1, i2, i3.trans hd, i4.trans hl, ht.trans i5⟩, by omega⟩
    refine ⟨p, hp, ⟨h0, hx⟩, _, c0, fun _ => ⟨p, hp, ⟨h0, hx⟩, _, c4, _, c5, ?_⟩, fun _ => ⟨fun _ => ⟨p, hp, ⟨h0, hx⟩, _, c1, ?_⟩, fun _ => next hX hf' rfl rfl (IxTurn.mono (H.le.refl v))⟩⟩
    · refine spec.ix_PutB hX hTab (hO.2 o hmem).1 (fun _ => next hX hf' rfl rfl (IxTurn.mono (H.le.refl v))) fun he v' D2 X2 i1 i2 i3 i4 i5 => next i1 (few_put hf' he i3) i4 i5 i2
    · refine spec.ix_Delete hX (fun _ v' lv => next (hX.mono lv) hf' rfl rfl (IxTurn.mono lv)) fun _ v' D2 X2 i1 i2 i3 i4 i5 => next i1 ?_ i4 i5 i2
      rw [i3]
      exact Nat.le_trans (List.length_filter_le _ _) hf'
  · obtain ⟨h0, D', X', hX, hf', hd, hl, ht⟩ := hI
    exact hK v D' X' hX hf' hd hl ht

end Go.Proofs.YtpbelkpfljhjlaaGreatDoor

/- VcLawT7 -/
namespace Go.Proofs.YtpbelkpfljhjlaaGreatDoor

theorem buildErr_few {l : List Rw} {d a : Int} (h : buildErr l d a = 0) {P : List Pr} (hp : P.Perm (l.map Rw.pr)) : P.length ≤ 512 := by
  have h1 := (buildErr_rok h).1.len
  have h2 := hp.length_eq
  rw [List.length_map] at h2
  omega

/-- Asked of sound rows of its dimension, looking at all fails as a search with a budget for all does. -/
theorem top_ask {ls : List Rw} {q : List Int} {d k : Int} (hd : d = q.length) (h : Rok ls d) : topErr ls q k = askErr q d k 1000000 := by
  subst hd
  unfold topErr askErr asked
  rw [rcheck_ok.2 h]
  by_cases hv : vcheck q q.length = 0
  · simp only [hv, ne_eq, not_true_eq_false, if_false]
    by_cases hk : k < 1 ∨ 64 < k
    · rw [if_pos hk, if_pos (by omega)]
    · rw [if_neg hk, if_neg (by omega)]
  · simp only [ne_eq, hv, not_false_eq_true, if_true]

/-- A search with a budget for all tells the first k of all rows. -/
theorem ix_all {u0 u : H} {D : Nat → Prop} {b : Nat} {X : Tr} (h : Ix u0 u D b X) (hf : (ixRows X).length ≤ 512) {q : List Int} {k : Int} (he : askErr q X.dim k 1000000 = 0) {L : List Rw} (hL : (L.map Rw.pr).Perm (ixRows X)) :
    ixH X q k 1000000 = topk k.toNat (L.map (hitOf q)) ∧ (ixS X q 1000000).length = (ixRows X).length := by
  obtain ⟨hv, k1, k2, _, _⟩ := askErr_ok.1 he
  obtain ⟨_, _, hql, hvq⟩ := vcheck_ok hv
  have hrok := ix_rok h hf hL
  have hqok : Qok L q := ⟨hvq, by rw [hql]; exact hrok⟩
  have hlen := hL.length_eq
  rw [List.length_map] at hlen
  obtain ⟨rest, hr⟩ : ∃ rest : List Rgn, rest.map Rgn.core = ixR X q 1000000 := ⟨_, restAll_core ⟨none, 0, 0⟩ X q 1000000⟩
  obtain ⟨hS, h1, h2⟩ := ix_sound h he hL hqok hr
  have hlS : (ixS X q 1000000).length = L.length := by
    rcases h2 with h2 | h2
    · have := hS.all.length_eq
      rw [List.length_append, List.length_map] at this
      omega
    · exact h2
  have hrest : rest.flatMap (·.ids) = [] := by
    have := hS.all.length_eq
    rw [List.length_append, List.length_map] at this
    exact List.eq_nil_of_length_eq_zero (by omega)
  have hall := hS.all
  rw [hrest, List.append_nil] at hall
  -- rows in the order of what was seen
  have hm : ∀ (S : List Int) (L : List Rw), S.Perm (L.map (·.id)) → ∃ m : List Rw, m.Perm L ∧ m.map (·.id) = S := by
    intro S
    induction S with
    | nil =>
      intro L h
      cases L with
      | nil => exact ⟨[], .refl _, rfl⟩
      | cons r L => have := h.length_eq; simp at this
    | cons x S ih =>
      intro L h
      obtain ⟨r, hr, hx⟩ := List.mem_map.1 (h.mem_iff.1 (List.mem_cons_self ..))
      obtain ⟨A, B, rfl⟩ := List.append_of_mem hr
      have h5 : S.Perm ((A ++ B).map (·.id)) := by
        have h6 : (x :: S).Perm (x :: (A ++ B).map (·.id)) := by
          refine h.trans ?_
          rw [List.map_append, List.map_cons, List.map_append, hx]
          exact List.perm_middle
        exact (List.perm_cons x).1 h6
      obtain ⟨m, hm1, hm2⟩ := ih _ h5
      exact ⟨r :: m, (hm1.cons r).trans List.perm_middle.symm, by rw [List.map_cons, hm2, hx]⟩
  obtain ⟨m, hm1, hm2⟩ := hm _ _ hall
  refine ⟨?_, by omega⟩
  rw [hS.first m (fun r hr => hm1.mem_iff.1 hr) hm2]
  exact topk_eq (hm1.map _)

theorem law.HnswWhole {s t qs : Sl} {l : List Rw} {ops : List Cll} {q : List Int} {A B seed k : Int} {u : H} {K : Bool → H → Prop} (hTab : TabU u) (hc : Come2 u s t l ops) (hU : U64 seed) (hq : Ints u qs q) (h : ∀ u', u.le u' → K true u') :
    C.theodolitelaw11_HnswWhole s A B seed t qs k u K := by
  have hqn := hq.len
  apply vc.theodolitelaw11_HnswWhole
  intro K0 h0
  refine spec.theodolitelaw11_big hc ⟨fun _ => h u (H.le.refl u), fun e => (by cases e)⟩ fun _ _ _ _ => ⟨fun e => (by cases e), fun _ => ⟨fun _ => h u (H.le.refl u), fun _ => h0 _ _ ?_⟩⟩
  refine vc.theodolitelaw11_build _ _ _ _ _ _ _ ?_
  refine spec.ix_Build hc.rows hTab hU (fun hne => ?_) (fun he b D X u5 hX hp hdim hlinks => ?_)
  · intro K6 h6
    exact ⟨fun _ => spec.theodolitelaw11_awake hTab h, fun e => absurd e hne⟩
  · intro K6 h6
    refine ⟨fun hx => absurd rfl hx, fun _ => ⟨fun e => (by cases e), fun _ => h6 _ _ ?_⟩⟩
    refine spec.theodolitelaw11_plays hX (buildErr_few he hp) hTab hc.calls hc.tn fun u9 D' X' hX' hf' hd' _ _ => ?_
    have hd : X'.dim = q.length := by rw [hd', hdim, hqn]
    have hub9 := hX'.base.1
    have fin : ∀ {bb : Bool} {v : H}, bb = true → u.le v → K bb v := fun hb hv => by rw [hb]; exact h _ hv
    -- behind the search
    have rest : ∀ {sh ss sr : Sl} {e : Int} {u14 : H} {H1 : List Hit} {n : Nat}, e = askErr q X'.dim k 1000000 → u9.le u14 → Hts u14 sh H1 → H1.length ≤ 64 → ss.n = n → n ≤ (ixRows X').length → (e ≠ 0 → H1 = []) → (e = 0 → H1 = ixH X' q k 1000000) →
        C.hnsw_Tree__Rows (some ⟨b, 0, none⟩) u14 (fun (s15 : Sl) (u16 : H) => C.flat_TopK s15 qs k u16 (fun (s17 : Sl) (x18 : Int) (u19 : H) => C.theodolitelaw11_awake u19 (fun (b20 : Bool) (u21 : H) => ((b20 = Bool.true) → ((e = x18) → C.theodolitekeep_Hits sh s17 u21 (fun (b22 : Bool) (u23 : H) => ((b22 = Bool.true) → (C.hnsw_Tree__Len (some ⟨b, 0, none⟩) u23 (fun (x24 : Int) (u25 : H) => K (decide ((ss.n : Int) ≤ x24)) u25)) ∧ (C.hnsw_Tree__Len (some ⟨b, 0, none⟩) u23 (fun (x26 : Int) (u27 : H) => K (decide ((ss.n : Int) ≤ x26)) u27))) ∧ ((b22 = Bool.false) → ((K Bool.false u23) ∧ (K Bool.false u23)) ∧ (K Bool.false u23)))) ∧ ((¬ (e = x18)) → ((K Bool.false u21) ∧ (K Bool.false u21)) ∧ (K Bool.false u21))) ∧ ((b20 = Bool.false) → ((K Bool.false u21) ∧ (K Bool.false u21)) ∧ (K Bool.false u21))))) := by
      intro sh ss sr e u14 H1 n ee l14 hH1 _ hsn hnl hbad hok
      have i14 := hX'.mono l14
      refine spec.ix_Rows i14 fun s15 ls u16 hR hpr _ => ?_
      have l16 : u.le u16 := (hub9.trans l14).trans hR.own.le
      refine spec.TopK hR.rws (hq.mono l16) fun s17 x18 u19 hres => ?_
      have hrok := ix_rok i14 hf' hpr
      have ex : x18 = e := by rw [hres.err, top_ask hd hrok, ee]
      obtain ⟨L2, hH2, _, g1, g2⟩ := hres.hts
      have eL : H1 = L2 := by
        by_cases h0 : e = 0
        · rw [hok h0, g1 (ex.trans h0)]
          exact (ix_all i14 hf' (ee ▸ h0) hpr).1
        · rw [hbad h0, g2 (by rw [ex]; exact h0)]
      refine spec.theodolitelaw11_awake (hTab.mono (l16.trans hres.1)) fun u21 l21 => ⟨fun _ => ⟨fun _ => ?_, fun hx => absurd ex.symm hx⟩, fun e => (by cases e)⟩
      refine spec.theodolitekeep_Hits (hH1.mono ((hR.own.le.trans hres.1).trans l21)) (hH2.mono l21) ?_
      have i21 := i14.mono ((hR.own.le.trans hres.1).trans l21)
      have len : ∀ {A : Int → H → Prop}, A ((ixRows X').length : Int) u21 → C.hnsw_Tree__Len (some ⟨b, 0, none⟩) u21 A := fun hA => spec.ix_Len i21 hA
      refine ⟨fun _ => ⟨len (fin (decide_eq_true (by omega)) i21.base.1), len (fin (decide_eq_true (by omega)) i21.base.1)⟩, fun hb => ?_⟩
      rw [decide_eq_true eL] at hb
      cases hb
    refine spec.ix_Search hX' (hq.mono hub9) (fun hne u14 l14 => ?_) (fun he14 sh ss sr rst u14 ha _ => ?_)
    · exact rest (sr := ⟨none, 0, 0⟩) (n := 0) rfl l14 (show Hts u14 ⟨none, 0, 0⟩ [] from (OwnF.nil (H.le.refl u14) 0 3).own.seg) (by simp) rfl (Nat.zero_le _) (fun _ => rfl) (fun e => absurd e hne)
    · have hk := (askErr_ok.1 he14)
      refine rest (sr := sr) (n := (ixS X' q 1000000).length) he14.symm ha.le ha.read.h ?_ (by have := ha.read.s.len; omega) ?_ (fun e => absurd rfl e) (fun _ => rfl)
      · show (topk _ _).length ≤ 64
        rw [topk_len]
        omega
      · obtain ⟨s1, ls, hls⟩ : ∃ (z : Nat) (ls : List Rw), (ls.map Rw.pr).Perm (ixRows X') := ⟨0, (ixRows X').map fun p => ⟨p.1, ⟨none, 0, 0⟩, p.2⟩, by rw [List.map_map]; exact List.Perm.of_eq (List.map_id' _)⟩
        have := (ix_all hX' hf' he14 hls).2
        omega

end Go.Proofs.YtpbelkpfljhjlaaGreatDoor

/- VcLawT8 -/
namespace Go.Proofs.YtpbelkpfljhjlaaGreatDoor

theorem spec.emptySearch {u0 u : H} {D : Nat → Prop} {b : Nat} {X : Tr} {t : Sl} {q : List Int} {k bud : Int} {K : Sl → Sl → Sl → Int → H → Prop} (h : Ix u0 u D b X) (h0 : ixRows X = []) (ht : Ints u t q)
    (hK : ∀ (sh ss sr : Sl) e u', u.le u' → sh.n = 0 → ss.n = 0 → sr.n = 0 → K sh ss sr e u') : C.hnsw_Tree__Search (some ⟨b, 0, none⟩) t k bud u K := by
  refine spec.ix_Search h ht (fun hne u' l => hK _ _ _ _ u' l rfl rfl rfl) fun he sh ss sr rest u' ha hr => ?_
  have hL : (([] : List Rw).map Rw.pr).Perm (ixRows X) := by rw [h0]; exact .refl _
  have hrok := ix_rok h (by rw [h0]; simp) hL
  obtain ⟨_, _, hql, hvq⟩ := vcheck_ok (askErr_ok.1 he).1
  obtain ⟨hS, _, _⟩ := ix_sound h he hL ⟨hvq, by rw [hql]; exact hrok⟩ hr
  have hall := hS.all.length_eq
  simp only [List.length_append, List.map_nil, List.length_nil] at hall
  have hs0 : (ixS X q bud) = [] := List.eq_nil_of_length_eq_zero (by omega)
  have hr0 : rest.flatMap (·.ids) = [] := List.eq_nil_of_length_eq_zero (by omega)
  have hrest : rest = [] := by
    cases rest with
    | nil => rfl
    | cons r rs =>
      have h1 := (hS.reg r (List.mem_cons_self ..)).2.1
      rw [List.flatMap_cons] at hr0
      exact absurd (List.append_eq_nil_iff.1 hr0).1 h1
  have hh0 : ixH X q k bud = [] := by
    rw [hS.first [] (fun _ hx => (by cases hx)) hs0.symm]
    exact List.eq_nil_of_length_eq_zero (by rw [topk_len]; simp)
  have n1 := ha.read.h.len
  have n2 := ha.read.s.len
  have n3 := ha.read.r.len
  rw [hh0] at n1
  rw [hs0] at n2
  rw [hrest] at n3
  exact hK sh ss sr 0 u' ha.le n1 n2 n3

theorem spec.emptyTail {ub u : H} {D : Nat → Prop} {b : Nat} {X : Tr} {t ms : Sl} {q mv : List Int} {k id : Int} {Q : Bool → Int → Sl → Sl → Sl → Int → H → Prop} (h : Ix ub u D b X) (h0 : ixRows X = []) (hTab : TabU ub) (ht : Ints ub t q) (hm : Ints ub ms mv)
    (hbad : ∀ b' x s1 s2 s3 y u', ub.le u' → (x ≠ 0 ∨ y ≠ 0) → Q b' x s1 s2 s3 y u')
    (hok : ∀ s1 s2 s3 u' D' X' (d : Int), Ix ub u' D' b X' → (ixRows X').length = 1 → Hts u' s1 [⟨id, d⟩] → Q true 0 s1 s2 s3 0 u') :
    C.hnsw_Tree__Put (some ⟨b, 0, none⟩) id ms u fun (b27 : Bool) (x28 : Int) (u29 : H) => C.hnsw_Tree__Search (some ⟨b, 0, none⟩) t k 1000000 u29 fun (s30 : Sl) (s31 : Sl) (s32 : Sl) (x33 : Int) (u34 : H) => Q b27 x28 s30 s31 s32 x33 u34 := by
  refine spec.ix_PutB h hTab hm (fun hne => ?_) fun he u2 D2 X2 i1 i2 i3 i4 i5 => ?_
  · refine spec.ix_Search h (ht.mono h.base.1) (fun _ u' l => hbad _ _ _ _ _ _ u' (h.base.1.trans l) (.inl hne)) fun _ sh ss sr rest u' ha _ => hbad _ _ _ _ _ _ u' (h.base.1.trans ha.le) (.inl hne)
  · rw [h0] at i3
    have e2 : ixRows X2 = [(id, mv)] := List.perm_singleton.1 i3
    have hb : decide (id ∉ (ixRows X).map (·.1)) = true := by rw [h0]; simp
    rw [hb]
    refine spec.ix_Search i1 (ht.mono i1.base.1) (fun hne u' l => hbad _ _ _ _ _ _ u' (i1.base.1.trans l) (.inr hne)) fun he sh ss sr rest u' ha _ => ?_
    have hL : ([(⟨id, ⟨none, 0, 0⟩, mv⟩ : Rw)].map Rw.pr).Perm (ixRows X2) := by rw [e2]; exact .refl _
    have hh := (ix_all i1 (by rw [e2]; simp) he hL).1
    have hk := askErr_ok.1 he
    have e3 : ixH X2 q k 1000000 = [hitOf q ⟨id, ⟨none, 0, 0⟩, mv⟩] := by
      rw [hh]
      obtain ⟨m, hm⟩ : ∃ m, k.toNat = m + 1 := ⟨k.toNat - 1, by omega⟩
      have hp := sortH_perm [hitOf q ⟨id, ⟨none, 0, 0⟩, mv⟩]
      show (sortH _).take k.toNat = _
      rw [show sortH ([(⟨id, ⟨none, 0, 0⟩, mv⟩ : Rw)].map (hitOf q)) = [hitOf q ⟨id, ⟨none, 0, 0⟩, mv⟩] from List.perm_singleton.1 hp, hm]
      simp
    have hH := ha.read.h
    rw [e3] at hH
    exact hok _ _ _ u' D2 X2 _ (i1.mono ha.le) (by rw [e2]; rfl) hH

theorem law.HnswEmpty {s qs ms : Sl} {l : List Rw} {q mv : List Int} {A B seed k bud id : Int} {u : H} {K : Bool → H → Prop} (hTab : TabU u) (hs : Rws u s l) (hsm : ∀ r ∈ l, r.v.length ≤ 17592186044416) (hsn : s.n ≤ 17592186044416) (hU : U64 seed)
    (hq : Ints u qs q) (hm : Ints u ms mv) (h : ∀ u', u.le u' → K true u') : C.theodolitelaw11_HnswEmpty s A B seed qs k bud id ms u K := by
  have hqn := hq.len
  have hln := hs.len
  apply vc.theodolitelaw11_HnswEmpty
  intro K0 h0
  refine spec.theodolitelaw11_big (ops := []) ⟨hs, Ops.nil u, hsm, hsn, fun o ho => (by cases ho), by show 0 ≤ 17592186044416; omega⟩ ⟨fun _ => h u (H.le.refl u), fun e => (by cases e)⟩ fun hl _ _ _ => ⟨fun e => (by cases e), fun _ => ⟨fun _ => h u (H.le.refl u), fun _ => ⟨fun _ => h u (H.le.refl u), fun _ => h0 _ _ ?_⟩⟩⟩
  refine vc.theodolitelaw11_build _ _ _ _ _ _ _ ?_
  refine spec.ix_Build hs hTab hU (fun hne => ?_) (fun he b D X u5 hX hp hdim hlinks => ?_)
  · intro K6 h6
    exact ⟨fun _ => spec.theodolitelaw11_awake hTab h, fun e => absurd e hne⟩
  intro K6 h6
  refine ⟨fun hx => absurd rfl hx, fun _ => ⟨fun e => (by cases e), fun _ => h6 _ _ ?_⟩⟩
  have hrok := (buildErr_rok he).1
  have fin : ∀ {bb : Bool} {v : H}, bb = true → u.le v → K bb v := fun hb hv => by rw [hb]; exact h _ hv
  refine ⟨fun _ x v => 0 ≤ x ∧ ∃ D' X', Ix u v D' b X' ∧ (ixRows X').Perm ((l.drop x.toNat).map Rw.pr), fun _ x _ => ((s.n : Int) - x).toNat, ⟨by omega, D, X, hX, hp⟩, fun b11 x v hI => ⟨fun hx => ?_, fun hx => ?_⟩⟩
  · obtain ⟨h0, D', X', hX', hpX⟩ := hI
    have hxl : x.toNat < l.length := by omega
    obtain ⟨p, hpp, r, hr, c0, _, _⟩ := (hs.mono hX'.base.1).at h0 hx
    have er : l[x.toNat] = r := (List.getElem?_eq_some_iff.1 hr).2
    have hdrop : l.drop x.toNat = r :: l.drop (x.toNat + 1) := by rw [List.drop_eq_getElem_cons hxl, er]
    have hin : r.id ∈ (ixRows X').map (·.1) := by
      rw [(hpX.map (·.1)).mem_iff, hdrop]
      exact List.mem_cons_self ..
    refine ⟨p, hpp, ⟨h0, hx⟩, _, c0, ?_⟩
    refine spec.ix_Delete hX' (fun hno => absurd hin hno) fun _ u' D2 X2 i1 i2 i3 _ _ => ⟨fun hx => absurd rfl hx, fun _ => ⟨fun hx => absurd rfl hx, fun _ => ⟨⟨by omega, by omega⟩, ⟨by omega, D2, X2, i1, ?_⟩, by dsimp only; omega⟩⟩⟩
    rw [i3, show (x + 1).toNat = x.toNat + 1 by omega]
    refine (hpX.filter _).trans (List.Perm.of_eq ?_)
    have hnd : ((l.drop x.toNat).map (·.id)).Nodup := hrok.nodup.sublist ((List.drop_sublist _ _).map _)
    rw [hdrop] at hnd ⊢
    rw [List.map_cons, List.nodup_cons] at hnd
    rw [List.map_cons, List.filter_cons, if_neg (by simp [Rw.pr])]
    refine List.filter_eq_self.2 fun y hy => ?_
    obtain ⟨z, hz, rfl⟩ := List.mem_map.1 hy
    simp only [Rw.pr, bne_iff_ne, ne_eq]
    exact fun e => hnd.1 (List.mem_map.2 ⟨z, hz, e⟩)
  · obtain ⟨h0, D', X', hX', hpX⟩ := hI
    have e0 : ixRows X' = [] := by
      rw [List.drop_eq_nil_of_le (by omega)] at hpX
      exact List.perm_nil.1 hpX
    refine spec.emptySearch hX' e0 (hq.mono hX'.base.1) fun sh ss sr x22 u23 l23 n1 n2 n3 => ?_
    intro K24 h24
    have i23 := hX'.mono l23
    refine spec.ix_Len i23 ?_
    rw [e0]
    refine ⟨fun hx => absurd rfl hx, fun _ => spec.ix_Rows i23 fun s55 ls u56 hR hpr _ => ?_⟩
    have n4 := hR.rws.len
    have n5 := hpr.length_eq
    rw [e0] at n5
    simp only [List.length_map, List.length_nil] at n5
    refine ⟨fun hx => absurd hx (by omega), fun _ => ⟨⟨by omega, by omega⟩, ⟨by omega, by omega⟩, fun hx => absurd hx (by omega), fun _ => h24 _ _ ?_⟩⟩
    refine spec.emptyTail (i23.mono hR.own.le) e0 hTab hq hm (fun b' x s1 s2 s3 y u' l' hxy => ?_) (fun s1 s2 s3 u' D2 X2 d i2 hlen hH => ?_)
    · intro K35 h35
      have aw : C.theodolitelaw11_awake u' (fun (b47 : Bool) (u48 : H) => K b47 u48) := spec.theodolitelaw11_awake (hTab.mono l') fun u48 l48 => h _ (l'.trans l48)
      refine ⟨fun _ => aw, fun _ => ⟨fun _ => aw, fun hx => ⟨fun _ => aw, fun hy => ?_⟩⟩⟩
      rcases hxy with hn | hn
      · exact absurd hx hn
      · exact absurd hy hn
    · intro K35 h35
      have lu' := i2.base.1
      have aw : C.theodolitelaw11_awake u' (fun (b47 : Bool) (u48 : H) => K b47 u48) := spec.theodolitelaw11_awake (hTab.mono lu') fun u48 l48 => h _ (lu'.trans l48)
      refine ⟨fun _ => aw, fun _ => ⟨fun hx => absurd rfl hx, fun _ => ⟨fun hx => absurd rfl hx, fun _ => h35 _ _ ?_⟩⟩⟩
      refine spec.theodolitelaw11_awake (hTab.mono lu') fun u39 l39 => ⟨fun _ => ⟨fun _ => ?_, fun e => (by cases e)⟩, fun e => (by cases e)⟩
      refine spec.ix_Len (i2.mono l39) ?_
      rw [hlen]
      have hn := hH.len
      simp only [List.length_cons, List.length_nil] at hn
      obtain ⟨p, hpa, g, hg, c0, _⟩ := (hH.mono l39).at (x := 0) (by omega) (by omega)
      simp at hg
      subst hg
      have c0' : H.cell? u39 (p.add 0) = some (.int .i64 id) := by simpa using c0
      have kk : K (decide (id = id)) u39 := fin (decide_eq_true rfl) (lu'.trans l39)
      refine ⟨fun _ => ⟨fun _ => ?_, fun hx => absurd (by omega) hx⟩, fun hx => absurd rfl hx⟩
      exact ⟨⟨p, hpa, ⟨by omega, by omega⟩, ⟨_, c0', kk⟩, ⟨_, c0', kk⟩⟩, ⟨p, hpa, ⟨by omega, by omega⟩, _, c0', kk⟩⟩

end Go.Proofs.YtpbelkpfljhjlaaGreatDoor

/- VcLawT9 -/
namespace Go.Proofs.YtpbelkpfljhjlaaGreatDoor

def stepP (d : Int) (P : List Pr) (o : Cll) : List Pr :=
  if o.kind = 1 then (if mayErr o.rid o.v d (decide (o.rid ∈ P.map (·.1))) P.length = 0 then (o.rid, o.v) :: P.filter (fun x => x.1 != o.rid) else P)
  else if o.kind = 2 then P.filter (fun x => x.1 != o.id) else P

theorem stepP_perm {d : Int} {P Q : List Pr} {o : Cll} (h : P.Perm Q) : (stepP d P o).Perm (stepP d Q o) := by
  unfold stepP
  by_cases h1 : o.kind = 1
  · rw [if_pos h1, if_pos h1]
    have e1 : decide (o.rid ∈ P.map (·.1)) = decide (o.rid ∈ Q.map (·.1)) := decide_eq_decide.2 (h.map _).mem_iff
    rw [e1, h.length_eq]
    split
    · exact List.Perm.cons _ (h.filter _)
    · exact h
  · rw [if_neg h1, if_neg h1]
    split
    · exact h.filter _
    · exact h

theorem playP_perm {d : Int} : ∀ {ops : List Cll} {P Q : List Pr}, P.Perm Q → (ops.foldl (stepP d) P).Perm (ops.foldl (stepP d) Q) := by
  intro ops
  induction ops with
  | nil => intro P Q h; exact h
  | cons o ops ih => intro P Q h; exact ih (stepP_perm h)

theorem spec.plays {ub u : H} {D : Nat → Prop} {b : Nat} {X : Tr} {t : Sl} {ops : List Cll} {K : H → Prop} (h : Ix ub u D b X) (hf : (ixRows X).length ≤ 512) (hTab : TabU ub) (hO : Ops ub t ops) (htn : t.n ≤ 17592186044416)
    (hK : ∀ u' D' X', Ix ub u' D' b X' → (ixRows X').length ≤ 512 → X'.dim = X.dim → X'.links = X.links → IxTurn u D u' D' → (ixRows X').Perm (ops.foldl (stepP X.dim) (ixRows X)) → K u') : C.theodolitelaw11_plays (some ⟨b, 0, none⟩) t u K := by
  have hon := hO.len
  apply vc.theodolitelaw11_plays
  refine ⟨fun x v => 0 ≤ x ∧ ∃ D' X', Ix ub v D' b X' ∧ (ixRows X').length ≤ 512 ∧ X'.dim = X.dim ∧ X'.links = X.links ∧ IxTurn u D v D' ∧ (ixRows X').Perm ((ops.take x.toNat).foldl (stepP X.dim) (ixRows X)), fun x _ => ((t.n : Int) - x).toNat, ⟨by omega, D, X, h, hf, rfl, rfl, IxTurn.mono (H.le.refl u), .refl _⟩, fun x v hI => ⟨fun hx => ?_, fun hx => ?_⟩⟩
  · obtain ⟨h0, D', X', hX, hf', hd, hl, ht, hP⟩ := hI
    obtain ⟨p, hp, o, ho, hmem, c0, c1, c2, c3, c4, c5, c6, hv, hq⟩ := (hO.mono hX.base.1).at h0 hx
    have etake : ops.take (x + 1).toNat = ops.take x.toNat ++ [o] := by
      rw [show (x + 1).toNat = x.toNat + 1 by omega, List.take_add_one, ho]
      rfl
    have next : ∀ {v' : H} {D2 : Nat → Prop} {X2 : Tr}, Ix ub v' D2 b X2 → (ixRows X2).length ≤ 512 → X2.dim = X'.dim → X2.links = X'.links → IxTurn v D' v' D2 → (ixRows X2).Perm (stepP X.dim (ixRows X') o) →
        InR (x + 1) ∧ (0 ≤ x + 1 ∧ ∃ D' X', Ix ub v' D' b X' ∧ (ixRows X').length ≤ 512 ∧ X'.dim = X.dim ∧ X'.links = X.links ∧ IxTurn u D v' D' ∧ (ixRows X').Perm ((ops.take (x + 1).toNat).foldl (stepP X.dim) (ixRows X))) ∧ ((t.n : Int) - (x + 1)).toNat < ((t.n : Int) - x).toNat := fun i1 i2 i3 i4 i5 i6 =>
      ⟨⟨by omega, by omega⟩, ⟨by omega, _, _, i1, i2, i3.trans hd, i4.trans hl, ht.trans i5, by
        rw [etake, List.foldl_append]
        exact i6.trans (stepP_perm hP)⟩, by omega⟩
    refine ⟨p, hp, ⟨h0, hx⟩, _, c0, fun k1 => ⟨p, hp, ⟨h0, hx⟩, _, c4, _, c5, ?_⟩, fun k1 => ⟨fun k2 => ⟨p, hp, ⟨h0, hx⟩, _, c1, ?_⟩, fun k2 => next hX hf' rfl rfl (IxTurn.mono (H.le.refl v)) (by
      unfold stepP
      rw [if_neg k1, if_neg k2])⟩⟩
    · refine spec.ix_PutB hX hTab (hO.2 o hmem).1 (fun hne => next hX hf' rfl rfl (IxTurn.mono (H.le.refl v)) (by
        unfold stepP
        rw [if_pos k1, if_neg (by rw [← hd]; exact hne)])) fun he v' D2 X2 i1 i2 i3 i4 i5 => next i1 (few_put hf' he i3) i4 i5 i2 (by
        unfold stepP
        rw [if_pos k1, if_pos (by rw [← hd]; exact he)]
        exact i3)
    · refine spec.ix_Delete hX (fun hno v' lv => next (hX.mono lv) hf' rfl rfl (IxTurn.mono lv) (by
        unfold stepP
        rw [if_neg k1, if_pos k2]
        refine List.Perm.of_eq (List.filter_eq_self.2 fun y hy => ?_).symm
        simp only [bne_iff_ne, ne_eq]
        exact fun e => hno (List.mem_map.2 ⟨y, hy, e⟩))) fun _ v' D2 X2 i1 i2 i3 i4 i5 => next i1 ?_ i4 i5 i2 (by
        unfold stepP
        rw [if_neg k1, if_pos k2, i3])
      rw [i3]
      exact Nat.le_trans (List.length_filter_le _ _) hf'
  · obtain ⟨h0, D', X', hX, hf', hd, hl, ht, hP⟩ := hI
    rw [List.take_of_length_le (by omega)] at hP
    exact hK v D' X' hX hf' hd hl ht hP

/-- A tree beside one that turns. -/
theorem Ix.beside {ub u u' : H} {D D' D2 : Nat → Prop} {b2 : Nat} {Y : Tr} (h : Ix ub u D2 b2 Y) (ht : IxTurn u D u' D') (hd : ∀ c, D c → ¬ D2 c) (hle : ub.le u') : Ix ub u' D2 b2 Y ∧ ∀ c, D' c → ¬ D2 c :=
  ⟨h.same (fun c o hc h2 => ht.keep c o hc fun h1 => hd c h1 h2) hle, fun c h1 h2 => by
    rcases ht.grow c h1 with h3 | h3
    · exact hd c h3 h2
    · exact h.base.2.2 c h2 h3⟩

def mkL (P : List Pr) : List Rw := P.map fun p => ⟨p.1, ⟨none, 0, 0⟩, p.2⟩
theorem mkL_pr (P : List Pr) : (mkL P).map Rw.pr = P := by
  unfold mkL
  rw [List.map_map]
  exact List.map_id' _
theorem mkL_perm {P Q : List Pr} (h : P.Perm Q) : (mkL P).Perm (mkL Q) := h.map _

theorem rise_rows {ls : List Rw} {P : List Pr} (hp : (ls.map Rw.pr).Perm P) (hn : (P.map (·.1)).Nodup) (hs : ls.Pairwise fun a b => a.id ≤ b.id) : (ls.map Rw.pr).Pairwise fun a b => a.1 < b.1 := by
  rw [List.pairwise_map]
  have hnd : (ls.map (·.id)).Nodup := by
    rw [ids_pr]
    exact ((hp.map (·.1)).nodup_iff).2 hn
  rw [List.nodup_iff_pairwise_ne, List.pairwise_map] at hnd
  refine (hs.and hnd).imp fun {x y} hxy => ?_
  have := hxy.1
  have := hxy.2
  show x.id < y.id
  omega

end Go.Proofs.YtpbelkpfljhjlaaGreatDoor

/- VcLawTA -/
namespace Go.Proofs.YtpbelkpfljhjlaaGreatDoor

/-- A search with a budget for all: its error, its hits. -/
theorem spec.searchAll {u0 u : H} {D : Nat → Prop} {b : Nat} {X : Tr} {t : Sl} {q : List Int} {k : Int} {K : Sl → Sl → Sl → Int → H → Prop} (h : Ix u0 u D b X) (hf : (ixRows X).length ≤ 512) (ht : Ints u t q)
    (hK : ∀ sh ss sr u' L, u.le u' → Hts u' sh L → (askErr q X.dim k 1000000 = 0 → L = topk k.toNat ((mkL (ixRows X)).map (hitOf q))) → (askErr q X.dim k 1000000 ≠ 0 → L = []) → K sh ss sr (askErr q X.dim k 1000000) u') : C.hnsw_Tree__Search (some ⟨b, 0, none⟩) t k 1000000 u K := by
  refine spec.ix_Search h ht (fun hne u' l => hK _ _ _ u' [] l (show Hts u' ⟨none, 0, 0⟩ [] from (OwnF.nil (H.le.refl u') 0 3).own.seg) (fun e => absurd e hne) fun _ => rfl) fun he sh ss sr rest u' ha _ => ?_
  have h2 := hK sh ss sr u' _ ha.le ha.read.h (fun _ => (ix_all h hf he (by rw [mkL_pr])).1) fun hne => absurd he hne
  rwa [he] at h2

theorem law.HnswBuilt {s t qs : Sl} {l : List Rw} {ops : List Cll} {q : List Int} {A B seed k : Int} {u : H} {K : Bool → H → Prop} (hTab : TabU u) (hc : Come2 u s t l ops) (hU : U64 seed) (hq : Ints u qs q) (h : ∀ u', u.le u' → K true u') :
    C.theodolitelaw11_HnswBuilt s A B seed t qs k u K := by
  have hqn := hq.len
  have hln := hc.rows.len
  have hsn := hc.sn
  apply vc.theodolitelaw11_HnswBuilt
  intro K0 h0
  refine spec.theodolitelaw11_big hc ⟨fun _ => h u (H.le.refl u), fun e => (by cases e)⟩ fun _ _ _ _ => ⟨fun e => (by cases e), fun _ => ⟨fun _ => h u (H.le.refl u), fun _ => h0 _ _ ?_⟩⟩
  have fin : ∀ {bb : Bool} {v : H}, bb = true → u.le v → K bb v := fun hb hv => by rw [hb]; exact h _ hv
  have aw : ∀ {v : H}, u.le v → C.theodolitelaw11_awake v (fun (b44 : Bool) (u45 : H) => K b44 u45) := fun lv => spec.theodolitelaw11_awake (hTab.mono lv) fun u' l' => h _ (lv.trans l')
  refine vc.theodolitelaw11_build _ _ _ _ _ _ _ ?_
  refine spec.ix_Build hc.rows hTab hU (fun hne => ?_) (fun he b D X u5 hX hp hdim hlinks => ?_)
  · refine vc.theodolitelaw11_build _ _ _ _ _ _ _ ?_
    refine spec.ix_Build (Rws.nil u) hTab hU (fun hne2 => ?_) (fun he2 b2 D2 Y u8 hY _ _ _ => ?_)
    · intro K9 h9
      exact ⟨fun _ => aw (H.le.refl u), fun e => absurd e hne⟩
    · intro K9 h9
      exact ⟨fun _ => aw hY.base.1, fun e => absurd e hne⟩
  · have l5 := hX.base.1
    refine vc.theodolitelaw11_build _ _ _ _ _ _ _ ?_
    refine spec.ix_Build (Rws.nil u5) (hTab.mono l5) hU (fun hne2 => ?_) (fun he2 b2 D2 Y u8 hY hpY hdimY _ => ?_)
    · intro K9 h9
      exact ⟨fun hx => absurd rfl hx, fun _ => ⟨fun _ => aw l5, fun e => absurd e hne2⟩⟩
    · intro K9 h9
      refine ⟨fun hx => absurd rfl hx, fun _ => ⟨fun hx => absurd rfl hx, fun _ => ⟨fun e => (by cases e), fun _ => ⟨fun e => (by cases e), fun _ => h9 _ _ ?_⟩⟩⟩⟩
      have hX8 := hX.mono hY.base.1
      have hd8 : ∀ c, D2 c → ¬ D c := fun c h2 h1 => hX.base.2.2 c h1 (hY.base.2.1 c h2)
      have hY8 := hY.rebase l5
      have hfX := buildErr_few he hp
      have hrok := (buildErr_rok he).1
      refine ⟨⟨by omega, by omega⟩, fun x v => -1 ≤ x ∧ x < s.n ∧ ∃ D2' Y', Ix u v D b X ∧ Ix u v D2' b2 Y' ∧ (∀ c, D2' c → ¬ D c) ∧ Y'.dim = s.n * 0 + Y.dim ∧ (ixRows Y').Perm ((l.drop (x + 1).toNat).map Rw.pr), fun x _ => (x + 1).toNat, ⟨by omega, by omega, D2, Y, hX8, hY8, hd8, by omega, ?_⟩, fun x v hI => ⟨fun hx => ?_, fun hx => ?_⟩⟩
      · rw [List.drop_eq_nil_of_le (by omega)]
        exact hpY
      · obtain ⟨_, h1, D2', Y', hXv, hYv, hdv, hdY, hpv⟩ := hI
        have hxl : x.toNat < l.length := by omega
        obtain ⟨p, hpp, r, hr, c0, c1, _⟩ := (hc.rows.mono hXv.base.1).at hx h1
        have er : l[x.toNat] = r := (List.getElem?_eq_some_iff.1 hr).2
        have hmem : r ∈ l := List.mem_of_getElem? hr
        have hdrop : l.drop x.toNat = r :: l.drop (x + 1).toNat := by
          rw [show (x + 1).toNat = x.toNat + 1 by omega, List.drop_eq_getElem_cons hxl, er]
        have hnd : ((l.drop x.toNat).map (·.id)).Nodup := hrok.nodup.sublist ((List.drop_sublist _ _).map _)
        rw [hdrop, List.map_cons, List.nodup_cons] at hnd
        have hno : r.id ∉ (ixRows Y').map (·.1) := by
          rw [(hpv.map (·.1)).mem_iff, ← ids_pr]
          exact hnd.1
        have hlenY := hpv.length_eq
        rw [List.length_map, List.length_drop] at hlenY
        have hlen := hrok.len
        refine ⟨p, hpp, ⟨hx, h1⟩, _, c0, _, c1, ?_⟩
        refine spec.ix_PutB hYv hTab (hc.rows.2 r hmem) (fun hne => absurd ?_ hne) fun _ v' D3 Y3 i1 i2 i3 i4 i5 => ?_
        · have hri := hrok.id r hmem
          obtain ⟨hvl, hvo⟩ := hrok.v r hmem
          have hvc : vcheck r.v Y'.dim = 0 := by
            rw [hdY, hdimY, show (s.n : Int) * 0 + (qs.n : Int) = r.v.length by omega]
            exact ok_vcheck hvo (by have := hrok.dim; omega)
          unfold mayErr
          rw [if_neg (by omega), if_neg (by rw [hvc]; simp), if_neg (by omega)]
        · obtain ⟨hX3, hd3⟩ := hXv.beside i2 hdv i1.base.1
          refine ⟨⟨by omega, by omega⟩, ⟨by omega, by omega, D3, Y3, hX3, i1, hd3, by omega, ?_⟩, by dsimp only; omega⟩
          rw [show (x - 1 + 1).toNat = x.toNat by omega, hdrop]
          refine i3.trans (List.Perm.cons _ ?_)
          refine (List.Perm.of_eq (List.filter_eq_self.2 fun y hy => ?_)).trans hpv
          simp only [bne_iff_ne, ne_eq]
          exact fun e => hno (List.mem_map.2 ⟨y, hy, e⟩)
      · obtain ⟨_, h1, D2', Y', hXv, hYv, hdv, hdY, hpv⟩ := hI
        rw [show (x + 1).toNat = 0 by omega, List.drop_zero] at hpv
        have hpXY : (ixRows X).Perm (ixRows Y') := hp.trans hpv.symm
        have hdXY : Y'.dim = X.dim := by omega
        refine spec.plays hXv hfX hTab hc.calls hc.tn fun u22 D4 X4 j1 j2 j3 _ j5 j6 => ?_
        obtain ⟨hY22, hd22⟩ := hYv.beside j5 (fun c h1 h2 => hdv c h2 h1) j1.base.1
        refine spec.plays hY22 (by rw [← hpXY.length_eq]; exact hfX) hTab hc.calls hc.tn fun u23 D5 Y5 k1 k2 k3 _ k5 k6 => ?_
        obtain ⟨hX23, hd23⟩ := j1.beside k5 (fun c h1 h2 => hd22 c h2 h1) k1.base.1
        have hR : (ixRows X4).Perm (ixRows Y5) := by
          refine j6.trans (List.Perm.trans ?_ k6.symm)
          rw [hdXY]
          exact playP_perm hpXY
        have hdd : Y5.dim = X4.dim := by omega
        have l23 := k1.base.1
        refine spec.searchAll hX23 j2 (hq.mono l23) fun sh ss sr u28 L1 l28 hH1 e1 e1' => ?_
        refine spec.searchAll (k1.mono l28) k2 (hq.mono (l23.trans l28)) fun sh2 ss2 sr2 u33 L2 l33 hH2 e2 e2' => ?_
        rw [hdd] at e2 e2' ⊢
        have eL : L1 = L2 := by
          by_cases he : askErr q X4.dim k 1000000 = 0
          · rw [e1 he, e2 he]
            exact topk_eq ((mkL_perm hR).map _)
          · rw [e1' he, e2' he]
        have l33' := (l23.trans l28).trans l33
        refine spec.theodolitelaw11_awake (hTab.mono l33') fun u35 l35 => ⟨fun _ => ⟨fun _ => ?_, fun hx => absurd rfl hx⟩, fun e => (by cases e)⟩
        refine spec.theodolitekeep_Hits (hH1.mono (l33.trans l35)) (hH2.mono l35) ⟨fun _ => ?_, fun hb => (by rw [decide_eq_true eL] at hb; cases hb)⟩
        have l35' := (l28.trans l33).trans l35
        refine spec.ix_Rows (hX23.mono l35') fun s38 ls u39 hR1 hp1 hs1 => ?_
        refine spec.ix_Rows ((k1.mono l35').mono hR1.own.le) fun s40 ls2 u41 hR2 hp2 hs2 => ?_
        refine spec.theodolitekeep_Rows (hR1.rws.mono hR2.own.le) hR2.rws (fin (decide_eq_true ?_) ?_)
        · exact pr_rise_eq (rise_rows hp1 hX23.rowsOk hs1) (rise_rows hp2 k1.rowsOk hs2) (hp1.trans (hR.trans hp2.symm))
        · exact ((l23.trans l35').trans hR1.own.le).trans hR2.own.le

end Go.Proofs.YtpbelkpfljhjlaaGreatDoor

/- VcLawTB -/
namespace Go.Proofs.YtpbelkpfljhjlaaGreatDoor

theorem spec.theodolitelaw11_has {s : Sl} {l : List Rw} {x : Int} {u : H} {K : Bool → H → Prop} (hs : Rws u s l) (h : K (decide (x ∈ l.map (·.id))) u) : C.theodolitelaw11_has s x u K := by
  have hn := hs.len
  have hm := hs.max
  have key : ∀ bb : Bool, decide (x ∈ l.map (·.id)) = bb → K bb u := fun bb hb => hb ▸ h
  apply vc.theodolitelaw11_has
  refine ⟨fun _ i v => v = u ∧ 0 ≤ i ∧ ∀ r ∈ l.take i.toNat, r.id ≠ x, fun _ i _ => ((s.n : Int) - i).toNat, ⟨rfl, by omega, fun r hr => (by simp at hr)⟩, fun b2 i v hI => ⟨fun hx => ?_, fun hx => ?_⟩⟩
  · obtain ⟨rfl, h0, hI⟩ := hI
    obtain ⟨p, hp, r, hr, c0, _, _⟩ := hs.at h0 hx
    refine ⟨p, hp, ⟨h0, hx⟩, _, c0, fun he => key _ (decide_eq_true (List.mem_map.2 ⟨r, List.mem_of_getElem? hr, he⟩)), fun hne => ⟨⟨by omega, by omega⟩, ⟨rfl, by omega, fun y hy => ?_⟩, by dsimp only; omega⟩⟩
    rw [show (i + 1).toNat = i.toNat + 1 by omega, List.take_add_one, hr] at hy
    rcases List.mem_append.1 hy with h1 | h1
    · exact hI y h1
    · simp at h1; rw [h1]; exact hne
  · obtain ⟨rfl, h0, hI⟩ := hI
    refine key _ (decide_eq_false fun hm => ?_)
    obtain ⟨r, hr, he⟩ := List.mem_map.1 hm
    rw [List.take_of_length_le (by omega)] at hI
    exact hI r hr he

theorem spec.ix_Known {u0 u : H} {D : Nat → Prop} {b : Nat} {X : Tr} {id : Int} {K : Sl → Int → H → Prop} (h : Ix u0 u D b X) (hno : id ∉ (ixRows X).map (·.1) → K ⟨none, 0, 0⟩ 50 u)
    (hyes : id ∈ (ixRows X).map (·.1) → ∀ l s u', u.le u' → Ints u' s l → (l.length : Int) ≤ 2 * X.links → Rise l → id ∉ l → (∀ i ∈ l, i ∈ (ixRows X).map (·.1)) → K s 0 u') : C.hnsw_Tree__Known (some ⟨b, 0, none⟩) id u K := by
  obtain ⟨fp, _, h2, h3⟩ := h.ex
  refine spec.hnsw_Tree__Known h2 h3 (fun hn => hno fun hm => hn ((ix_mem X id).2 hm)) fun n l hn hl s u' ho => ?_
  obtain ⟨m1, m2, m3⟩ := h3.k.many id n 0 l hn hl
  have hmem := getN_mem hn
  refine hyes ((ix_mem X id).1 (List.mem_map.2 ⟨_, hmem, rfl⟩)) (sortI l) s u' ho.le ho.ints ?_ (sortI_rise m2) (fun hm => m3 ((sortI_perm l).mem_iff.1 hm)) fun i hi => ?_
  · rw [sortI_len]
    exact m1
  · exact (ix_mem X i).1 (h3.k.ok.known _ hmem l (List.mem_of_getElem? hl) i ((sortI_perm l).mem_iff.1 hi))

theorem spec.ix_Levels {u0 u : H} {D : Nat → Prop} {b : Nat} {X : Tr} {K : Int → H → Prop} (h : Ix u0 u D b X) (h0 : ixRows X = [] → K 0 u) (h1 : ixRows X ≠ [] → ∀ n : Int, 1 ≤ n → n ≤ 31 → K n u) : C.hnsw_Tree__Levels (some ⟨b, 0, none⟩) u K := by
  obtain ⟨fp, _, h2, h3⟩ := h.ex
  refine spec.hnsw_Tree__Levels h2 h3 (fun e => h0 (by simp [ixRows, rowsG, e])) fun hne => h1 fun e => hne ?_
  have := congrArg List.length e
  simp [ixRows, rowsG] at this
  exact this

theorem law.HnswKnown {s t : Sl} {l : List Rw} {ops : List Cll} {dim A B seed id : Int} {u : H} {K : Bool → H → Prop} (hTab : TabU u) (hc : Come2 u s t l ops) (hU : U64 seed) (h : ∀ u', u.le u' → K true u') :
    C.theodolitelaw11_HnswKnown s dim A B seed t id u K := by
  apply vc.theodolitelaw11_HnswKnown
  refine spec.theodolitelaw11_big hc ⟨fun _ => h u (H.le.refl u), fun e => (by cases e)⟩ fun _ _ _ _ => ⟨fun e => (by cases e), fun _ => ?_⟩
  refine vc.theodolitelaw11_build _ _ _ _ _ _ _ ?_
  refine spec.ix_Build hc.rows hTab hU (fun hne => ?_) (fun he b D X u4 hX hp hdim hlinks => ?_)
  · intro K5 h5
    exact ⟨fun _ => spec.theodolitelaw11_awake hTab h, fun e => absurd e hne⟩
  intro K5 h5
  refine ⟨fun hx => absurd rfl hx, fun _ => ⟨fun e => (by cases e), fun _ => h5 _ _ ?_⟩⟩
  obtain ⟨_, hA1, hA2⟩ := buildErr_rok he
  refine spec.theodolitelaw11_plays hX (buildErr_few he hp) hTab hc.calls hc.tn fun u8 D' X' hX' hf' _ hl' _ => ?_
  have hlk : X'.links = A := hl'.trans hlinks
  refine spec.ix_Rows hX' fun s9 ls u10 hR hpr hsl => ?_
  have i10 := hX'.mono hR.own.le
  have hR9 := hR.rws
  have n9 := hR9.len
  have m9 := hR9.max
  have hids : ∀ x, x ∈ ls.map (·.id) ↔ x ∈ (ixRows X').map (·.1) := fun x => by rw [ids_pr]; exact (hpr.map _).mem_iff
  have hlen := hpr.length_eq
  rw [List.length_map] at hlen
  -- behind the levels
  have levels : ∀ {x11 : Int} {K13 : Bool → H → Prop}, (ixRows X' = [] → x11 = 0) → (ixRows X' ≠ [] → 1 ≤ x11 ∧ x11 ≤ 31) → K13 false u10 →
      (((s9.n : Int) = 0) → ((¬ (x11 = 0)) → K false u10) ∧ ((x11 = 0) → (((0 : Int) < (s9.n : Int)) → ((x11 < 1) → K false u10) ∧ ((¬ (x11 < 1)) → (((31 : Int) < x11) → K false u10) ∧ ((¬ ((31 : Int) < x11)) → K13 false u10))) ∧ ((¬ ((0 : Int) < (s9.n : Int))) → K13 false u10))) ∧
      ((¬ ((s9.n : Int) = 0)) → (((0 : Int) < (s9.n : Int)) → ((x11 < 1) → K false u10) ∧ ((¬ (x11 < 1)) → (((31 : Int) < x11) → K false u10) ∧ ((¬ ((31 : Int) < x11)) → K13 false u10))) ∧ ((¬ ((0 : Int) < (s9.n : Int))) → K13 false u10)) := by
    intro x11 K13 e0 e1 hK
    by_cases hz : ixRows X' = []
    · have := e0 hz
      have hn0 : (s9.n : Int) = 0 := by rw [hz] at hlen; simp only [List.length_nil] at hlen; omega
      exact ⟨fun _ => ⟨fun hx => absurd this hx, fun _ => ⟨fun hx => absurd hx (by omega), fun _ => hK⟩⟩, fun hx => absurd hn0 hx⟩
    · have := e1 hz
      have hn0 : 0 < (s9.n : Int) := by
        have := List.length_pos_iff.2 hz
        omega
      exact ⟨fun hx => absurd hx (by omega), fun _ => ⟨fun _ => ⟨fun hx => absurd hx (by omega), fun _ => ⟨fun hx => absurd hx (by omega), fun _ => hK⟩⟩, fun hx => absurd hn0 hx⟩⟩
  refine spec.ix_Levels i10 (fun hz => ?_) (fun hz n n1 n2 => ?_)
  all_goals
    intro K13 h13
    refine levels (by intros; first | rfl | contradiction) (by intros; first | contradiction | exact ⟨n1, n2⟩) (h13 _ _ ?_)
    clear h13
    have known : ∀ {s16 : Sl} {x17 : Int} {u18 : H} {K19 : Bool → H → Prop}, u10.le u18 → ((x17 = 0 ∧ id ∈ (ixRows X').map (·.1)) ∨ (x17 = 50 ∧ id ∉ (ixRows X').map (·.1))) → K19 false u18 →
        C.theodolitelaw11_has s9 id u18 (fun (b59 : Bool) (u60 : H) => ((¬ (decide (x17 = 0) = b59)) → K false u60) ∧ ((decide (x17 = 0) = b59) → ((¬ (x17 = 0)) → ((¬ (x17 = 50)) → K false u60) ∧ ((x17 = 50) → K19 false u60)) ∧ ((x17 = 0) → K19 false u60))) := by
      intro s16 x17 u18 K19 l18 hcase hK
      refine spec.theodolitelaw11_has (hR9.mono l18) ?_
      rcases hcase with ⟨rfl, hm⟩ | ⟨rfl, hm⟩
      · exact ⟨fun hx => absurd (by rw [decide_eq_true ((hids id).2 hm)]; rfl) hx, fun _ => ⟨fun hx => absurd rfl hx, fun _ => hK⟩⟩
      · exact ⟨fun hx => absurd (by rw [decide_eq_false (fun e => hm ((hids id).1 e))]; rfl) hx, fun _ => ⟨fun _ => ⟨fun hx => absurd rfl hx, fun _ => hK⟩, fun e => (by cases e)⟩⟩
    refine spec.ix_Known i10 (fun hno => ?_) (fun hyes lk sk u18 l18 _ _ _ _ _ => ?_)
    all_goals
      intro K19 h19
      first
        | refine known (s16 := ⟨none, 0, 0⟩) (H.le.refl u10) (.inr ⟨rfl, hno⟩) (h19 _ _ ?_)
        | refine known (s16 := sk) l18 (.inl ⟨rfl, hyes⟩) (h19 _ _ ?_)
      clear h19 known
      refine ⟨fun _ x v => 0 ≤ x ∧ u10.le v, fun _ x _ => ((s9.n : Int) - x).toNat, ⟨by omega, by first | exact H.le.refl _ | assumption⟩, fun b24 x25 u26 hI => ⟨fun hx => ?_, fun _ => spec.theodolitelaw11_awake (hTab.mono (i10.base.1.trans hI.2)) fun u58 l58 => h _ ((i10.base.1.trans hI.2).trans l58)⟩⟩
      obtain ⟨h0, l26⟩ := hI
      have i26 := i10.mono l26
      obtain ⟨p, hpp, r, hr, c0, _, _⟩ := (hR9.mono l26).at h0 hx
      refine ⟨p, hpp, ⟨h0, hx⟩, _, c0, ?_⟩
      have hin : r.id ∈ (ixRows X').map (·.1) := (hids _).1 (List.mem_map.2 ⟨r, List.mem_of_getElem? hr, rfl⟩)
      refine spec.ix_Known i26 (fun hno => absurd hin hno) fun _ lk s29 u31 l31 hs29 hk1 hk2 hk3 hk4 => ?_
      intro K32 h32
      have n29 := hs29.len
      refine ⟨fun hx => absurd rfl hx, fun _ => ⟨⟨by omega, by omega⟩, fun hx => absurd hx (by omega), fun _ => h32 _ _ ?_⟩⟩
      refine ⟨fun _ x v => 0 ≤ x ∧ u31.le v, fun _ x _ => ((s29.n : Int) - x).toNat, ⟨by omega, H.le.refl _⟩, fun b37 x38 u39 hJ => ⟨fun hx38 => ?_, fun _ => ⟨⟨by omega, by omega⟩, ⟨by omega, (l26.trans l31).trans hJ.2⟩, by dsimp only; omega⟩⟩⟩
      obtain ⟨h38, l39⟩ := hJ
      intro K40 h40
      have l39' := (l26.trans l31).trans l39
      obtain ⟨p2, hp2, d0⟩ := (hs29.mono l39).at h38 hx38
      obtain ⟨p', hp', r', hr', c0', _, _⟩ := (hR9.mono l39').at h0 hx
      have er : r' = r := Option.some.inj (hr'.symm.trans hr)
      have hxl : x38.toNat < lk.length := by omega
      have eg : lk.getD x38.toNat 0 = lk[x38.toNat] := by rw [List.getD_eq_getElem?_getD, List.getElem?_eq_getElem hxl]; rfl
      have hmem : lk.getD x38.toNat 0 ∈ lk := by rw [eg]; exact List.getElem_mem hxl
      have kf : ∀ bb : Bool, bb = false → K40 bb u39 := fun bb hb => by
        rw [hb]
        exact h40 _ _ ⟨fun e => (by cases e), fun _ => ⟨⟨by omega, by omega⟩, ⟨by omega, l39⟩, by dsimp only; omega⟩⟩
      refine ⟨p2, hp2, ⟨h38, hx38⟩, p', hp', ⟨h0, hx⟩, _, d0, _, c0', fun heq => absurd hmem ?_, fun _ => ⟨p2, hp2, ⟨h38, hx38⟩, _, d0, ?_⟩⟩
      · rw [heq, er]; exact hk3
      · refine spec.theodolitelaw11_has (hR9.mono l39') ⟨fun hne => absurd (decide_eq_true ((hids _).2 (hk4 _ hmem))) hne, fun _ => ⟨fun hpos => ?_, fun _ => ⟨kf _ rfl, kf _ rfl⟩⟩⟩
        obtain ⟨p3, hp3, d1⟩ := (hs29.mono l39).at (x := x38 - 1) (by omega) (by omega)
        have hxl1 : (x38 - 1).toNat < lk.length := by omega
        have eg1 : lk.getD (x38 - 1).toNat 0 = lk[(x38 - 1).toNat] := by rw [List.getD_eq_getElem?_getD, List.getElem?_eq_getElem hxl1]; rfl
        have hlt : lk.getD (x38 - 1).toNat 0 < lk.getD x38.toNat 0 := by
          rw [eg, eg1]
          exact List.pairwise_iff_getElem.1 hk2 _ _ hxl1 hxl (by omega)
        exact ⟨⟨by omega, by omega⟩, p3, hp3, ⟨by omega, by omega⟩, p2, hp2, ⟨h38, hx38⟩, ⟨_, d1, _, d0, kf _ (decide_eq_false (by omega))⟩, ⟨_, d0, _, d1, kf _ (decide_eq_false (by omega))⟩⟩

end Go.Proofs.YtpbelkpfljhjlaaGreatDoor

/- VcLawTC -/
namespace Go.Proofs.YtpbelkpfljhjlaaGreatDoor

theorem rows_of : ∀ (S : List Int) (L : List Rw), S.Perm (L.map (·.id)) → ∃ m : List Rw, m.Perm L ∧ m.map (·.id) = S := by
  intro S
  induction S with
  | nil =>
    intro L h
    cases L with
    | nil => exact ⟨[], .refl _, rfl⟩
    | cons r L => have := h.length_eq; simp at this
  | cons x S ih =>
    intro L h
    obtain ⟨r, hr, hx⟩ := List.mem_map.1 (h.mem_iff.1 (List.mem_cons_self ..))
    obtain ⟨A, B, rfl⟩ := List.append_of_mem hr
    have h5 : S.Perm ((A ++ B).map (·.id)) := by
      have h6 : (x :: S).Perm (x :: (A ++ B).map (·.id)) := by
        refine h.trans ?_
        rw [List.map_append, List.map_cons, List.map_append, hx]
        exact List.perm_middle
      exact (List.perm_cons x).1 h6
    obtain ⟨m, hm1, hm2⟩ := ih _ h5
    exact ⟨r :: m, (hm1.cons r).trans List.perm_middle.symm, by rw [List.map_cons, hm2, hx]⟩

/-- What a sound answer of any index tells: hits that are distances, and all of the first where no region is left. -/
theorem Sound.more {L : List Rw} {q : List Int} {k : Int} {hits : List Hit} {seen : List Int} {rest : List Rgn} (h : Sound L q k hits seen rest) (hq : Qok L q) : (∀ g ∈ hits, Dok g.2) ∧ (rest = [] → hits = topk k.toNat (L.map (hitOf q))) := by
  obtain ⟨m, hm1, hm2⟩ := rows_of _ L h.all
  have hs : (m.take seen.length).map (·.id) = seen := by
    rw [List.map_take, hm2, List.take_left]
  have e := h.first (m.take seen.length) (fun r hr => hm1.mem_iff.1 (List.mem_of_mem_take hr)) hs
  refine ⟨fun g hg => ?_, fun hr => ?_⟩
  · rw [e] at hg
    have h1 : g ∈ (m.take seen.length).map (hitOf q) := (sortH_perm _).mem_iff.1 (List.mem_of_mem_take hg)
    obtain ⟨r, hr, rfl⟩ := List.mem_map.1 h1
    exact hq.hit (hm1.mem_iff.1 (List.mem_of_mem_take hr))
  · rw [e]
    have hl : m.length = seen.length := by
      have := congrArg List.length hm2
      rw [hr] at this
      simpa using this
    rw [List.take_of_length_le (by omega)]
    exact topk_eq (hm1.map _)

/-- Regions of shape All are never sure. -/
theorem spec.certainAll {t sh ss sr : Sl} {k : Int} {hits : List Hit} {seen : List Int} {rest : List Rgn} {u : H} {K : Bool → H → Prop} (ha : AnsR u sh ss sr hits seen rest) (hk : 1 ≤ k ∧ k ≤ 64) (hd : ∀ g ∈ hits, Dok g.2) (hsh : ∀ r ∈ rest, r.sh = 1)
    (h1 : rest = [] → K true u) (h2 : rest ≠ [] → K false u) : C.theodoliteref05_Certain t k sh ss sr u K := by
  have nr := ha.r.len
  have nh := ha.h.len
  apply vc.theodoliteref05_Certain
  refine ⟨fun hn => h1 (List.eq_nil_of_length_eq_zero (by omega)), fun hn => ?_⟩
  have hne : rest ≠ [] := fun e => hn (by rw [nr, e]; rfl)
  refine ⟨fun _ => h2 hne, fun hkn => ⟨fun _ x v => v = u ∧ x = 0, fun _ _ _ => 0, ⟨rfl, rfl⟩, fun b x v hI => ⟨fun hx => ?_, fun hx => ?_⟩⟩⟩
  · obtain ⟨rfl, rfl⟩ := hI
    obtain ⟨p, hp, g, hg, c0, c1, c2⟩ := ha.h.at (x := k - 1) (by omega) (by omega)
    obtain ⟨p2, hp2, r, hr, d0, d1, d2, d3, d4, d5⟩ := ha.r.at (x := 0) (by omega) (by omega)
    have hgm := List.mem_of_getElem? hg
    have hrm := List.mem_of_getElem? hr
    refine ⟨⟨by omega, by omega⟩, p, hp, ⟨by omega, by omega⟩, _, c1, _, by rw [Addr.add_add']; exact c2, p2, hp2, ⟨by omega, by omega⟩, _, d0, _, d1, _, d2, _, d3, _, d4, _, d5, ?_⟩
    rw [hsh r hrm]
    refine vc.theodoliteref03_Near _ _ _ _ _ _ _ _ _ ⟨fun e => (by cases e), fun _ => ⟨fun e => (by cases e), fun _ => ⟨H.le.refl _, ?_⟩⟩⟩
    have z : U64 0 := ⟨by omega, by omega⟩
    refine spec.theodoliteref01_Less (hiU (hd g hgm)) (loU _) z z ⟨fun _ => h2 hne, fun hb => ?_⟩
    have := of_decide_eq_true hb
    rw [wv_hl] at this
    have hg0 := hd g hgm
    unfold Dok at hg0
    unfold wv at this
    omega
  · obtain ⟨rfl, rfl⟩ := hI
    exact absurd hx (by omega)

theorem law.HnswSure {s t qs : Sl} {l : List Rw} {ops : List Cll} {q : List Int} {A B seed k bud : Int} {u : H} {K : Bool → H → Prop} (hTab : TabU u) (hc : Come2 u s t l ops) (hU : U64 seed) (hq : Ints u qs q) (h : ∀ u', u.le u' → K true u') :
    C.theodolitelaw11_HnswSure s A B seed t qs k bud u K := by
  have hqn := hq.len
  apply vc.theodolitelaw11_HnswSure
  intro K0 h0
  refine spec.theodolitelaw11_big hc ⟨fun _ => h u (H.le.refl u), fun e => (by cases e)⟩ fun _ _ _ _ => ⟨fun e => (by cases e), fun _ => ⟨fun _ => h u (H.le.refl u), fun _ => h0 _ _ ?_⟩⟩
  refine vc.theodolitelaw11_build _ _ _ _ _ _ _ ?_
  refine spec.ix_Build hc.rows hTab hU (fun hne => ?_) (fun he b D X u5 hX hp hdim hlinks => ?_)
  · intro K6 h6
    exact ⟨fun _ => spec.theodolitelaw11_awake hTab h, fun e => absurd e hne⟩
  intro K6 h6
  refine ⟨fun hx => absurd rfl hx, fun _ => ⟨fun e => (by cases e), fun _ => h6 _ _ ?_⟩⟩
  refine spec.theodolitelaw11_plays hX (buildErr_few he hp) hTab hc.calls hc.tn fun u9 D' X' hX' hf' hd' _ _ => ?_
  have hd : X'.dim = q.length := by rw [hd', hdim, hqn]
  have hub9 := hX'.base.1
  have fin : ∀ {bb : Bool} {v : H}, bb = true → u.le v → K bb v := fun hb hv => by rw [hb]; exact h _ hv
  have aw : ∀ {v : H}, u.le v → C.theodolitelaw11_awake v (fun (b44 : Bool) (u45 : H) => K b44 u45) := fun lv => spec.theodolitelaw11_awake (hTab.mono lv) fun u' l' => h _ (lv.trans l')
  refine spec.ix_Search hX' (hq.mono hub9) (fun hne u14 l14 => ?_) (fun he14 sh ss sr rst u14 ha hr => ?_)
  · intro K15 h15
    exact ⟨fun _ => aw (hub9.trans l14), fun e => absurd e hne⟩
  intro K15 h15
  have l14 := hub9.trans ha.le
  have hk := askErr_ok.1 he14
  have hL : ((mkL (ixRows X')).map Rw.pr).Perm (ixRows X') := by rw [mkL_pr]
  have hrok := ix_rok hX' hf' hL
  obtain ⟨_, _, hql, hvq⟩ := vcheck_ok hk.1
  have hqok : Qok (mkL (ixRows X')) q := ⟨hvq, by rw [hql]; exact hrok⟩
  obtain ⟨hS, _, _⟩ := ix_sound hX' he14 hL hqok hr
  obtain ⟨g1, g2⟩ := hS.more hqok
  have hsh : ∀ r ∈ rst, r.sh = 1 := by
    intro r hrm
    have hm : r.core ∈ ixR X' q bud := by rw [← hr]; exact List.mem_map_of_mem hrm
    unfold ixR at hm
    split at hm
    · cases hm
    · have := List.mem_singleton.1 hm
      exact congrArg (fun z => z.1) this
  refine ⟨fun hx => absurd rfl hx, fun _ => spec.certainAll ha.read ⟨hk.2.1, hk.2.2.1⟩ g1 hsh (fun hnil => ⟨fun hx => absurd rfl hx, fun _ => h15 _ _ ?_⟩) fun _ => ⟨fun _ => aw l14, fun e => (by cases e)⟩⟩
  have i14 := hX'.mono ha.le
  refine spec.ix_Rows i14 fun s18 ls u19 hR hpr _ => ?_
  have l19 : u.le u19 := l14.trans hR.own.le
  refine spec.TopK hR.rws (hq.mono l19) fun s20 x21 u22 hres => ?_
  have hrokl := ix_rok i14 hf' hpr
  have he0 : askErr q X'.dim k 1000000 = 0 := askErr_ok.2 ⟨hk.1, hk.2.1, hk.2.2.1, by omega, by omega⟩
  have ex : x21 = 0 := by rw [hres.err, top_ask hd hrokl, he0]
  obtain ⟨L2, hH2, _, e1, _⟩ := hres.hts
  have eL : ixH X' q k bud = L2 := by
    rw [g2 hnil, e1 ex]
    have z1 : ((mkL (ixRows X')).map (hitOf q)).Perm ((mkL (ls.map Rw.pr)).map (hitOf q)) := (mkL_perm hpr.symm).map _
    have z2 : (mkL (ls.map Rw.pr)).map (hitOf q) = ls.map (hitOf q) := by
      unfold mkL
      rw [List.map_map, List.map_map]
      rfl
    rw [topk_eq z1, z2]
  refine spec.theodolitelaw11_awake (hTab.mono (l19.trans hres.1)) fun u24 l24 => ⟨fun _ => ⟨fun _ => ?_, fun hx => absurd ex hx⟩, fun e => (by cases e)⟩
  exact spec.theodolitekeep_Hits (ha.read.h.mono ((hR.own.le.trans hres.1).trans l24)) (hH2.mono l24) (fin (decide_eq_true eL) ((l19.trans hres.1).trans l24))

end Go.Proofs.YtpbelkpfljhjlaaGreatDoor

/- LawHnswSure -/
namespace Go.Proofs.YtpbelkpfljhjlaaGreatDoor.hnswSure
open Go.ChangeShapes Go.WideShapes Go.ChangeAt Go.RowKit

theorem own : ownKnob Tryz.prog.godebug = none := by kernel_rfl
theorem laidOut : laidOutB Tryz.prog = true := by kernel_rfl

set_option maxHeartbeats 1000000 in
theorem lifted (os : Os) (started : os.Started) (H' : Type) (enc : TypeId × Value → H') :
    ReturnsInHanded {} Tryz.checked os 10 .any (fun w args => (Rows.hnswSureSpec.pre enc Tryz.prog Tryz.f10 Rows.hnswSureRow.domain false w args ∧ laidMetH Tryz.prog Rows.hnswSureRow.laid w) ∧ sizedMet enc Tryz.prog Tryz.f10 (OpenSpec.ofChange Rows.hnswSureSpec) false w args) (Rows.hnswSureSpec.post enc Tryz.prog Tryz.f10 false true false false) := by
  refine returnsInHanded_of_change_and (C := Tryz.checked) (X := fun w _ => laidMetH Tryz.prog Rows.hnswSureRow.laid w) (fun _ _ _ hh h => h.of_heap hh) own started (by kernel_rfl) Tryz.func10
    (ChangeSpec.witness_shaped (enc := enc) (C := Tryz.checked) (os := os) (X := fun w _ => laidMetH Tryz.prog Rows.hnswSureRow.laid w) false (World.laidAll Tryz.prog os Rows.hnswSureRow.laid) #[.slice none 0 0, .agg #[.int .i64 0, .int .i64 0, .int .u64 0], .slice none 0 0, .slice none 0 0, .int .i64 0, .int .i64 0] 8 (World.laidAll_os _ _ _)
      (World.shaped_of_ZipB (by kernel_rfl) (by kernel_rfl)) (by kernel_rfl) (by kernel_rfl) (by kernel_rfl)
      (by rw [MakeChecks.laidMetH_plain _ _ _ (by kernel_rfl)]; exact laidMet_laidAll _ (by kernel_rfl) (by kernel_rfl))) ?_
  intro W base args ds gs before hval0 hW hcnd hsz0 hL _
  have hsz : (DataW.weightsEach Tryz.prog (Tryz.f10.params.toList ++ Rows.hnswSureSpec.plain.varTypes Tryz.prog) (ds ++ gs)).all (· ≤ reachBytes) = true := hsz0
  have hval : ∀ (j : Nat) t v, Tryz.f10.params[j]? = some t → args[j]? = some v → Value.okWide Tryz.prog W .any base t v := hval0
  have hW' := hW
  obtain ⟨p, q, hA0, hV, rfl, hfz, hnd⟩ := hW
  have hA : DataW.TrodAll enc Tryz.prog W 0 (fun _ => true) true Tryz.f10.params.toList args.toList ds p := hA0
  rw [Tryz.params10] at hA hval hsz
  obtain ⟨v0, vs0, d0, ds0, p0, q0, hargs, rfl, rfl, h0, r0⟩ := trodAll_cons hA
  obtain ⟨v1, vs1, d1, ds1, p1, q1, rfl, rfl, rfl, h1, r1⟩ := trodAll_cons r0
  obtain ⟨v2, vs2, d2, ds2, p2, q2, rfl, rfl, rfl, h2, r2⟩ := trodAll_cons r1
  obtain ⟨v3, vs3, d3, ds3, p3, q3, rfl, rfl, rfl, h3, r3⟩ := trodAll_cons r2
  obtain ⟨v4, vs4, d4, ds4, p4, q4, rfl, rfl, rfl, h4, r4⟩ := trodAll_cons r3
  obtain ⟨v5, vs5, d5, ds5, p5, q5, rfl, rfl, rfl, h5, r5⟩ := trodAll_cons r4
  obtain ⟨rfl, rfl, rfl⟩ := trodAll_nil r5
  obtain rfl : args = #[v0, v1, v2, v3, v4, v5] := by cases args; simp_all
  obtain ⟨rfl, rfl⟩ := trodVars_none hV
  have wt : ∀ {j : Nat} {t : TypeId} {d : DataW H'}, ([22, 25, 39, 41, 3, 3] ++ Rows.hnswSureSpec.plain.varTypes Tryz.prog)[j]? = some t → ([d0, d1, d2, d3, d4, d5] ++ [])[j]? = some d → ∀ n ∈ d.weights Tryz.prog t, n ≤ reachBytes := fun ht hd n hn => by
    have := List.all_eq_true.1 hsz n (DataW.weights_mem_each ht hd n hn)
    simpa using this
  obtain ⟨a0, n0, c0, rfl⟩ := okWide_slice Tryz.underlying22 (hval 0 22 v0 rfl rfl)
  obtain ⟨cs1, rfl, hcs1⟩ := okWide_struct Tryz.underlying25 (hval 1 25 v1 rfl rfl)
  obtain ⟨a2, n2, c2, rfl⟩ := okWide_slice Tryz.underlying39 (hval 2 39 v2 rfl rfl)
  obtain ⟨a3, n3, c3, rfl⟩ := okWide_slice Tryz.underlying41 (hval 3 41 v3 rfl rfl)
  have k0 := h0
  have lt0 : ∀ x ∈ p0, x.block < W.heap.size := by obtain ⟨m, hm⟩ := k0; exact DataW.trod_lt m _ _ _ hm
  obtain ⟨fu0, hf0⟩ := h0
  have k1 := h1
  have lt1 : ∀ x ∈ p1, x.block < W.heap.size := by obtain ⟨m, hm⟩ := k1; exact DataW.trod_lt m _ _ _ hm
  obtain ⟨fu1, hf1⟩ := h1
  have k2 := h2
  have lt2 : ∀ x ∈ p2, x.block < W.heap.size := by obtain ⟨m, hm⟩ := k2; exact DataW.trod_lt m _ _ _ hm
  obtain ⟨fu2, hf2⟩ := h2
  have k3 := h3
  have lt3 : ∀ x ∈ p3, x.block < W.heap.size := by obtain ⟨m, hm⟩ := k3; exact DataW.trod_lt m _ _ _ hm
  obtain ⟨fu3, hf3⟩ := h3
  obtain ⟨l0, hl0, hsm0, hln0⟩ := open_rows (by simpa [Value.cells] using hf0) (wt (j := 0) rfl rfl)
  obtain ⟨ha1, hb1, hs1, hU1, rfl⟩ := open_how (cs := cs1) (by simpa [Value.cells] using hf1)
  obtain ⟨ol2, hol2, hos2, hon2⟩ := open_ops (by simpa [Value.cells] using hf2) (wt (j := 2) rfl rfl)
  obtain ⟨z3, hq3, hql3⟩ := open_q (by simpa [Value.cells] using hf3) (wt (j := 3) rfl rfl)
  obtain ⟨x4, rfl, rfl, rfl, w4⟩ := open_int Tryz.underlying3 (hval 4 3 v4 rfl rfl) h4
  obtain ⟨x5, rfl, rfl, rfl, w5⟩ := open_int Tryz.underlying3 (hval 5 3 v5 rfl rfl) h5
  clear hA0 hval0 hsz0 hsz
  have hlaw := law.HnswSure (s := ⟨a0, n0, c0⟩) (t := ⟨a2, n2, c2⟩) (qs := ⟨a3, n3, c3⟩) (A := ha1) (B := hb1) (k := x4) (bud := x5) (tab_of hL) ⟨hl0, hol2, hsm0, hln0, hos2, hon2⟩ hU1 hq3 (u := whole W) (K := fun b u' => b = true ∧ (whole W).le u') fun u' hu' => ⟨rfl, hu'⟩
  refine (hlaw W (whole_sub W)).mono ?_
  rintro e W' ⟨v, u', rfl, ⟨vs, hk, rfl, hc⟩, hs⟩
  cases hk with
  | cons x hr =>
    cases hr
    obtain ⟨hx, hle⟩ : x = true ∧ (whole W).le u' := (CT.un_enc .bool x _).1 hc
    subst hx
    have bel : Below W.heap.size W W' := hs.below hle
    exact ⟨_, rfl, _, _, _, [], _, [], hW', trodAll_mk1 (shut_bool Tryz.underlying4 _),
      (trodAll_cons_mk (Below.trod laidOut (by kernel_rfl) (of_decide_eq_true (by kernel_rfl)) k0 bel lt0) (trodAll_cons_mk (Below.trod laidOut (by kernel_rfl) (of_decide_eq_true (by kernel_rfl)) k1 bel lt1) (trodAll_cons_mk (Below.trod laidOut (by kernel_rfl) (of_decide_eq_true (by kernel_rfl)) k2 bel lt2) (trodAll_cons_mk (Below.trod laidOut (by kernel_rfl) (of_decide_eq_true (by kernel_rfl)) k3 bel lt3) (trodAll_cons_mk (shut_int Tryz.underlying3 w4) (trodAll_cons_mk (shut_int Tryz.underlying3 w5) trodAll_mk0)))))), rfl, bel.frame _, fun h => by cases h⟩

theorem over : Rows.hnswSureRow.holds Tryz.pinned (OpenSpec.ofChange Rows.hnswSureSpec) :=
  OpenClaim.holds_of_wide 10 Tryz.f10 rfl rfl rfl rfl rfl rfl rfl ⟨rfl, rfl, rfl, rfl, rfl⟩ rfl rfl rfl rfl rfl (by kernel_rfl) Tryz.func10 (by kernel_rfl)
    (of_decide_eq_true (by kernel_rfl)) (by unfold Func.isWrapper; first | (rw [if_pos (by decide +kernel)]; kernel_rfl) | (rw [if_neg (by decide +kernel)]; exact ⟨rfl, rfl⟩))
    (fun os started H' enc _ => lifted os started H' enc)

theorem card : Rows.HnswSureCardSaid :=
  Claim7.holds_tied_plain_at .later [] [.data] true _ true over (fun _ h => by cases h) (by kernel_rfl) (fun _ h => by cases h) hnswSure_row_tie rfl ⟨rfl, rfl⟩ (by kernel_rfl) rfl
    (fun f fn hf hfn => by
      obtain rfl : f = 10 := Option.some.inj ((show Tryz.prog.funcNamed "theodolite/theodolitelaw11.HnswSure" = some 10 by kernel_rfl).symm.trans hf) |>.symm
      obtain rfl : fn = Tryz.f10 := (Option.some.inj (Tryz.func10.symm.trans hfn)).symm
      exact ⟨by kernel_rfl, fun j t ht => by
        rw [Tryz.params10] at ht
        have hm : t ∈ [22, 25, 39, 41, 3, 3] := by simpa using Array.mem_of_getElem? ht
        have hall : ([22, 25, 39, 41, 3, 3].all fun u => !Tryz.prog.wantsStandIn u) = true := by kernel_rfl
        exact (show Tryz.prog.wantsStandIn t = false by simpa using List.all_eq_true.1 hall t hm)⟩)
    (by kernel_rfl)

end Go.Proofs.YtpbelkpfljhjlaaGreatDoor.hnswSure
namespace Go.Proofs.YtpbelkpfljhjlaaGreatDoor
theorem hnswSure_card : Rows.HnswSureCardSaid := hnswSure.card
#print axioms hnswSure_card
end Go.Proofs.YtpbelkpfljhjlaaGreatDoor
