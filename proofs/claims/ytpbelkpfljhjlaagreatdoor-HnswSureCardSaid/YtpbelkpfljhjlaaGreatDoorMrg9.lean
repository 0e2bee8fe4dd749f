/- Texts of mine, joined by merge.py: VcLawT1, VcOpen2. -/
import Derived.Test.YtpbelkpfljhjlaaGreatDoorMrg8
import Derived.Test.YtpbelkpfljhjlaaGreatDoorRows
import Derived.Deep.Strs
import Derived.Lib.LaidTab
import Derived.LaidMore
import Derived.Lay
import Derived.SevenTiedAt
set_option maxRecDepth 100000

/- VcLawT1 -/
namespace Go.Proofs.YtpbelkpfljhjlaaGreatDoor

structure Cll where
  kind : Int
  id : Int
  k : Int
  bud : Int
  rid : Int
  rv : Sl
  v : List Int
  qs : Sl
  q : List Int

def encO (o : Cll) : List Value := [.int .i64 o.kind, .int .i64 o.id, .int .i64 o.k, .int .i64 o.bud, .int .i64 o.rid, .slice o.rv.a o.rv.n o.rv.c, .slice o.qs.a o.qs.n o.qs.c]
theorem encO_len (o : Cll) : (encO o).length = 7 := rfl
theorem encO_one (o : Cll) : ∀ v ∈ encO o, v.oneCell' = true := by simp [encO, Value.oneCell']

/-- Calls in memory. -/
def Ops (u : H) (s : Sl) (l : List Cll) : Prop := Seg u s 7 (l.flatMap encO) ∧ ∀ o ∈ l, Ints u o.rv o.v ∧ Ints u o.qs o.q

theorem Ops.len {u : H} {s : Sl} {l : List Cll} (h : Ops u s l) : s.n = l.length := flat_n encO_len (by decide) h.1
theorem Ops.max {u : H} {s : Sl} {l : List Cll} (h : Ops u s l) : s.n ≤ 9223372036854775807 := Nat.le_trans (Seg.cap h.1) (Seg.max h.1)
theorem Ops.mono {u u' : H} {s : Sl} {l : List Cll} (h : Ops u s l) (k : u.le u') : Ops u' s l := ⟨h.1.mono k, fun o ho => ⟨(h.2 o ho).1.mono k, (h.2 o ho).2.mono k⟩⟩
theorem Ops.nil (u : H) : Ops u ⟨none, 0, 0⟩ [] := ⟨⟨rfl, Nat.le_refl _, by decide, .inl rfl⟩, fun _ h => by cases h⟩

theorem Ops.at {u : H} {s : Sl} {l : List Cll} (h : Ops u s l) {x : Int} (h0 : 0 ≤ x) (h1 : x < (s.n : Int)) : ∃ p, s.a = some p ∧ ∃ o : Cll, l[x.toNat]? = some o ∧ o ∈ l ∧ u.cell? (p.add (x.toNat * 7)) = some (.int .i64 o.kind) ∧ u.cell? ((p.add (x.toNat * 7)).add 1) = some (.int .i64 o.id) ∧
    u.cell? ((p.add (x.toNat * 7)).add 2) = some (.int .i64 o.k) ∧ u.cell? ((p.add (x.toNat * 7)).add 3) = some (.int .i64 o.bud) ∧ u.cell? ((p.add (x.toNat * 7)).add 4) = some (.int .i64 o.rid) ∧
    u.cell? ((p.add (x.toNat * 7)).add 5) = some (.slice o.rv.a o.rv.n o.rv.c) ∧ u.cell? ((p.add (x.toNat * 7)).add 6) = some (.slice o.qs.a o.qs.n o.qs.c) ∧ Ints u o.rv o.v ∧ Ints u o.qs o.q := by
  have hn := h.len
  have hlt : x.toNat < l.length := by omega
  have hx : l[x.toNat]? = some l[x.toNat] := List.getElem?_eq_getElem hlt
  obtain ⟨p, hp, hc⟩ := Seg.elem encO_len (by decide) h.1 hx
  have h0' := hc 0 _ rfl
  rw [Addr.add_zero'] at h0'
  have hm := List.getElem_mem hlt
  exact ⟨p, hp, _, hx, hm, h0', hc 1 _ rfl, hc 2 _ rfl, hc 3 _ rfl, hc 4 _ rfl, hc 5 _ rfl, hc 6 _ rfl, (h.2 _ hm).1, (h.2 _ hm).2⟩

/-- What comes in: rows, calls. -/
structure Come2 (u : H) (s t : Sl) (l : List Rw) (ops : List Cll) : Prop where
  rows : Rws u s l
  calls : Ops u t ops
  small : ∀ r ∈ l, r.v.length ≤ 17592186044416
  sn : s.n ≤ 17592186044416
  smallO : ∀ o ∈ ops, o.v.length ≤ 17592186044416 ∧ o.q.length ≤ 17592186044416
  tn : t.n ≤ 17592186044416

theorem spec.theodolitelaw11_big {s t : Sl} {l : List Rw} {ops : List Cll} {u : H} {K : Bool → H → Prop} (hc : Come2 u s t l ops) (h1 : K true u)
    (h2 : l.length ≤ 2000 → ops.length ≤ 2000 → (∀ r ∈ l, r.v.length ≤ 32768) → (∀ o ∈ ops, o.v.length ≤ 32768 ∧ o.q.length ≤ 32768) → K false u) : C.theodolitelaw11_big s t u K := by
  have hsn := hc.rows.len
  have htn := hc.calls.len
  apply vc.theodolitelaw11_big
  intro K0 hK0
  refine ⟨fun _ => h1, fun ht => ⟨fun _ => h1, fun hs => spec.theodolitekeep_Vectors' hc.rows hc.small hc.sn (by omega) fun x hx => ⟨fun _ => h1, fun hx' => hK0 _ _ ?_⟩⟩⟩
  have hv : ∀ r ∈ l, r.v.length ≤ 32768 := fun r hr => by have := hx (by omega) r hr; omega
  have fin : ∀ n : Int, (n ≤ 32768 → ∀ o ∈ ops, o.v.length ≤ 32768 ∧ o.q.length ≤ 32768) → ∀ bb : Bool, (bb = true ↔ 32768 < n) → K bb u := fun n hn bb hb => by
    cases bb with
    | true => exact h1
    | false => exact h2 (by omega) (by omega) hv (hn (by
        by_cases e : 32768 < n
        · have := hb.2 e; cases this
        · omega))
  refine ⟨fun n i w => w = u ∧ 0 ≤ i ∧ i ≤ ops.length ∧ 0 ≤ n ∧ ∀ o ∈ ops.take i.toNat, (o.v.length : Int) ≤ n ∧ (o.q.length : Int) ≤ n, fun _ i _ => ops.length - i.toNat, ⟨rfl, by omega, by omega, by omega, fun o ho => by simp at ho⟩, ?_⟩
  rintro n i w ⟨rfl, i0, i1, n0, hacc⟩
  intro K8 hK8
  refine ⟨fun hil => ⟨fun hn => hK8 _ ?_, fun hn => fin n (fun h => absurd h hn) _ (by simp)⟩, fun hig => fin n (fun hn o ho => ?_) _ (by simp)⟩
  · obtain ⟨p, hp, o, ho, hom, c0, c1, c2, c3, c4, c5, c6, hv1, hv2⟩ := hc.calls.at i0 hil
    have l1 := hv1.len
    have l2 := hv2.len
    obtain ⟨s1, s2⟩ := hc.smallO o hom
    refine ⟨p, hp, ⟨i0, hil⟩, p, hp, ⟨i0, hil⟩, _, by rw [Addr.add_add']; exact c5, ⟨by omega, by omega⟩, _, c6, ⟨by omega, by omega⟩, ⟨by omega, by omega⟩, ⟨rfl, by omega, by omega, by omega, fun o' ho' => ?_⟩, by dsimp only; omega⟩
    rw [show (i + 1).toNat = i.toNat + 1 by omega, List.take_add_one, ho] at ho'
    rcases List.mem_append.1 ho' with h' | h'
    · have := hacc o' h'; omega
    · simp at h'; subst h'; omega
  · have hi : i.toNat = ops.length := by
      have : ¬ i < (t.n : Int) := hig
      omega
    rw [hi, List.take_length] at hacc
    have := hacc o ho
    omega

theorem spec.theodolitelaw11_wrong {s : Sl} {l : List Rw} {dim a b c : Int} {u : H} {K : Int → H → Prop} (hs : Rws u s l) (h : K (buildErr l dim a) u) : C.theodolitelaw11_wrong s dim a b c u K := by
  unfold buildErr at h
  apply vc.theodolitelaw11_wrong
  refine spec.theodoliteref05_Check hs ⟨fun he => ?_, fun hne => by rw [if_pos hne] at h; exact h⟩
  rw [if_neg (by simpa using he)] at h
  apply vc.theodolitelaw11_right
  have go : ∀ bb : Bool, (bb = true ↔ ¬ (a < 1 ∨ 16 < a)) → ((¬ bb = true → K 1 u) ∧ (bb = true → K (rcheck l dim) u)) := fun bb hb => ⟨fun hne => by
    rw [if_pos (by by_cases e : a < 1 ∨ 16 < a; exact e; exact absurd (hb.2 e) hne)] at h; exact h, fun ht => by
    rw [if_neg (hb.1 ht)] at h; rw [he]; exact h⟩
  exact ⟨fun h1 => go _ (by simp; omega), fun h1 => go false (by simp; omega)⟩

theorem build_rows4' (a b c d : Sl) : buildOf Tryz.prog 22 4 #[(0, .agg #[.int .i64 1, .slice a.a a.n a.c]), (1, .agg #[.int .i64 2, .slice b.a b.n b.c]), (2, .agg #[.int .i64 3, .slice c.a c.n c.c]), (3, .agg #[.int .i64 4, .slice d.a d.n d.c])] =
    some (43, [.int .i64 1, .slice a.a a.n a.c, .int .i64 2, .slice b.a b.n b.c, .int .i64 3, .slice c.a c.n c.c, .int .i64 4, .slice d.a d.n d.c]) := by kernel_rfl

def exT (a b c d : Sl) : List Rw := [⟨1, a, [0, 0]⟩, ⟨2, b, [3, 4]⟩, ⟨3, c, [0, 1]⟩, ⟨4, d, [30, 40]⟩]

theorem spec.theodolitelaw11_rows {u : H} {K : Sl → H → Prop} (h : ∀ s u' a b c d, u.le u' → Rws u' s (exT a b c d) → K s u') : C.theodolitelaw11_rows u K := by
  apply vc.theodolitelaw11_rows
  refine sem_build (build_ints2 _ _) fun g1 h1 => sem_build (build_ints2 _ _) fun g2 h2 => sem_build (build_ints2 _ _) fun g3 h3 => sem_build (build_ints2 _ _) fun g4 h4 => sem_build (build_rows4' _ _ _ _) fun g5 h5 => ?_
  have i1 := ints_made (H.le.refl u) h1 [0, 0] 3 (by simp)
  have i2 := ints_made (H.le.refl _) h2 [3, 4] 3 (by simp)
  have i3 := ints_made (H.le.refl _) h3 [0, 1] 3 (by simp)
  have i4 := ints_made (H.le.refl _) h4 [30, 40] 3 (by simp)
  have l1 := H.le_ins (u := u) (b := g1) (.cells [Value.int .i64 0, .int .i64 0].toArray 3 (0, 0)) h1
  have l2 := H.le_ins (b := g2) (.cells [Value.int .i64 3, .int .i64 4].toArray 3 (0, 0)) h2
  have l3 := H.le_ins (b := g3) (.cells [Value.int .i64 0, .int .i64 1].toArray 3 (0, 0)) h3
  have l4 := H.le_ins (b := g4) (.cells [Value.int .i64 30, .int .i64 40].toArray 3 (0, 0)) h4
  have m := OwnF.make (k := 2) (H.le.refl _) h5 (cells := [Value.int .i64 1, .slice (some ⟨g1, 0, none⟩) 2 2, .int .i64 2, .slice (some ⟨g2, 0, none⟩) 2 2, .int .i64 3, .slice (some ⟨g3, 0, none⟩) 2 2, .int .i64 4, .slice (some ⟨g4, 0, none⟩) 2 2].toArray) (e := 43) (n := 4) (by omega) rfl
  refine h _ _ ⟨some ⟨g1, 0, none⟩, 2, 2⟩ ⟨some ⟨g2, 0, none⟩, 2, 2⟩ ⟨some ⟨g3, 0, none⟩, 2, 2⟩ ⟨some ⟨g4, 0, none⟩, 2, 2⟩ ?_ ⟨m.own.seg, ?_⟩
  · exact (((l1.trans l2).trans l3).trans l4).trans m.le
  · intro r hr
    simp only [exT, List.mem_cons, List.not_mem_nil, or_false] at hr
    rcases hr with rfl | rfl | rfl | rfl
    · exact i1.mono (((l2.trans l3).trans l4).trans m.le)
    · exact i2.mono ((l3.trans l4).trans m.le)
    · exact i3.mono (l4.trans m.le)
    · exact i4.mono m.le

theorem exT_q (a b c d : Sl) : Qok (exT a b c d) [0, 0] := asked_ok.1 (by kernel_rfl)
theorem exT_top (a b c d : Sl) : topk 2 ((exT a b c d).map (hitOf [0, 0])) = [(1, 0), (3, 1)] := by kernel_rfl
theorem exT_build (a b c d : Sl) : buildErr (exT a b c d) 2 1 = 0 := by kernel_rfl

theorem spec.theodolitelaw11_awake {u : H} {K : Bool → H → Prop} (hTab : TabU u) (h : ∀ u', u.le u' → K true u') : C.theodolitelaw11_awake u K := by
  apply vc.theodolitelaw11_awake
  have q0 : ∀ {w : H} {g : Nat} (hg : w g = none) (x y : Int), Ints (w.ins g (.cells [Value.int .i64 x, .int .i64 y].toArray 3 (0, 0))) ⟨some ⟨g, 0, none⟩, 2, 2⟩ [x, y] := fun {w g} hg x y => ints_made (H.le.refl w) hg [x, y] 3 (by simp)
  refine spec.theodolitelaw11_rows fun s0 u1 a b c d l1 r1 => ?_
  apply vc.theodolitelaw11_build
  refine spec.ix_Build r1 (hTab.mono l1) ⟨by decide, by decide⟩ (fun hne => absurd (exT_build a b c d) hne) fun _ bt D X u4 hX hrows hdim hlinks => ?_
  have hlen : (ixRows X).length = 4 := by have := hrows.length_eq; simpa [exT] using this
  intro K5 hK5
  refine ⟨fun e => (by cases e), fun _ => ⟨fun e => absurd rfl e, fun _ => spec.ix_Len hX ⟨fun hne => absurd (by rw [hlen]; rfl) hne, fun _ => hK5 _ _ ?_⟩⟩⟩
  clear hK5 K5
  -- a search
  refine sem_build (build_ints2 0 0) fun g1 h1 => ?_
  have m1 := H.le_ins (u := u4) (b := g1) (.cells [Value.int .i64 0, .int .i64 0].toArray 3 (0, 0)) h1
  have hask : askErr [0, 0] X.dim 2 4 = 0 := by rw [hdim]; decide
  refine spec.ix_Search (hX.mono m1) (q0 h1 0 0) (fun hne => absurd hask hne) fun _ s10 s11 s12 rest u14 ha hcore => ?_
  obtain ⟨hS, hS1, hS2⟩ := ix_sound hX hask (L := exT a b c d) hrows.symm (exT_q a b c d) hcore
  have hl4 : (ixS X [0, 0] 4).length = 4 := by
    have : (exT a b c d).length = 4 := rfl
    omega
  have hall := hS.all
  have hseen : ixS X [0, 0] 4 = (exT a b c d).map (·.id) := by
    have h5 : (exT a b c d).map (·.id) = [1, 2, 3, 4] := rfl
    rw [h5] at hall ⊢
    have h6 : (rest.flatMap (·.ids)).length = 0 := by
      have := hall.length_eq
      rw [List.length_append, hl4] at this
      simp only [List.length_cons, List.length_nil] at this
      omega
    have h7 : rest.flatMap (·.ids) = [] := List.eq_nil_of_length_eq_zero h6
    rw [h7, List.append_nil] at hall
    exact Up.eq hS.rise.up (by unfold Up; decide) hall
  have hhits := hS.first (exT a b c d) (fun r hr => hr) hseen.symm
  have e2 : topk (Int.toNat 2) ((exT a b c d).map (hitOf [0, 0])) = [(1, 0), (3, 1)] := exT_top a b c d
  rw [e2] at hhits
  have hoh := ha.h
  rw [hhits] at hoh
  have hX14 := hX.mono (m1.trans ha.le)
  have hD10 : ∀ g, s10.blk = some g → ¬ D g := fun g hg hd => by
    have := ha.h.fresh g hg
    obtain ⟨o, ho⟩ := Option.ne_none_iff_exists'.1 (hX.base.2.2 g hd)
    rw [m1 _ _ ho] at this; cases this
  have hk10 : ∀ g, s10.blk = some g → ∃ o, u14 g = some o := fun g hg => Option.ne_none_iff_exists'.1 (own_known' ha.h hg)
  clear hS hS1 hS2 hall hseen hhits hl4 hcore ha
  -- puts and a deletion
  refine sem_build (build_ints2 9 9) fun g2 h2 => ?_
  have m2 := H.le_ins (u := u14) (b := g2) (.cells [Value.int .i64 9, .int .i64 9].toArray 3 (0, 0)) h2
  have hid : ∀ x, x ∈ (ixRows X).map (·.1) ↔ x ∈ ([1, 2, 3, 4] : List Int) := fun x => (hrows.map (·.1)).mem_iff
  have t3 : decide ((3 : Int) ∈ (ixRows X).map (·.1)) = true := decide_eq_true ((hid 3).2 (by decide))
  have t3' : decide ((3 : Int) ∉ (ixRows X).map (·.1)) = false := decide_eq_false fun h => h ((hid 3).2 (by decide))
  have hm3 : mayErr 3 [9, 9] X.dim (decide ((3 : Int) ∈ (ixRows X).map (·.1))) (ixRows X).length = 0 := by rw [t3, hdim, hlen]; decide
  have hDn : ∀ {z : H} {g : Nat}, (∀ c, D c → z c ≠ none) → z g = none → ∀ g', (⟨some ⟨g, 0, none⟩, 2, 2⟩ : Sl).blk = some g' → ¬ D g' := fun {z g} hz hg g' hg' hd => by
    have : g = g' := by simpa [Sl.blk] using hg'
    exact hz g' hd (by rw [← this]; exact hg)
  refine spec.ix_Put (hX14.mono m2) (hTab.mono l1) (q0 h2 9 9) (hDn hX14.base.2.2 h2) (fun hne => absurd hm3 hne) fun _ u19 D2 X2 hX2 ht2 hr2 hd2 _ => ?_
  rw [t3']
  have hk19 : ∀ g, s10.blk = some g → ∀ o, u14 g = some o → u19 g = some o ∧ ¬ D2 g := fun g hg o ho => by
    refine ⟨ht2.keep g o (m2 _ _ ho) (hD10 g hg), fun hd => ?_⟩
    rcases ht2.grow g hd with h5 | h5
    · exact hD10 g hg h5
    · rw [m2 _ _ ho] at h5; cases h5
  have hp2 : (ixRows X2).Perm [(3, [9, 9]), (1, [0, 0]), (2, [3, 4]), (4, [30, 40])] := by
    refine hr2.trans (List.Perm.cons _ ?_)
    exact (hrows.filter _).trans (List.Perm.refl _)
  have hid2 : (1 : Int) ∈ (ixRows X2).map (·.1) := (hp2.map (·.1)).mem_iff.2 (by decide)
  refine spec.ix_Delete hX2 (fun hno => absurd hid2 hno) fun _ u22 D3 X3 hX3 ht3 hr3 hd3 _ => ?_
  have hl3 : (ixRows X3).length = 3 := by
    rw [hr3]
    have := (hp2.filter fun x => x.1 != 1).length_eq
    exact this
  have hk22 : ∀ g, s10.blk = some g → ∀ o, u14 g = some o → u22 g = some o := fun g hg o ho => by
    obtain ⟨h5, h6⟩ := hk19 g hg o ho
    exact ht3.keep g o h5 h6
  refine sem_build (build_ints2 1 1) fun g3 h3 => ?_
  have m3 := H.le_ins (u := u22) (b := g3) (.cells [Value.int .i64 1, .int .i64 1].toArray 3 (0, 0)) h3
  have hm0 : mayErr 0 [1, 1] X3.dim (decide ((0 : Int) ∈ (ixRows X3).map (·.1))) (ixRows X3).length = 50 := by unfold mayErr; rw [if_pos (by omega)]
  have hDn3 : ∀ g', (⟨some ⟨g3, 0, none⟩, 2, 2⟩ : Sl).blk = some g' → ¬ D3 g' := fun g' hg' hd => by
    have : g3 = g' := by simpa [Sl.blk] using hg'
    exact hX3.base.2.2 g' hd (by rw [← this]; exact h3)
  refine spec.ix_Put (hX3.mono m3) (hTab.mono l1) (q0 h3 1 1) hDn3 (fun _ => ?_) fun he => by rw [hm0] at he; cases he
  rw [hm0]
  have hfin := h _ ((l1.trans (hX3.base.1)).trans m3)
  have hts : Hts _ s10 [((1 : Int), (0 : Int)), (3, 1)] := Seg.else hoh.hts fun g o hg ho => m3 _ _ (hk22 g hg o ho)
  intro K28 hK28
  refine ⟨fun _ => ⟨fun _ => ⟨fun _ => ⟨fun _ => ⟨fun _ => ⟨fun _ => spec.ix_Len (hX3.mono m3) ?_, fun e => (by cases e)⟩, fun e => (by cases e)⟩, fun e => absurd rfl e⟩, fun e => absurd rfl e⟩, fun e => absurd rfl e⟩, fun e => absurd rfl e⟩
  have kt : ∀ bb : Bool, bb = true → K bb (u22.ins g3 (.cells [Value.int .i64 1, .int .i64 1].toArray 3 (0, 0))) := fun bb hb => by rw [hb]; exact hfin
  refine hK28 _ _ ⟨fun _ => ?_, fun hb => ?_⟩
  · have hn2 := hts.len
    refine ⟨fun _ => ?_, fun hne => absurd (by rw [hn2]; rfl) hne⟩
    obtain ⟨p, hp, x, hx, c0, c1, c2⟩ := hts.at (x := 0) (by omega) (by rw [hn2]; decide)
    obtain ⟨p', hp', y, hy, d0, d1, d2⟩ := hts.at (x := 1) (by omega) (by rw [hn2]; decide)
    have hpp : p' = p := by rw [hp] at hp'; exact (Option.some.inj hp').symm
    subst hpp
    have hx' : x = (1, 0) := by simpa using hx.symm
    have hy' : y = (3, 1) := by simpa using hy.symm
    subst hx'; subst hy'
    refine ⟨_, hp, ⟨by omega, by rw [hn2]; decide⟩, _, c0, _, c1, _, c2, fun _ => ⟨_, hp, ⟨by omega, by rw [hn2]; decide⟩, _, d0, _, d1, _, d2, kt _ ?_⟩, fun hne => absurd ⟨rfl, rfl, rfl⟩ hne⟩
    exact decide_eq_true ⟨rfl, rfl, rfl⟩
  · rw [hl3] at hb
    simp at hb

end Go.Proofs.YtpbelkpfljhjlaaGreatDoor

/- VcOpen2 -/
namespace Go.Proofs.YtpbelkpfljhjlaaGreatDoor
open Go.ChangeShapes Go.WideShapes Go.ChangeAt Go.RowKit

theorem cellsOp : Tryz.prog.cellsOf 45 = 7 := by kernel_rfl
theorem cellsHow : Tryz.prog.cellsOf 25 = 3 := by kernel_rfl
theorem bytesOp : Tryz.prog.bytesOf 45 = 88 := by kernel_rfl

section
variable {H' : Type} {enc : TypeId × Value → H'}

/-- One row, opened. -/
theorem open_row1 {W : World} {cs : List Value} {fuel : Nat} {x : DataW H' × List MemPlace} (h : DataW.trod enc Tryz.prog W 0 (fun _ => true) true fuel 43 cs = some x) (hw : ∀ n ∈ x.1.weights Tryz.prog 43, n ≤ reachBytes) :
    ∃ (i : Int) (s : Sl) (v : List Int), cs = [.int .i64 i, .slice s.a s.n s.c] ∧ Ints (whole W) s v ∧ v.length ≤ 17592186044416 := by
  obtain ⟨y0, y1, k, hxy, hlen, u0, u1⟩ := trod_struct2 Tryz.underlying43 h
  rw [cells41o] at hlen
  match cs, hlen with
  | [v0, v1], _ =>
    simp only [cells3o, cells23o, List.drop, List.take] at u0 u1
    obtain ⟨q, e0, _, _⟩ := DataW.trod_int Tryz.underlying3 u0
    simp only [List.cons.injEq, and_true] at e0
    subst e0
    obtain ⟨s, rfl⟩ := cells_one u1
    obtain ⟨zs, hz, hzl⟩ := open_q u1 (fun n hn => hw n (by
      rw [hxy]
      simp only [DataW.weights, show Tryz.prog.underlying 43 = some _ from Tryz.underlying43]
      simp only [List.map_cons, List.map_nil, DataW.weightsEach, List.mem_append]
      exact .inr (.inl hn)))
    exact ⟨q, s, zs, rfl, hz, hzl⟩

/-- One call, opened. -/
theorem open_op1 {W : World} {cs : List Value} {fuel : Nat} {x : DataW H' × List MemPlace} (h : DataW.trod enc Tryz.prog W 0 (fun _ => true) true fuel 45 cs = some x) (hw : ∀ n ∈ x.1.weights Tryz.prog 45, n ≤ reachBytes) :
    ∃ o : Cll, cs = encO o ∧ Ints (whole W) o.rv o.v ∧ Ints (whole W) o.qs o.q ∧ o.v.length ≤ 17592186044416 ∧ o.q.length ≤ 17592186044416 := by
  obtain ⟨xs, n, _, hxy, hlen, hxl, hf⟩ := DataW.trod_struct Tryz.underlying45 h
  rw [cellsOp] at hlen
  match xs, hxl, cs, hlen with
  | [y0, y1, y2, y3, y4, y5], _, [v0, v1, v2, v3, v4, v5, v6], _ =>
    have f0 : DataW.trod enc Tryz.prog W 0 (fun _ => true) true n 3 (([v0, v1, v2, v3, v4, v5, v6].drop 0).take (Tryz.prog.cellsOf 3)) = some y0 := hf 0 _ rfl
    have f1 : DataW.trod enc Tryz.prog W 0 (fun _ => true) true n 3 (([v0, v1, v2, v3, v4, v5, v6].drop 1).take (Tryz.prog.cellsOf 3)) = some y1 := hf 1 _ rfl
    have f2 : DataW.trod enc Tryz.prog W 0 (fun _ => true) true n 3 (([v0, v1, v2, v3, v4, v5, v6].drop 2).take (Tryz.prog.cellsOf 3)) = some y2 := hf 2 _ rfl
    have f3 : DataW.trod enc Tryz.prog W 0 (fun _ => true) true n 3 (([v0, v1, v2, v3, v4, v5, v6].drop 3).take (Tryz.prog.cellsOf 3)) = some y3 := hf 3 _ rfl
    have f4 : DataW.trod enc Tryz.prog W 0 (fun _ => true) true n 43 (([v0, v1, v2, v3, v4, v5, v6].drop 4).take (Tryz.prog.cellsOf 43)) = some y4 := hf 4 _ rfl
    have f5 : DataW.trod enc Tryz.prog W 0 (fun _ => true) true n 41 (([v0, v1, v2, v3, v4, v5, v6].drop 6).take (Tryz.prog.cellsOf 41)) = some y5 := hf 5 _ rfl
    simp only [cells3o, cells23o, cells41o, List.drop, List.take] at f0 f1 f2 f3 f4 f5
    obtain ⟨q0, e0, _, _⟩ := DataW.trod_int Tryz.underlying3 f0
    obtain ⟨q1, e1, _, _⟩ := DataW.trod_int Tryz.underlying3 f1
    obtain ⟨q2, e2, _, _⟩ := DataW.trod_int Tryz.underlying3 f2
    obtain ⟨q3, e3, _, _⟩ := DataW.trod_int Tryz.underlying3 f3
    have hin : ∀ {t : TypeId} {y : DataW H' × List MemPlace}, ∀ m : Nat, m ∈ y.1.weights Tryz.prog t → (t = 43 ∧ y = y4 ∨ t = 41 ∧ y = y5) → m ≤ reachBytes := fun m hm hc => hw m (by
      rw [hxy]
      simp only [DataW.weights, show Tryz.prog.underlying 45 = some _ from Tryz.underlying45]
      simp only [List.map_cons, List.map_nil, DataW.weightsEach, List.mem_append]
      rcases hc with ⟨rfl, rfl⟩ | ⟨rfl, rfl⟩
      · exact .inr (.inr (.inr (.inr (.inl hm))))
      · exact .inr (.inr (.inr (.inr (.inr (.inl hm))))))
    obtain ⟨ri, rs, rv, er, hr, hrl⟩ := open_row1 f4 (fun m hm => hin m hm (.inl ⟨rfl, rfl⟩))
    obtain ⟨qs, eq⟩ := cells_one f5
    subst eq
    obtain ⟨zs, hz, hzl⟩ := open_q f5 (fun m hm => hin m hm (.inr ⟨rfl, rfl⟩))
    simp only [List.cons.injEq, and_true] at e0 e1 e2 e3 er
    obtain ⟨er0, er1⟩ := er
    subst e0 e1 e2 e3 er0 er1
    exact ⟨⟨q0, q1, q2, q3, ri, rs, rv, qs, zs⟩, rfl, hr, hz, hrl, hzl⟩

/-- A way of building, opened. -/
theorem open_how {W : World} {cs : Array Value} {fuel : Nat} {x : DataW H' × List MemPlace} (h : DataW.trod enc Tryz.prog W 0 (fun _ => true) true fuel 25 cs.toList = some x) :
    ∃ a b s : Int, U64 s ∧ cs = #[.int .i64 a, .int .i64 b, .int .u64 s] := by
  obtain ⟨y0, y1, y2, k, _, hlen, u0, u1, u2⟩ := Deep.trod_struct3 Tryz.underlying25 h
  rw [cellsHow] at hlen
  obtain ⟨cl⟩ := cs
  change cl.length = 3 at hlen
  match cl, hlen with
  | [v0, v1, v2], _ =>
    simp only [cells3o, cells24o, List.drop, List.take] at u0 u1 u2
    obtain ⟨m0, e0, _, _⟩ := DataW.trod_int Tryz.underlying3 u0
    obtain ⟨m1, e1, _, _⟩ := DataW.trod_int Tryz.underlying3 u1
    obtain ⟨m2, e2, _, w2⟩ := DataW.trod_int Tryz.underlying23 u2
    simp only [List.cons.injEq, and_true] at e0 e1 e2
    subst e0 e1 e2
    refine ⟨m0, m1, m2, ?_, rfl⟩
    simp only [Lit.wf, Bool.and_eq_true, decide_eq_true_eq] at w2
    have g1 : IntKind.min .u64 = 0 := by decide
    have g2 : IntKind.max .u64 = 18446744073709551615 := by decide
    rw [g1, g2] at w2
    exact ⟨w2.1, by omega⟩

instance : Inhabited Cll := ⟨⟨0, 0, 0, 0, 0, ⟨none, 0, 0⟩, [], ⟨none, 0, 0⟩, []⟩⟩

/-- Calls, opened. -/
theorem open_ops {W : World} {a : Option Addr} {len cap fuel : Nat} {x : DataW H' × List MemPlace} (h : DataW.trod enc Tryz.prog W 0 (fun _ => true) true fuel 39 [.slice a len cap] = some x) (hw : ∀ n ∈ x.1.weights Tryz.prog 39, n ≤ reachBytes) :
    ∃ l : List Cll, Ops (whole W) ⟨a, len, cap⟩ l ∧ (∀ o ∈ l, o.v.length ≤ 17592186044416 ∧ o.q.length ≤ 17592186044416) ∧ len ≤ 17592186044416 := by
  have hr : reachBytes = 140737488351232 := by decide
  rcases Deep.open_slice Tryz.underlying39 h with ⟨hcs, _⟩ | ⟨p, l, c, m, n, D, Pl, hcs, hb, hl, hm, hmm, hx, hel⟩
  · simp only [List.cons.injEq, Value.slice.injEq, and_true] at hcs
    obtain ⟨rfl, rfl, rfl⟩ := hcs
    exact ⟨[], ⟨⟨rfl, Nat.le_refl _, by simp, .inl rfl⟩, fun _ h => (by cases h)⟩, fun _ h => (by cases h), by omega⟩
  simp only [List.cons.injEq, Value.slice.injEq, and_true] at hcs
  obtain ⟨rfl, rfl, rfl⟩ := hcs
  simp only [if_true] at hmm
  subst hmm
  rw [maxLen_eq] at hm
  have hwt : ∀ k, k ∈ (((List.range len).map D).length + ((List.range (m - len)).map fun j => D (len + j)).length) * Tryz.prog.bytesOf 45 :: (DataW.weightsAll Tryz.prog 45 ((List.range len).map D) ++ DataW.weightsAll Tryz.prog 45 ((List.range (m - len)).map fun j => D (len + j))) → k ≤ reachBytes := by
    intro k hk
    refine hw k ?_
    rw [hx]
    simp only [DataW.weights, show Tryz.prog.underlying 39 = some (.slice 45) from Tryz.underlying39]
    exact hk
  have hcb : len * 32 ≤ reachBytes := by
    have := hwt _ (List.mem_cons_self ..)
    rw [bytesOp] at this
    simp at this
    have e : len + (m - len) = m := by omega
    omega
  have each : ∀ i, i < len → ∃ o : Cll, (∀ j, j < 7 → W.cell? ((p.add (i * 7)).add j) = (encO o)[j]?) ∧ (Ints (whole W) o.rv o.v ∧ Ints (whole W) o.qs o.q) ∧ o.v.length ≤ 17592186044416 ∧ o.q.length ≤ 17592186044416 := by
    intro i hi
    obtain ⟨cs', h1, h2⟩ := hel i (by omega)
    rw [cellsOp] at h1
    obtain ⟨_, hlen, hcell⟩ := World.cells?_some h1
    have hwi : ∀ n ∈ (D i).weights Tryz.prog 45, n ≤ reachBytes := fun n hn => hwt n (List.mem_cons_of_mem _ (List.mem_append_left _ (weights_all (i := i) (d := D i) (by simp [hi]) n hn)))
    obtain ⟨o, rfl, hv, hq, hvl, hql⟩ := open_op1 h2 hwi
    exact ⟨o, hcell, ⟨hv, hq⟩, hvl, hql⟩
  obtain ⟨f, hf⟩ := Deep.choose_lt each
  have hfl : ((List.range len).map f).length = len := by simp
  refine ⟨(List.range len).map f, ⟨⟨?_, hl, hm, .inr ⟨p, rfl, fun j v e => ?_⟩⟩, fun r hr => ?_⟩, fun r hr => ?_, by omega⟩
  · rw [flat_len encO_len, hfl]
  · have hj : j < len * 7 := by
      have := (List.getElem?_eq_some_iff.1 e).1
      rw [flat_len encO_len, hfl] at this
      exact this
    have e1 : j = j / 7 * 7 + j % 7 := by omega
    have hd : j / 7 < len := by omega
    rw [whole_cell]
    rw [e1, flat_get encO_len _ _ _ (Nat.mod_lt _ (by decide))] at e
    rw [List.getElem?_map, List.getElem?_range hd] at e
    simp only [Option.map_some, Option.bind_some] at e
    obtain ⟨g0, _⟩ := hf (j / 7) hd
    rw [e1, ← Addr.add_add', g0 _ (Nat.mod_lt _ (by decide)), e]
  · obtain ⟨i, hi, rfl⟩ := List.mem_map.1 hr
    exact (hf i (by simpa using hi)).2.1
  · obtain ⟨i, hi, rfl⟩ := List.mem_map.1 hr
    exact (hf i (by simpa using hi)).2.2

end

theorem laid_eq : (Rows.laid_math_bits_deBruijn64tab : DataW Unit) = Lib.tabData .u8 (Lib.deBruijn64tab.map Int.ofNat) := by kernel_rfl

theorem tab_of {W : World} (h : laidMetH Tryz.prog [("math/bits.deBruijn64tab", Rows.laid_math_bits_deBruijn64tab)] W) : TabU (whole W) := by
  rw [MakeChecks.laidMetH_plain _ _ _ (by kernel_rfl), laid_eq] at h
  have ht := Lib.tabIs_of_head (g := 0) (by kernel_rfl) (by kernel_rfl) Tryz.underlying204 Tryz.underlying5 (by kernel_rfl) (by kernel_rfl) h
  intro w hw j hj
  have hc := Lib.TabIs.cell ht (g := 0) (by kernel_rfl) j (by rw [List.length_map]; exact hj)
  rw [← whole_cell] at hc
  have := hw.cell hc
  rw [this]
  simp [List.getD, List.getElem?_eq_getElem hj]

end Go.Proofs.YtpbelkpfljhjlaaGreatDoor
