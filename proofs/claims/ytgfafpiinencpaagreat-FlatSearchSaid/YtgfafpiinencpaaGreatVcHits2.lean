/- Checks, distances, the document's hits in their order. -/
import Derived.Test.YtgfafpiinencpaaGreatVcRows
namespace Go.Proofs.YtgfafpiinencpaaGreat

/-! ### checks -/

theorem setTy : SetTy Tryz.prog 50 3 4 := ⟨by kernel_rfl, by kernel_rfl, fun _ => by kernel_rfl⟩

theorem spec.theodoliteref05_Check {s : Sl} {l : List Rw} {d : Int} {u : H} {K : Int → H → Prop} (hs : Rws u s l) (h : K (rcheck l d) u) : C.theodoliteref05_Check s d u K := by
  have key : ∀ z, rcheck l d = z → K z u := fun z e => e ▸ h
  apply vc.theodoliteref05_Check
  refine ⟨fun h1 => key _ (if_pos (.inl h1)), fun h1 => ⟨fun h2 => key _ (if_pos (.inr h2)), fun h2 => spec.theodoliteref03_Rows hs (key _ ?_)⟩⟩
  unfold rcheck
  rw [if_neg (by omega)]

theorem spec.flat_Check {s : Sl} {l : List Rw} {d : Int} {u : H} {K : Int → H → Prop} (hs : Rws u s l) (h : K (rcheck l d) u) : C.flat_Check s d u K := by
  have key : ∀ z, rcheck l d = z → K z u := fun z e => e ▸ h
  have hn := hs.len
  have hmx := hs.max
  refine ClT.forget (ss := [.one (.int .i64)]) ?_
  apply vc.flat_Check
  intro K0 hK0
  have hle := H.le.refl u
  refine ⟨fun h1 => ⟨hle, key _ (if_pos (.inl h1))⟩, fun h1 => ⟨fun h2 => ⟨hle, key _ (if_pos (.inr h2))⟩, fun h2 => ⟨fun h3 => ⟨hle, key _ ?_⟩, fun h3 => hK0 _ _ ?_⟩⟩⟩
  · unfold rcheck; rw [if_neg (by omega), if_pos (by omega)]
  have hr : rcheck l d = rchk d [] l := by unfold rcheck; rw [if_neg (by omega), if_neg (by omega)]
  rw [hr] at key
  clear hK0 K0
  refine sem_makeMap fun b hb hset => ?_
  refine ⟨fun _ i v => 0 ≤ i ∧ i ≤ (s.n : Int) ∧ u.le v ∧ SetOf v b ((l.take i.toNat).map (·.id)) ∧ rchk d ((l.take i.toNat).map (·.id)) (l.drop i.toNat) = rchk d [] l, fun _ i _ => s.n - i.toNat,
    ⟨by omega, by omega, H.le_ins _ hb, by simpa using hset, by simp⟩, ?_⟩
  rintro _ i v ⟨h0, hi1, hv, hset, hp⟩
  refine ⟨fun hi => ?_, fun hi => ⟨hv, key _ ?_⟩⟩
  · obtain ⟨p, hp1, r, hr', c0, c1, hiv⟩ := (hs.mono hv).at h0 hi
    rw [rchk_step hr'] at hp
    refine ⟨p, hp1, ⟨h0, hi⟩, _, c0, _, c1, fun K13 hK13 => ⟨fun h4 => ⟨hv, key _ ?_⟩, fun h4 => ⟨fun h5 => ⟨hv, key _ ?_⟩, fun h5 => sem_lookup setTy hset ⟨fun h6 => ⟨hv, key _ ?_⟩, fun h6 => hK13 _ _ ?_⟩⟩⟩⟩
    · rw [if_pos (.inl h4)] at hp; exact hp.symm
    · rw [if_pos (.inr (.inl h5))] at hp; exact hp.symm
    · rw [if_pos (.inr (.inr (by simpa using h6)))] at hp; exact hp.symm
    · have h6 : r.id ∉ (l.take i.toNat).map (·.id) := by simpa using h6
      rw [if_neg (fun h => h.elim (fun h => by omega) fun h => h.elim (fun h => by omega) fun h => h6 h)] at hp
      refine spec.vec_Check hiv ⟨fun hne => ⟨hv, key _ ?_⟩, fun he => sem_mapAdd setTy hset h6 fun v' hset' hkeep _ => ⟨⟨by omega, by omega⟩, ⟨by omega, by omega, ?_, ?_, ?_⟩, by dsimp only; omega⟩⟩
      · rw [if_pos hne] at hp; exact hp.symm
      · exact fun g o hg => hkeep g o (hv g o hg) (fun e => by rw [e, hb] at hg; cases hg)
      · rw [show (i + 1).toNat = i.toNat + 1 by omega, List.take_add_one, hr']
        simpa using hset'
      · rw [if_neg (by simpa using he)] at hp
        rw [show (i + 1).toNat = i.toNat + 1 by omega]; exact hp
  · rw [List.drop_eq_nil_of_le (by omega)] at hp
    exact hp.symm

/-- The error of a question. -/
def asked (l : List Rw) (q : List Int) : Int := if vcheck q q.length ≠ 0 then vcheck q q.length else rcheck l q.length

theorem spec.theodoliteref05_Asked {s t : Sl} {l : List Rw} {q : List Int} {u : H} {K : Int → H → Prop} (hs : Rws u s l) (ht : Ints u t q) (h : K (asked l q) u) : C.theodoliteref05_Asked s t u K := by
  have key : ∀ z, asked l q = z → K z u := fun z e => e ▸ h
  apply vc.theodoliteref05_Asked
  rw [show (t.n : Int) = (q.length : Int) by rw [ht.len]]
  refine spec.theodoliteref03_Check ht ⟨fun hne => key _ (if_pos hne), fun he => spec.theodoliteref05_Check hs (key _ (if_neg (by simpa using he)))⟩

theorem spec.flat_asked {s t : Sl} {l : List Rw} {q : List Int} {u : H} {K : Int → H → Prop} (hs : Rws u s l) (ht : Ints u t q) (h : K (asked l q) u) : C.flat_asked s t u K := by
  have key : ∀ z, asked l q = z → K z u := fun z e => e ▸ h
  apply vc.flat_asked
  rw [show (t.n : Int) = (q.length : Int) by rw [ht.len]]
  refine spec.vec_Check ht ⟨fun hne => key _ (if_pos hne), fun he => spec.flat_Check hs (key _ (if_neg (by simpa using he)))⟩

theorem vcheck_ok {l : List Int} {d : Int} (h : vcheck l d = 0) : 1 ≤ d ∧ d ≤ 64 ∧ (l.length : Int) = d ∧ vok l := by
  unfold vcheck at h
  split at h
  · rename_i h1
    split at h
    · rename_i h2; exact ⟨h1.1, h1.2.1, h1.2.2, by omega, h2⟩
    · cases h
  · cases h

theorem ok_vcheck {l : List Int} (h : vok l) (h1 : 1 ≤ l.length) : vcheck l l.length = 0 := by
  unfold vcheck
  rw [if_pos ⟨by omega, by have := h.1; omega, rfl⟩, if_pos h.2]

/-- Rows as they must be. -/
structure Rok (l : List Rw) (d : Int) : Prop where
  dim : 1 ≤ d ∧ d ≤ 64
  len : l.length ≤ 512
  id : ∀ r ∈ l, 1 ≤ r.id ∧ r.id ≤ 1000000000
  nodup : (l.map (·.id)).Nodup
  v : ∀ r ∈ l, (r.v.length : Int) = d ∧ vok r.v

theorem rchk_ok {d : Int} : ∀ {l : List Rw} {seen : List Int}, rchk d seen l = 0 ↔ ((∀ r ∈ l, 1 ≤ r.id ∧ r.id ≤ 1000000000 ∧ r.id ∉ seen ∧ vcheck r.v d = 0) ∧ (l.map (·.id)).Nodup) := by
  intro l
  induction l with
  | nil => intro seen; simp [rchk]
  | cons r l ih =>
    intro seen
    simp only [rchk]
    split
    · rename_i h
      refine ⟨fun h => (by cases h), fun ⟨h1, _⟩ => ?_⟩
      have := h1 r (by simp)
      exfalso
      rcases h with h | h | h
      · omega
      · omega
      · exact this.2.2.1 h
    · rename_i h
      split
      · rename_i hv
        exact ⟨fun h => absurd h hv, fun ⟨h1, _⟩ => absurd (h1 r (by simp)).2.2.2 hv⟩
      · rename_i hv
        rw [ih]
        simp only [List.mem_cons, forall_eq_or_imp, List.map_cons, List.nodup_cons, List.mem_append, List.not_mem_nil, or_false, not_or]
        constructor
        · rintro ⟨h1, h2⟩
          refine ⟨⟨⟨by omega, by omega, fun hm => h (.inr (.inr hm)), by simpa using hv⟩, fun x hx => ⟨(h1 x hx).1, (h1 x hx).2.1, (h1 x hx).2.2.1.1, (h1 x hx).2.2.2⟩⟩, ?_, h2⟩
          intro hm
          obtain ⟨x, hx, he⟩ := List.mem_map.1 hm
          exact (h1 x hx).2.2.1.2 he
        · rintro ⟨⟨_, h1⟩, h2, h3⟩
          refine ⟨fun x hx => ⟨(h1 x hx).1, (h1 x hx).2.1, ⟨(h1 x hx).2.2.1, fun he => h2 (List.mem_map.2 ⟨x, hx, he⟩)⟩, (h1 x hx).2.2.2⟩, h3⟩

theorem rcheck_ok {l : List Rw} {d : Int} : rcheck l d = 0 ↔ Rok l d := by
  unfold rcheck
  constructor
  · intro h
    split at h
    · cases h
    · split at h
      · cases h
      · rename_i h1 h2
        obtain ⟨h3, h4⟩ := rchk_ok.1 h
        exact ⟨by omega, by omega, fun r hr => ⟨(h3 r hr).1, (h3 r hr).2.1⟩, h4, fun r hr => ⟨(vcheck_ok (h3 r hr).2.2.2).2.2.1, (vcheck_ok (h3 r hr).2.2.2).2.2.2⟩⟩
  · intro h
    have := h.dim
    have := h.len
    rw [if_neg (by omega), if_neg (by omega)]
    refine rchk_ok.2 ⟨fun r hr => ⟨(h.id r hr).1, (h.id r hr).2, by simp, ?_⟩, h.nodup⟩
    obtain ⟨h1, h2⟩ := h.v r hr
    rw [← h1]
    exact ok_vcheck h2 (by omega)

/-- A question as it must be. -/
structure Qok (l : List Rw) (q : List Int) : Prop where
  vq : vok q
  rows : Rok l q.length

theorem asked_ok {l : List Rw} {q : List Int} : asked l q = 0 ↔ Qok l q := by
  unfold asked
  constructor
  · intro h
    split at h
    · rename_i hne; exact absurd h hne
    · rename_i he
      exact ⟨(vcheck_ok (by simpa using he)).2.2.2, rcheck_ok.1 h⟩
  · intro ⟨h1, h2⟩
    have hv := ok_vcheck h1 (by have := h2.dim; omega)
    rw [if_neg (by simp [hv])]
    exact rcheck_ok.2 h2

/-! ### distances -/

theorem build_two (s t : Sl) : buildOf Tryz.prog 104 2 #[(0, .slice s.a s.n s.c), (1, .slice t.a t.n t.c)] = some (23, [.slice s.a s.n s.c, .slice t.a t.n t.c]) := by kernel_rfl

theorem spec.vec_Dist {s t : Sl} {a b : List Int} {u : H} {K : Int → Int → Int → H → Prop} (hs : Ints u s a) (ht : Ints u t b) (ha : vok a) (h1 : 1 ≤ a.length) (hb : vok b) (hl : a.length = b.length)
    (h : ∀ x y, U64 x → U64 y → wv x y = sqTo a b a.length → K x y 0 u) : C.vec_Dist s t u K := by
  refine ClT.forget (ss := [.agg [.int .u64, .int .u64], .one (.int .i64)]) ?_
  apply vc.vec_Dist
  refine sem_build (build_two _ _) fun g hg => ?_
  generalize hu' : u.ins g _ = u'
  have hle : u.le u' := by subst hu'; exact H.le_ins _ hg
  have c : ∀ j v, (#[Value.slice s.a s.n s.c, Value.slice t.a t.n t.c] : Array Value)[j]? = some v → u'.cell? ⟨g, j, none⟩ = some v := by
    intro j v hv
    subst hu'
    exact (H.cell?_of (H.ins_same _ _ _) j).trans hv
  clear hu' hg
  refine ⟨fun _ i _ _ v => v = u' ∧ 0 ≤ i ∧ i ≤ 2, fun _ i _ _ _ => (2 - i).toNat, ⟨rfl, by omega, by omega⟩, ?_⟩
  rintro _ i _ _ v ⟨rfl, l0, l1⟩
  rw [show (s.n : Int) = (a.length : Int) by rw [hs.len]]
  have va := ok_vcheck ha h1
  have vb : vcheck b a.length = 0 := by rw [hl]; exact ok_vcheck hb (by omega)
  refine ⟨fun hi => ⟨_, rfl, ⟨l0, hi⟩, ?_⟩, fun hi => spec.vec_far (hs.mono hle) (ht.mono hle) ha hb hl fun x y hx hy hw => ⟨hle, h x y hx hy hw⟩⟩
  have hi : i < 2 := hi
  have hc : i = 0 ∨ i = 1 := by omega
  rcases hc with rfl | rfl
  · refine ⟨s, c 0 _ rfl, spec.vec_Check (hs.mono hle) ⟨fun hne => absurd va hne, fun _ => ⟨⟨by omega, by omega⟩, ⟨rfl, by omega, by omega⟩, by dsimp only; omega⟩⟩⟩
  · refine ⟨t, c 1 _ rfl, spec.vec_Check (ht.mono hle) ⟨fun hne => absurd vb hne, fun _ => ⟨⟨by omega, by omega⟩, ⟨rfl, by omega, by omega⟩, by dsimp only; omega⟩⟩⟩

theorem sqTo_ok {a b : List Int} (ha : vok a) (hb : vok b) (hl : a.length = b.length) : Dok (sqTo a b a.length) := by
  have := sqTo_le ha hb a.length (by omega) (by omega)
  have := ha.1
  unfold Dok
  constructor <;> omega

/-- A row's hit. -/
def hitOf (q : List Int) (r : Rw) : Hit := (r.id, sqTo r.v q r.v.length)

theorem Qok.hit {l : List Rw} {q : List Int} (h : Qok l q) {r : Rw} (hr : r ∈ l) : Dok (hitOf q r).2 :=
  sqTo_ok (h.rows.v r hr).2 h.vq (by have := (h.rows.v r hr).1; omega)

end Go.Proofs.YtgfafpiinencpaaGreat
