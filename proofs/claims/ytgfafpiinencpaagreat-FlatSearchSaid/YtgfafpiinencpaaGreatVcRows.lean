/- Rows and hits in memory; the document's and the program's checks of rows; distances. -/
import Derived.Test.YtgfafpiinencpaaGreatVcRef
namespace Go.Proofs.YtgfafpiinencpaaGreat

theorem Addr.add_zero' (p : Addr) : p.add 0 = p := rfl

/-! ### hits -/

def hiW (d : Int) : Int := d / 18446744073709551616
def loW (d : Int) : Int := d % 18446744073709551616

/-- A distance as it must be. -/
def Dok (d : Int) : Prop := 0 ≤ d ∧ d < 340282366920938463463374607431768211456

theorem wv_hl (d : Int) : wv (hiW d) (loW d) = d := by unfold wv hiW loW; omega
theorem loU (d : Int) : U64 (loW d) := by unfold U64 loW; omega
theorem hiU {d : Int} (h : Dok d) : U64 (hiW d) := by unfold Dok at h; unfold U64 hiW; omega
theorem hi_wv {x y : Int} (hy : U64 y) : hiW (wv x y) = x := by unfold U64 at hy; unfold hiW wv; omega
theorem lo_wv {x y : Int} (hy : U64 y) : loW (wv x y) = y := by unfold U64 at hy; unfold loW wv; omega
theorem Dok_wv {x y : Int} (hx : U64 x) (hy : U64 y) : Dok (wv x y) := by unfold U64 at hx hy; unfold Dok wv; omega

def encH (h : Hit) : List Value := [.int .i64 h.1, .int .u64 (hiW h.2), .int .u64 (loW h.2)]
theorem encH_len (h : Hit) : (encH h).length = 3 := rfl
theorem encH_one (h : Hit) : ∀ v ∈ encH h, v.oneCell' = true := by simp [encH, Value.oneCell']

theorem hit_eq {a b : Hit} : (a.1 = b.1 ∧ hiW a.2 = hiW b.2 ∧ loW a.2 = loW b.2) ↔ a = b := by
  constructor
  · rintro ⟨h1, h2, h3⟩
    have : a.2 = b.2 := by rw [← wv_hl a.2, ← wv_hl b.2, h2, h3]
    exact Prod.ext h1 this
  · rintro rfl; exact ⟨rfl, rfl, rfl⟩

/-- A slice of hits. -/
def Hts (u : H) (s : Sl) (l : List Hit) : Prop := Seg u s 3 (l.flatMap encH)

theorem Hts.len {u : H} {s : Sl} {l : List Hit} (h : Hts u s l) : s.n = l.length := flat_n encH_len (by decide) h
theorem Hts.max {u : H} {s : Sl} {l : List Hit} (h : Hts u s l) : s.n ≤ 9223372036854775807 := Nat.le_trans (Seg.cap h) (Seg.max h)
theorem Hts.mono {u u' : H} {s : Sl} {l : List Hit} (h : Hts u s l) (k : u.le u') : Hts u' s l := Seg.mono h k

theorem Hts.at {u : H} {s : Sl} {l : List Hit} (h : Hts u s l) {x : Int} (h0 : 0 ≤ x) (h1 : x < (s.n : Int)) : ∃ p, s.a = some p ∧ ∃ q : Hit, l[x.toNat]? = some q ∧
    u.cell? (p.add (x.toNat * 3)) = some (.int .i64 q.1) ∧ u.cell? ((p.add (x.toNat * 3)).add 1) = some (.int .u64 (hiW q.2)) ∧ u.cell? ((p.add (x.toNat * 3)).add 2) = some (.int .u64 (loW q.2)) := by
  have hn := h.len
  have hl : x.toNat < l.length := by omega
  obtain ⟨p, hp, hc⟩ := Seg.elem encH_len (by decide) h (List.getElem?_eq_getElem hl)
  exact ⟨p, hp, _, List.getElem?_eq_getElem hl, hc 0 _ rfl, hc 1 _ rfl, hc 2 _ rfl⟩

/-! ### rows -/

structure Rw where
  id : Int
  s : Sl
  v : List Int

def encR (r : Rw) : List Value := [.int .i64 r.id, .slice r.s.a r.s.n r.s.c]
theorem encR_len (r : Rw) : (encR r).length = 2 := rfl
theorem encR_one (r : Rw) : ∀ v ∈ encR r, v.oneCell' = true := by simp [encR, Value.oneCell']

def Rws (u : H) (s : Sl) (l : List Rw) : Prop := Seg u s 2 (l.flatMap encR) ∧ ∀ r ∈ l, Ints u r.s r.v

theorem Rws.len {u : H} {s : Sl} {l : List Rw} (h : Rws u s l) : s.n = l.length := flat_n encR_len (by decide) h.1
theorem Rws.max {u : H} {s : Sl} {l : List Rw} (h : Rws u s l) : s.n ≤ 9223372036854775807 := Nat.le_trans (Seg.cap h.1) (Seg.max h.1)
theorem Rws.mono {u u' : H} {s : Sl} {l : List Rw} (h : Rws u s l) (k : u.le u') : Rws u' s l := ⟨Seg.mono h.1 k, fun r hr => (h.2 r hr).mono k⟩

theorem Rws.at {u : H} {s : Sl} {l : List Rw} (h : Rws u s l) {x : Int} (h0 : 0 ≤ x) (h1 : x < (s.n : Int)) : ∃ p, s.a = some p ∧ ∃ q : Rw, l[x.toNat]? = some q ∧
    u.cell? (p.add (x.toNat * 2)) = some (.int .i64 q.id) ∧ u.cell? ((p.add (x.toNat * 2)).add 1) = some (.slice q.s.a q.s.n q.s.c) ∧ Ints u q.s q.v := by
  have hn := h.len
  have hl : x.toNat < l.length := by omega
  obtain ⟨p, hp, hc⟩ := Seg.elem encR_len (by decide) h.1 (List.getElem?_eq_getElem hl)
  exact ⟨p, hp, _, List.getElem?_eq_getElem hl, hc 0 _ rfl, hc 1 _ rfl, h.2 _ (List.getElem_mem hl)⟩

/-! ### comparisons -/

theorem spec.theodoliteref05_Before {a b : Hit} {u : H} {K : Bool → H → Prop} (ha : Dok a.2) (hb : Dok b.2) (h : K (hlt a b) u) : C.theodoliteref05_Before a.1 (hiW a.2) (loW a.2) b.1 (hiW b.2) (loW b.2) u K := by
  apply vc.theodoliteref05_Before
  have key : ∀ z, hlt a b = z → K z u := fun z e => e ▸ h
  refine ⟨fun hn => spec.theodoliteref01_Less (hiU ha) (loU _) (hiU hb) (loU _) (key _ ?_), fun he => key _ ?_⟩
  · rw [wv_hl, wv_hl]
    have : a.2 ≠ b.2 := fun e => hn (by rw [e]; exact ⟨rfl, rfl⟩)
    simp [hlt, this]
  · have : a.2 = b.2 := by rw [← wv_hl a.2, ← wv_hl b.2, he.1, he.2]
    simp [hlt, this]

theorem spec.cmp_Compare_int_ {a b : Int} {u : H} {K : Int → H → Prop} (h : K (if a < b then -1 else if b < a then 1 else 0) u) : C.cmp_Compare_int_ a b u K := by
  have key : ∀ z, (if a < b then (-1 : Int) else if b < a then 1 else 0) = z → K z u := fun z e => e ▸ h
  apply vc.cmp_Compare_int_
  apply vc.cmp_isNaN_int_
  apply vc.cmp_isNaN_int_
  simp only [decide_true, Bool.not_true]
  refine ⟨fun h => by simp at h, fun _ => ⟨fun h => by simp at h, fun _ => ⟨fun h1 => key _ (by simp [h1]), fun h1 => ⟨fun h2 => key _ (by simp [h1, h2]), fun h2 => key _ (by simp [h1, h2])⟩⟩⟩⟩

theorem spec.cmp_Or_int_ {s : Sl} {a b : Int} {u : H} {K : Int → H → Prop} (hs : Ints u s [a, b]) (h : K (if a ≠ 0 then a else b) u) : C.cmp_Or_int_ s u K := by
  have hn := hs.len
  simp only [List.length_cons, List.length_nil, Nat.zero_add, Nat.reduceAdd] at hn
  apply vc.cmp_Or_int_
  refine ⟨fun _ i v => v = u ∧ 0 ≤ i ∧ i ≤ 2 ∧ (0 < i → a = 0) ∧ (1 < i → b = 0), fun _ i _ => (2 - i).toNat, ⟨rfl, by omega, by omega, by omega, by omega⟩, ?_⟩
  rintro _ i v ⟨rfl, h0, h1, h2, h3⟩
  refine ⟨fun hi => ?_, fun hi => ?_⟩
  · obtain ⟨p, hp, hc⟩ := hs.at h0 hi
    refine ⟨p, hp, ⟨h0, hi⟩, _, hc, ?_⟩
    have hc : i = 0 ∨ i = 1 := by omega
    rcases hc with rfl | rfl
    · refine ⟨fun hne => ?_, fun he => ⟨⟨by omega, by omega⟩, ⟨rfl, by omega, by omega, fun _ => he, by omega⟩, by dsimp only; omega⟩⟩
      have hne : a ≠ 0 := hne
      rw [if_pos hne] at h; exact h
    · have ha := h2 (by omega)
      rw [if_neg (by omega)] at h
      refine ⟨fun hne => h, fun he => ⟨⟨by omega, by omega⟩, ⟨rfl, by omega, by omega, fun _ => ha, fun _ => he⟩, by dsimp only; omega⟩⟩
  · have ha := h2 (by omega)
    have hb := h3 (by omega)
    rw [if_neg (by omega), hb] at h
    exact h

theorem tInts : elemT Tryz.prog 23 = some (3, 1, 8, [.int .i64 0]) := by kernel_rfl

theorem build_ints2 (a b : Int) : buildOf Tryz.prog 23 2 #[(0, .int .i64 a), (1, .int .i64 b)] = some (3, [.int .i64 a, .int .i64 b]) := by kernel_rfl

theorem ints_made {u0 u : H} (h : u0.le u) {g : Nat} (hg : u g = none) (l : List Int) (e : TypeId) (hl : l.length ≤ 9223372036854775807) :
    Ints (u.ins g (.cells (l.map fun x => Value.int .i64 x).toArray e (0, 0))) ⟨some ⟨g, 0, none⟩, l.length, l.length⟩ l := by
  have := (OwnF.make (k := 1) h hg (cells := (l.map fun x => Value.int .i64 x).toArray) (e := e) (n := l.length) hl (by simp)).own.seg
  simpa [Ints] using this

theorem spec.topk_compare {a b : Hit} {u : H} {K : Int → H → Prop} (h : ∀ z : Int, (z < 0 ↔ hlt a b = true) → (0 < z ↔ hlt b a = true) → -1 ≤ z → z ≤ 1 → K z u) : C.topk_compare a.1 (hiW a.2) (loW a.2) b.1 (hiW b.2) (loW b.2) u K := by
  refine ClT.forget (ss := [.one (.int .i64)]) ?_
  apply vc.topk_compare
  refine spec.wide_Cmp (loU _) (loU _) ⟨H.le.refl _, spec.cmp_Compare_int_ (sem_build (build_ints2 _ _) fun g hg => ?_)⟩
  refine spec.cmp_Or_int_ (ints_made (H.le.refl u) hg [_, _] 3 (by simp)) ⟨H.le_ins _ hg, h _ ?_ ?_ ?_ ?_⟩
  · rw [wv_hl, wv_hl, hlt_iff]
    (repeat' split) <;> omega
  · rw [wv_hl, wv_hl, hlt_iff]
    (repeat' split) <;> omega
  · (repeat' split) <;> omega
  · (repeat' split) <;> omega

theorem spec.topk_Less {a b : Hit} {u : H} {K : Bool → H → Prop} (h : K (hlt a b) u) : C.topk_Less a.1 (hiW a.2) (loW a.2) b.1 (hiW b.2) (loW b.2) u K := by
  apply vc.topk_Less
  refine spec.topk_compare fun z hz _ _ _ => ?_
  have : decide (z < 0) = hlt a b := by
    cases hb : hlt a b <;> simp [hz, hb]
  rw [this]; exact h

theorem spec.flat_Range_1 {a b : Hit} {u : H} {K : Int → H → Prop} (h : K (if hlt a b = true then -1 else 1) u) : C.flat_Range_1 a.1 (hiW a.2) (loW a.2) b.1 (hiW b.2) (loW b.2) u K := by
  apply vc.flat_Range_1
  refine spec.topk_Less ⟨fun hb => ?_, fun hb => ?_⟩
  · rw [if_pos hb] at h; exact h
  · rw [if_neg (by simp [hb])] at h; exact h

/-! ### lists of hits compared -/

theorem spec.theodolitekeep_Hits {s t : Sl} {a b : List Hit} {u : H} {K : Bool → H → Prop} (hs : Hts u s a) (ht : Hts u t b) (h : K (decide (a = b)) u) : C.theodolitekeep_Hits s t u K := by
  have key : ∀ z, decide (a = b) = z → K z u := fun z e => e ▸ h
  have hn := hs.len
  have hm := ht.len
  have hmx := hs.max
  apply vc.theodolitekeep_Hits
  refine ⟨fun hne => key _ ?_, fun he => ?_⟩
  · have : a ≠ b := fun e => hne (by rw [hn, hm, e])
    simp [this]
  · refine ⟨fun _ i v => v = u ∧ 0 ≤ i ∧ i ≤ (s.n : Int) ∧ a.take i.toNat = b.take i.toNat, fun _ i _ => s.n - i.toNat, ⟨rfl, by omega, by omega, by simp⟩, ?_⟩
    rintro _ i v ⟨rfl, h0, h1, hp⟩
    refine ⟨fun hi => ?_, fun hi => key _ ?_⟩
    · obtain ⟨p, hp1, x, hx, c0, c1, c2⟩ := hs.at h0 hi
      obtain ⟨q, hq1, y, hy, d0, d1, d2⟩ := ht.at h0 (show i < (t.n : Int) by omega)
      refine ⟨p, hp1, ⟨h0, hi⟩, q, hq1, ⟨h0, by omega⟩, _, c0, _, c1, _, c2, _, d0, _, d1, _, d2, fun hne => key _ ?_, fun hxy => ⟨⟨by omega, by omega⟩, ⟨rfl, by omega, by omega, ?_⟩, by dsimp only; omega⟩⟩
      · have hxy : x ≠ y := fun e => hne (hit_eq.2 e)
        have : a ≠ b := fun e => by rw [e, hy] at hx; cases hx; exact hxy rfl
        simp [this]
      · have : x = y := hit_eq.1 hxy
        have e1 : (i + 1).toNat = i.toNat + 1 := by omega
        rw [e1, List.take_add_one, List.take_add_one, hp, hx, hy, this]
    · have e1 : i.toNat = a.length := by omega
      rw [e1, List.take_length, ← hn, show s.n = b.length by omega, List.take_length] at hp
      simp [hp]

/-! ### rows as they must be -/

/-- What rows' tests answer, some ids being taken already. -/
def rchk (d : Int) : List Int → List Rw → Int
  | _, [] => 0
  | seen, r :: l => if r.id < 1 ∨ 1000000000 < r.id ∨ r.id ∈ seen then 50 else if vcheck r.v d ≠ 0 then vcheck r.v d else rchk d (seen ++ [r.id]) l

def rcheck (l : List Rw) (d : Int) : Int := if d < 1 ∨ 64 < d then 30 else if 512 < l.length then 2 else rchk d [] l

theorem rchk_step {d : Int} {l : List Rw} {i : Nat} {r : Rw} (h : l[i]? = some r) : rchk d ((l.take i).map (·.id)) (l.drop i) =
    if r.id < 1 ∨ 1000000000 < r.id ∨ r.id ∈ (l.take i).map (·.id) then 50 else if vcheck r.v d ≠ 0 then vcheck r.v d else rchk d ((l.take (i + 1)).map (·.id)) (l.drop (i + 1)) := by
  have hi : i < l.length := (List.getElem?_eq_some_iff.1 h).1
  have hr : l[i] = r := (List.getElem?_eq_some_iff.1 h).2
  rw [List.drop_eq_getElem_cons hi, hr]
  simp only [rchk]
  rw [List.take_add_one, h]
  simp

theorem spec.theodoliteref03_Id {x : Int} {u : H} {K : Bool → H → Prop} (h : K (decide (1 ≤ x ∧ x ≤ 1000000000)) u) : C.theodoliteref03_Id x u K := by
  apply vc.theodoliteref03_Id
  refine ⟨fun h1 => ?_, fun h1 => ?_⟩
  · have : decide (1 ≤ x ∧ x ≤ 1000000000) = decide (x ≤ 1000000000) := by simp [h1]
    rw [this] at h; exact h
  · have : decide (1 ≤ x ∧ x ≤ 1000000000) = false := by simp; omega
    rw [this] at h; exact h

theorem spec.theodoliteref03_Rows {s : Sl} {l : List Rw} {d : Int} {u : H} {K : Int → H → Prop} (hs : Rws u s l) (h : K (if 512 < l.length then 2 else rchk d [] l) u) : C.theodoliteref03_Rows s d u K := by
  have hn := hs.len
  apply vc.theodoliteref03_Rows
  refine ⟨fun h1 => ?_, fun h1 => ?_⟩
  · rw [if_pos (by omega)] at h; exact h
  rw [if_neg (by omega)] at h
  have key : ∀ z, rchk d [] l = z → K z u := fun z e => e ▸ h
  refine ⟨fun _ i v => v = u ∧ 0 ≤ i ∧ i ≤ (s.n : Int) ∧ rchk d ((l.take i.toNat).map (·.id)) (l.drop i.toNat) = rchk d [] l, fun _ i _ => s.n - i.toNat, ⟨rfl, by omega, by omega, by simp⟩, ?_⟩
  rintro _ i v ⟨rfl, h0, h2, hp⟩
  refine ⟨fun hi => ?_, fun hi => key _ ?_⟩
  · obtain ⟨p, hp1, r, hr, c0, c1, hv⟩ := hs.at h0 hi
    rw [rchk_step hr] at hp
    refine ⟨p, hp1, ⟨h0, hi⟩, _, c0, spec.theodoliteref03_Id ⟨fun hb => key _ ?_, fun hb => ?_⟩⟩
    · have hb : ¬ (1 ≤ r.id ∧ r.id ≤ 1000000000) := by simpa using hb
      rw [if_pos (by omega)] at hp; exact hp.symm
    · have hb : 1 ≤ r.id ∧ r.id ≤ 1000000000 := by simpa using hb
      refine ⟨fun _ k w => w = v ∧ 0 ≤ k ∧ k ≤ i ∧ r.id ∉ (l.take k.toNat).map (·.id), fun _ k _ => (i - k).toNat, ⟨rfl, by omega, by omega, by simp⟩, ?_⟩
      rintro _ k w ⟨rfl, k0, k1, hk⟩
      refine ⟨fun hki => ?_, fun hki => ?_⟩
      · obtain ⟨q, hq1, r2, hr2, d0, _, _⟩ := hs.at k0 (show k < (s.n : Int) by omega)
        refine ⟨q, hq1, ⟨k0, by omega⟩, p, hp1, ⟨h0, hi⟩, _, d0, _, c0, fun he => key _ ?_, fun hne => ⟨⟨by omega, by omega⟩, ⟨rfl, by omega, by omega, ?_⟩, by dsimp only; omega⟩⟩
        · have hmem : r.id ∈ (l.take i.toNat).map (·.id) := by
            refine List.mem_map.2 ⟨r2, ?_, he⟩
            refine List.mem_of_getElem? (i := k.toNat) ?_
            rw [List.getElem?_take, if_pos (by omega)]; exact hr2
          rw [if_pos (.inr (.inr hmem))] at hp; exact hp.symm
        · rw [show (k + 1).toNat = k.toNat + 1 by omega, List.take_add_one, hr2]
          simp only [Option.toList, List.map_append, List.map_cons, List.map_nil, List.mem_append, List.mem_singleton, not_or]
          exact ⟨hk, fun e => hne e.symm⟩
      · have hki : k = i := by omega
        subst hki
        rw [if_neg (fun h => h.elim (fun h => by omega) fun h => h.elim (fun h => by omega) fun h => hk h)] at hp
        refine ⟨p, hp1, ⟨h0, hi⟩, _, c1, spec.theodoliteref03_Check hv ⟨fun hne => key _ ?_, fun he => ⟨⟨by omega, by omega⟩, ⟨rfl, by omega, by omega, ?_⟩, by dsimp only; omega⟩⟩⟩
        · rw [if_pos hne] at hp; exact hp.symm
        · rw [if_neg (by simpa using he)] at hp
          rw [show (k + 1).toNat = k.toNat + 1 by omega]; exact hp
  · rw [List.drop_eq_nil_of_le (by omega)] at hp
    exact hp.symm

end Go.Proofs.YtgfafpiinencpaaGreat
