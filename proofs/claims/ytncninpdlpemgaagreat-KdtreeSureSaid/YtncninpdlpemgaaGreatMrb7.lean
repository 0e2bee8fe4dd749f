/- Texts of mine, joined by merge.py: VcIxB, VcPn0, VcReg, VcAll, VcRowF, VcDelR, VcPn1, VcSort2, VcStab, VcKd0, VcMaps, VcOwn, VcKd1, VcKd2. -/
import Derived.Test.YtncninpdlpemgaaGreatMrb6
import Derived.Shelf.SlSortCmp.Whole1
import Derived.Laws.NewFold
import Derived.Maps.RangeRun
set_option maxRecDepth 100000

/- VcIxB -/
namespace Go.Proofs.YtncninpdlpemgaaGreat

def H0 : H := fun _ => none
theorem H0_le (u : H) : H0.le u := fun _ _ h => by cases h

theorem Own.f {u : H} {e k : Nat} {s : Sl} {xs : List Value} (h : Own u e k s xs) : OwnF H0 u e k s xs := ⟨h, H0_le u, fun _ _ => rfl⟩

/-- What is known but for a slice's block. -/
def H.sans (u : H) (s : Sl) : H := fun c => open Classical in if s.blk = some c then none else u c
theorem sans_at {u : H} {s : Sl} {c : Nat} (h : s.blk ≠ some c) : H.sans u s c = u c := if_neg h
theorem sans_le (u : H) (s : Sl) : (H.sans u s).le u := fun c o h => by
  unfold H.sans at h
  split at h
  · cases h
  · exact h
theorem sans_of {u : H} {s : Sl} {c : Nat} {o : Obj} (h : H.sans u s c = some o) : u c = some o ∧ s.blk ≠ some c := by
  unfold H.sans at h
  split at h
  · cases h
  · rename_i e; exact ⟨h, e⟩

section
variable {Tg Tr : Type}

/-- What lies in memory stays where its blocks do. -/
structure KeepG (A : (Nat → Option Tg) → H → Nat → Tr → Prop) : Prop where
  keep : ∀ {fp fp' : Nat → Option Tg} {u u' : H} {b : Nat} {T : Tr}, A fp u b T → (∀ c, fp c ≠ none → fp' c = fp c) → (∀ c o, u c = some o → fp c ≠ none → u' c = some o) → A fp' u' b T

/-- In memory, all of its blocks made behind u0. -/
structure InG (A : (Nat → Option Tg) → H → Nat → Tr → Prop) (u0 u : H) (fp : Nat → Option Tg) (b : Nat) (T : Tr) : Prop where
  tr : A fp u b T
  le : u0.le u
  out : ∀ c, fp c ≠ none → u0 c = none
  known : ∀ c, fp c ≠ none → u c ≠ none

/-- It has turned: what is not its own is as it was. -/
structure TurnG (u : H) (fp : Nat → Option Tg) (u' : H) (fp' : Nat → Option Tg) : Prop where
  keep : ∀ c o, u c = some o → fp c = none → u' c = some o
  grow : ∀ c, fp' c ≠ none → fp c ≠ none ∨ u c = none

variable {A : (Nat → Option Tg) → H → Nat → Tr → Prop}

omit A in
theorem TurnG.mono {u u' : H} {fp : Nat → Option Tg} (h : u.le u') : TurnG u fp u' fp := ⟨fun c o hc _ => h c o hc, fun _ h => .inl h⟩

omit A in
theorem TurnG.off {u u' : H} {fp fp' : Nat → Option Tg} (h : TurnG u fp u' fp') {c : Nat} {o : Obj} (hc : u c = some o) (hf : fp c = none) : fp' c = none := by
  cases e : fp' c with
  | none => rfl
  | some t =>
    rcases h.grow c (by rw [e]; simp) with h1 | h1
    · exact absurd hf h1
    · rw [hc] at h1; cases h1

omit A in
theorem TurnG.trans {u u1 u2 : H} {fp fp1 fp2 : Nat → Option Tg} (h : TurnG u fp u1 fp1) (k : TurnG u1 fp1 u2 fp2) : TurnG u fp u2 fp2 where
  keep c o hc hf := k.keep c o (h.keep c o hc hf) (h.off hc hf)
  grow c hc := by
    rcases k.grow c hc with h1 | h1
    · exact h.grow c h1
    · cases e : fp c with
      | some x => exact .inl (by simp)
      | none =>
        cases e2 : u c with
        | none => exact .inr rfl
        | some o => rw [h.keep c o e2 e] at h1; cases h1

omit A in
/-- Blocks that were unknown at first come to be its own. -/
theorem TurnG.tag {u u' : H} {fp fp' fp2 : Nat → Option Tg} (h : TurnG u fp u' fp') (k : ∀ c, fp2 c = fp' c ∨ fp c ≠ none ∨ u c = none) : TurnG u fp u' fp2 where
  keep := h.keep
  grow c hc := by
    rcases k c with h1 | h1
    · rw [h1] at hc; exact h.grow c hc
    · exact h1

theorem InG.same (hk : KeepG A) {u0 u u' : H} {fp : Nat → Option Tg} {b : Nat} {T : Tr} (h : InG A u0 u fp b T) (hu : ∀ c o, u c = some o → fp c ≠ none → u' c = some o) (hle : u0.le u') : InG A u0 u' fp b T :=
  ⟨hk.keep h.tr (fun _ _ => rfl) hu, hle, h.out, fun c hc => by
    obtain ⟨o, ho⟩ := Option.ne_none_iff_exists'.1 (h.known c hc)
    rw [hu c o ho hc]; simp⟩

theorem InG.mono (hk : KeepG A) {u0 u u' : H} {fp : Nat → Option Tg} {b : Nat} {T : Tr} (h : InG A u0 u fp b T) (hu : u.le u') : InG A u0 u' fp b T := h.same hk (fun c o hc _ => hu c o hc) (h.le.trans hu)

theorem InG.fresh {u0 u : H} {fp : Nat → Option Tg} {b : Nat} {T : Tr} (h : InG A u0 u fp b T) {c : Nat} (hc : u c = none) : fp c = none := by
  cases e : fp c with
  | none => rfl
  | some t => exact absurd hc (h.known c (by rw [e]; simp))

/-- Blocks that are nobody's yet come to be its own. -/
theorem InG.tag (hk : KeepG A) {u0 u : H} {fp : Nat → Option Tg} {b : Nat} {T : Tr} (h : InG A u0 u fp b T) (S : Nat → Option Tg) (hs : ∀ c, S c ≠ none → fp c = none ∧ u0 c = none ∧ u c ≠ none) :
    ∃ fp', InG A u0 u fp' b T ∧ (∀ c t, S c = some t → fp' c = some t) ∧ (∀ c, S c = none → fp' c = fp c) := by
  let fp' : Nat → Option Tg := fun c => match S c with | some t => some t | none => fp c
  have e1 : ∀ c t, S c = some t → fp' c = some t := fun c t hc => by simp only [fp', hc]
  have e2 : ∀ c, S c = none → fp' c = fp c := fun c hc => by simp only [fp', hc]
  have e3 : ∀ c, fp c ≠ none → fp' c = fp c := fun c hc => by
    cases e : S c with
    | none => exact e2 c e
    | some t => exact absurd (hs c (by rw [e]; simp)).1 hc
  refine ⟨fp', ⟨hk.keep h.tr e3 fun _ _ ho _ => ho, h.le, fun c hc => ?_, fun c hc => ?_⟩, e1, e2⟩
  · cases e : S c with
    | none => rw [e2 c e] at hc; exact h.out c hc
    | some t => exact (hs c (by rw [e]; simp)).2.1
  · cases e : S c with
    | none => rw [e2 c e] at hc; exact h.known c hc
    | some t => exact (hs c (by rw [e]; simp)).2.2

/-- A slice's block as blocks of a kind. -/
def Sl.tags (s : Sl) (t : Tg) : Nat → Option Tg := fun c => if s.blk = some c then some t else none

omit A in
theorem Sl.tags_at {s : Sl} {t : Tg} {c : Nat} (h : s.blk = some c) : s.tags t c = some t := if_pos h
omit A in
theorem Sl.tags_not {s : Sl} {t : Tg} {c : Nat} (h : s.blk ≠ some c) : s.tags t c = none := if_neg h
omit A in
theorem Sl.tags_ne {s : Sl} {t : Tg} {c : Nat} (h : s.tags t c ≠ none) : s.blk = some c := by
  by_cases e : s.blk = some c
  · exact e
  · exact absurd (Sl.tags_not e) h

/-- An index in memory: D: the blocks that are its own, all made behind u0. -/
structure IxG (A : (Nat → Option Tg) → H → Nat → Tr → Prop) (Ok : Tr → Prop) (u0 u : H) (D : Nat → Prop) (b : Nat) (X : Tr) : Prop where
  ex : ∃ fp, (∀ c, D c ↔ fp c ≠ none) ∧ InG A u0 u fp b X ∧ Ok X

end

structure IxTurn (u : H) (D : Nat → Prop) (u' : H) (D' : Nat → Prop) : Prop where
  keep : ∀ c o, u c = some o → ¬ D c → u' c = some o
  grow : ∀ c, D' c → D c ∨ u c = none

theorem IxTurn.mono {u u' : H} {D : Nat → Prop} (h : u.le u') : IxTurn u D u' D := ⟨fun c o hc _ => h c o hc, fun _ h => .inl h⟩

theorem IxTurn.trans {u u1 u2 : H} {D D1 D2 : Nat → Prop} (h : IxTurn u D u1 D1) (k : IxTurn u1 D1 u2 D2) : IxTurn u D u2 D2 where
  keep c o hc hf := k.keep c o (h.keep c o hc hf) fun hd => by
    rcases h.grow c hd with h1 | h1
    · exact hf h1
    · rw [hc] at h1; cases h1
  grow c hc := by
    rcases k.grow c hc with h1 | h1
    · exact h.grow c h1
    · by_cases e : D c
      · exact .inl e
      · right
        cases e2 : u c with
        | none => rfl
        | some o => rw [h.keep c o e2 e] at h1; cases h1

/-- What is apart from an index stays. -/
theorem IxTurn.apart {u u' v : H} {D D' : Nat → Prop} (h : IxTurn u D u' D') (hv : v.le u) (hd : ∀ c, D c → v c = none) : v.le u' ∧ ∀ c, D' c → v c = none := by
  refine ⟨fun c o hc => h.keep c o (hv c o hc) fun e => ?_, fun c hc => ?_⟩
  · have := hd c e; rw [hc] at this; cases this
  · rcases h.grow c hc with h1 | h1
    · exact hd c h1
    · exact hv.none h1

section
variable {Tg Tr : Type} {A : (Nat → Option Tg) → H → Nat → Tr → Prop} {Ok : Tr → Prop}

theorem ixg_of {u0 u : H} {fp : Nat → Option Tg} {b : Nat} {T : Tr} (h : InG A u0 u fp b T) (hT : Ok T) : IxG A Ok u0 u (fun c => fp c ≠ none) b T := ⟨fp, fun _ => Iff.rfl, h, hT⟩

omit A Ok in
theorem turn_ixg {u u' : H} {fp fp' : Nat → Option Tg} {D : Nat → Prop} (hD : ∀ c, D c ↔ fp c ≠ none) (h : TurnG u fp u' fp') : IxTurn u D u' (fun c => fp' c ≠ none) where
  keep c o hc hf := h.keep c o hc (by
    cases e : fp c with
    | none => rfl
    | some t => exact absurd ((hD c).2 (by rw [e]; simp)) hf)
  grow c hc := (h.grow c hc).imp (hD c).2 fun h => h

theorem IxG.base {u0 u : H} {D : Nat → Prop} {b : Nat} {X : Tr} (h : IxG A Ok u0 u D b X) : u0.le u ∧ (∀ c, D c → u0 c = none) ∧ ∀ c, D c → u c ≠ none := by
  obtain ⟨fp, h1, h2, _⟩ := h.ex
  exact ⟨h2.le, fun c hc => h2.out c ((h1 c).1 hc), fun c hc => h2.known c ((h1 c).1 hc)⟩

/-- An index is as it was where its own blocks are. -/
theorem IxG.same (hk : KeepG A) {u0 u u' : H} {D : Nat → Prop} {b : Nat} {X : Tr} (h : IxG A Ok u0 u D b X) (hu : ∀ c o, u c = some o → D c → u' c = some o) (hle : u0.le u') : IxG A Ok u0 u' D b X := by
  obtain ⟨fp, h1, h2, h3⟩ := h.ex
  exact ⟨fp, h1, h2.same hk (fun c o hc hf => hu c o hc ((h1 c).2 hf)) hle, h3⟩

theorem IxG.mono (hk : KeepG A) {u0 u u' : H} {D : Nat → Prop} {b : Nat} {X : Tr} (h : IxG A Ok u0 u D b X) (hu : u.le u') : IxG A Ok u0 u' D b X := h.same hk (fun c o hc _ => hu c o hc) (h.base.1.trans hu)

theorem IxG.rebase {u0 u v : H} {D : Nat → Prop} {b : Nat} {X : Tr} (h : IxG A Ok u0 u D b X) (hv : v.le u0) : IxG A Ok v u D b X := by
  obtain ⟨fp, h1, h2, h3⟩ := h.ex
  exact ⟨fp, h1, ⟨h2.tr, hv.trans h2.le, fun c hc => by
    cases hx : v c with
    | none => rfl
    | some o => have := hv _ _ hx; rw [h2.out c hc] at this; exact (nomatch this), h2.known⟩, h3⟩

end

end Go.Proofs.YtncninpdlpemgaaGreat

/- VcPn0 -/
namespace Go.Proofs.YtncninpdlpemgaaGreat

/-- A part but for its kids: its block, its region, its rows; with the slices that hold them. -/
structure PH where
  b : Nat
  sh : Int
  sl : Sl
  sg : Sl
  lo : List Int
  hi : List Int
  rad : Int
  sr : Sl
  rows : List Rw
  sk : Sl

/-- The blocks that are a part's own. -/
def PH.blks (h : PH) : List Nat := h.b :: (h.sl.blk.toList ++ h.sg.blk.toList ++ h.sr.blk.toList ++ h.sk.blk.toList)

inductive PN where
  | mk (h : PH) (kids : List PN)

namespace PN
def h : PN → PH | .mk h _ => h
def kids : PN → List PN | .mk _ k => k
def b (n : PN) : Nat := n.h.b

mutual
def pt : PN → Pt
  | .mk h kids => .mk h.sh h.lo h.hi h.rad (h.rows.map Rw.pr) (ptL kids)
def ptL : List PN → List Pt
  | [] => []
  | n :: ns => n.pt :: ptL ns
end

mutual
def heads : PN → List (PH × List Nat)
  | .mk h kids => (h, kids.map PN.b) :: headsL kids
def headsL : List PN → List (PH × List Nat)
  | [] => []
  | n :: ns => n.heads ++ headsL ns
end

theorem ptL_eq : ∀ ns : List PN, ptL ns = ns.map pt
  | [] => rfl
  | n :: ns => by rw [ptL, ptL_eq ns, List.map_cons]
theorem headsL_eq : ∀ ns : List PN, headsL ns = ns.flatMap heads
  | [] => rfl
  | n :: ns => by rw [headsL, headsL_eq ns, List.flatMap_cons]
theorem heads_eq (n : PN) : n.heads = (n.h, n.kids.map b) :: n.kids.flatMap heads := by
  cases n
  rw [heads, headsL_eq]
  rfl
theorem pt_eq (n : PN) : n.pt = .mk n.h.sh n.h.lo n.h.hi n.h.rad (n.h.rows.map Rw.pr) (n.kids.map pt) := by
  cases n
  rw [pt, ptL_eq]
  rfl
theorem heads_pos (n : PN) : 0 < n.heads.length := by rw [heads_eq]; simp

/-- By the kids. -/
theorem ind {P : PN → Prop} (h : ∀ n, (∀ k ∈ n.kids, P k) → P n) : ∀ n, P n := by
  intro n
  exact PN.rec (motive_1 := P) (motive_2 := fun ns => ∀ k ∈ ns, P k) (fun _ _ ih => h _ ih) (fun k hk => (by cases hk)) (fun n ns h1 h2 k hk => by
    rcases List.mem_cons.1 hk with rfl | hk
    · exact h1
    · exact h2 k hk) n

theorem pt_all (n : PN) : n.pt.all = n.heads.flatMap fun x => x.1.rows.map Rw.pr := by
  induction n using ind with
  | h n ih =>
    rw [pt_eq, heads_eq, List.flatMap_cons, Pt.all]
    congr 1
    rw [allL_flat, List.flatMap_map, List.flatMap_assoc]
    rw [List.flatMap_def, List.flatMap_def]
    exact congrArg List.flatten (List.map_congr_left fun k hk => ih k hk)

theorem pt_size (n : PN) : n.pt.size = n.heads.length := by
  induction n using ind with
  | h n ih =>
    rw [pt_eq, heads_eq, List.length_cons, Pt.size, Nat.add_comm]
    congr 1
    obtain ⟨ks, hks⟩ : ∃ ks, ks = n.kids := ⟨_, rfl⟩
    rw [← hks] at ih ⊢
    clear hks
    induction ks with
    | nil => rfl
    | cons k ks ihk =>
      rw [List.map_cons, Pt.sizeL, List.flatMap_cons, List.length_append, ih k (List.mem_cons_self ..), ihk fun j hj => ih j (List.mem_cons_of_mem _ hj)]

/-- Its own blocks. -/
def own (n : PN) : List Nat := n.heads.flatMap fun x => x.1.blks
theorem own_eq (n : PN) : n.own = n.h.blks ++ n.kids.flatMap own := by
  unfold own
  rw [heads_eq, List.flatMap_cons, List.flatMap_assoc]
end PN

def partC (h : PH) : List Value := [.int .i64 h.sh, .slice h.sl.a h.sl.n h.sl.c, .slice h.sg.a h.sg.n h.sg.c, .int .u64 (hiW h.rad), .int .u64 (loW h.rad), .slice none 0 0, .slice h.sr.a h.sr.n h.sr.c, .slice h.sk.a h.sk.n h.sk.c]

/-- One part in memory. -/
structure PhAt (u : H) (x : PH × List Nat) : Prop where
  cell : u x.1.b = some (.cells (partC x.1).toArray 94 (0, 0))
  lo : Own u 3 1 x.1.sl (x.1.lo.flatMap encI)
  hi : Own u 3 1 x.1.sg (x.1.hi.flatMap encI)
  rws : Own u 43 2 x.1.sr (x.1.rows.flatMap encR)
  vec : ∀ r ∈ x.1.rows, Ints u r.s r.v
  kid : Seg u x.1.sk 1 (x.2.map fun n => .pointer (some ⟨n, 0, none⟩))

theorem PhAt.keep {u u' : H} {x : PH × List Nat} (h : PhAt u x) (hu : ∀ c o, c ∈ x.1.blks → u c = some o → u' c = some o) (hv : ∀ r ∈ x.1.rows, Ints u' r.s r.v) : PhAt u' x where
  cell := hu _ _ (List.mem_cons_self ..) h.cell
  lo := h.lo.le fun c o hc ho => hu c o (by simp [PH.blks, hc]) ho
  hi := h.hi.le fun c o hc ho => hu c o (by simp [PH.blks, hc]) ho
  rws := h.rws.le fun c o hc ho => hu c o (by simp [PH.blks, hc]) ho
  vec := hv
  kid := Seg.else h.kid fun c o hc ho => hu c o (by simp [PH.blks, hc]) ho

/-- A tree of parts in memory. -/
structure PnAt (u : H) (n : PN) : Prop where
  one : ∀ x ∈ n.heads, PhAt u x
  nodup : n.own.Nodup

theorem PnAt.keep {u u' : H} {n : PN} (h : PnAt u n) (hu : ∀ c o, c ∈ n.own → u c = some o → u' c = some o) (hv : ∀ x ∈ n.heads, ∀ r ∈ x.1.rows, Ints u' r.s r.v) : PnAt u' n :=
  ⟨fun x hx => (h.one x hx).keep (fun c o hc ho => hu c o (List.mem_flatMap.2 ⟨x, hx, hc⟩) ho) (hv x hx), h.nodup⟩

theorem PnAt.mono {u u' : H} {n : PN} (h : PnAt u n) (hu : u.le u') : PnAt u' n := h.keep (fun c o _ ho => hu c o ho) fun x hx r hr => ((h.one x hx).vec r hr).mono hu

theorem PnAt.part {u : H} {n : PN} (h : ∀ x ∈ n.heads, PhAt u x) : PartAt u n.b n.pt := by
  induction n using PN.ind with
  | h n ih =>
    have h0 := h (n.h, n.kids.map PN.b) (by rw [PN.heads_eq]; exact List.mem_cons_self ..)
    rw [PN.pt_eq]
    refine .mk n.h.sl n.h.sg ⟨none, 0, 0⟩ n.h.sr n.h.sk n.h.rows (n.kids.map PN.b) h0.cell rfl h0.lo.f.ints h0.hi.f.ints ⟨h0.rws.seg, h0.vec⟩ rfl h0.kid (by simp [Pt.kids]) fun i m k hm hk => ?_
    have hk' : (n.kids.map PN.pt)[i]? = some k := hk
    rw [List.getElem?_map] at hm hk'
    cases e : n.kids[i]? with
    | none => rw [e] at hm; cases hm
    | some z =>
      rw [e] at hm hk'
      obtain rfl := Option.some.inj hm
      obtain rfl := Option.some.inj hk'
      have hz := List.mem_of_getElem? e
      exact ih z hz fun x hx => h x (by rw [PN.heads_eq]; exact List.mem_cons_of_mem _ (List.mem_flatMap.2 ⟨z, hz, hx⟩))

/-! ### a place in a tree -/
structure Hol where
  h : PH
  pre : List PN
  post : List PN

def Hol.fill (f : Hol) (n : PN) : PN := .mk f.h (f.pre ++ n :: f.post)
def plug : List Hol → PN → PN
  | [], n => n
  | f :: fs, n => plug fs (f.fill n)

def Hol.heads (f : Hol) (b : Nat) : List (PH × List Nat) := (f.h, f.pre.map PN.b ++ b :: f.post.map PN.b) :: (f.pre ++ f.post).flatMap PN.heads
def ctxH : List Hol → Nat → List (PH × List Nat)
  | [], _ => []
  | f :: fs, b => f.heads b ++ ctxH fs f.h.b

theorem fill_heads (f : Hol) (n : PN) : (f.fill n).heads.Perm (n.heads ++ f.heads n.b) := by
  unfold Hol.fill Hol.heads
  rw [PN.heads_eq]
  show ((f.h, (f.pre ++ n :: f.post).map PN.b) :: (f.pre ++ n :: f.post).flatMap PN.heads).Perm _
  rw [List.map_append, List.map_cons, List.flatMap_append, List.flatMap_append, List.flatMap_cons]
  refine List.Perm.trans (List.Perm.cons _ ?_) List.perm_middle.symm
  refine List.perm_append_comm_assoc _ _ _ |>.trans ?_
  exact .refl _

theorem plug_heads : ∀ (fs : List Hol) (n : PN), (plug fs n).heads.Perm (n.heads ++ ctxH fs n.b)
  | [], n => by rw [ctxH, List.append_nil]; exact .refl _
  | f :: fs, n => by
    show (plug fs (f.fill n)).heads.Perm _
    refine (plug_heads fs (f.fill n)).trans ?_
    rw [ctxH, ← List.append_assoc]
    exact (fill_heads f n).append_right _

theorem plug_b : ∀ (fs : List Hol) {n n' : PN}, n.b = n'.b → (plug fs n).b = (plug fs n').b
  | [], _, _, h => h
  | f :: fs, n, n', _ => plug_b fs (n := f.fill n) (n' := f.fill n') rfl

end Go.Proofs.YtncninpdlpemgaaGreat

/- VcReg -/
namespace Go.Proofs.YtncninpdlpemgaaGreat

theorem spec.flat_region {sh hw lw : Int} {ls hs is rs : Sl} {lo hi : List Int} {rows : List Rw} {u : H} {K : Int → Sl → Sl → Int → Int → Sl → H → Prop} (h1 : Ints u ls lo) (h2 : Ints u hs hi) (hr : Rws u rs rows) (b1 : lo.length ≤ 64) (b2 : hi.length ≤ 64) (b3 : rows.length ≤ 1000000)
    (hK : ∀ a b c u', OwnF u u' 3 1 a (lo.flatMap encI) → OwnF u u' 3 1 b (hi.flatMap encI) → OwnF u u' 3 1 c ((sortI (rows.map (·.id))).flatMap encI) → Far a b → Far a c → Far b c → K sh a b hw lw c u') : C.flat_region sh ls hs hw lw is rs u K := by
  have n1 := h1.len
  have n2 := h2.len
  have n3 := hr.len
  apply vc.flat_region
  refine spec.slices_Clone___int_int_ h1 (by omega) fun s0 u1 o1 _ => ⟨o1.le, spec.slices_Clone___int_int_ (h2.mono o1.le) (by omega) fun s2 u3 o2 _ => ?_⟩
  have hr3 := hr.mono (o1.le.trans o2.le)
  refine ⟨fun i x7 s8 s9 x10 x11 s12 w => 0 ≤ i ∧ i ≤ rs.n ∧ x7 = sh ∧ s8 = s0 ∧ s9 = s2 ∧ x10 = hw ∧ x11 = lw ∧ OwnF u3 w 3 1 s12 (((rows.take i.toNat).map (·.id)).flatMap encI), fun i _ _ _ _ _ _ _ => ((rs.n : Int) - i).toNat,
    ⟨by omega, by omega, rfl, rfl, rfl, rfl, rfl, by simpa using OwnF.nil (H.le.refl u3) 3 1⟩, ?_⟩
  rintro i x7 s8 s9 x10 x11 s12 w ⟨i0, i1, e1, e2, e3, e4, e5, ho⟩
  have hn12 := ho.ints.len
  rw [List.length_map, List.length_take] at hn12
  refine ⟨fun hi => ?_, fun hi => ?_⟩
  · obtain ⟨p, hp, r, hrr, c0, c1, _⟩ := (hr3.mono ho.le).at i0 hi
    refine ⟨p, hp, ⟨i0, hi⟩, _, c0, _, c1, sem_push' tInts (build_int _) (by decide) rfl (by simp [Value.oneCell']) ho (by omega) (by omega) fun s' u' ho2 hn2 hel hbl _ => ⟨⟨by omega, by omega⟩, ⟨by omega, by omega, e1, e2, e3, e4, e5, ?_⟩, by dsimp only; omega⟩⟩
    have e : rows.take (i + 1).toNat = rows.take i.toNat ++ [r] := by
      rw [show (i + 1).toNat = i.toNat + 1 by omega, List.take_add_one, hrr]
      rfl
    rw [e, List.map_append, List.flatMap_append]
    exact ho2
  · have hall : rows.take i.toNat = rows := List.take_of_length_le (by omega)
    rw [hall] at ho
    subst e1 e2 e3 e4 e5
    refine spec.slices_Sort___int_int_ ho (by simp; omega) fun u5 ho5 he5 => ?_
    have hf : ∀ g, s12.blk = some g → u3 g = none := ho.fresh
    have f13 : Far s8 s12 := OwnF.far (o1.mono o2.le) (H.le.refl u3) ho
    have f23 : Far s9 s12 := OwnF.far o2 (H.le.refl u3) ho
    have f12 : Far s8 s9 := OwnF.far o1 (H.le.refl u1) o2
    have l5 : u3.le u5 := ho5.le
    exact hK _ _ _ u5 ((o1.mono o2.le).mono l5) ((o2.weaken o1.le).mono l5) (ho5.weaken (o1.le.trans o2.le)) f12 f13 f23

end Go.Proofs.YtncninpdlpemgaaGreat

/- VcAll -/
namespace Go.Proofs.YtncninpdlpemgaaGreat

theorem build_rows00 : buildOf Tryz.prog 22 0 #[] = some (43, []) := by kernel_rfl

theorem flatR_one {l : List Rw} : ∀ y ∈ l.flatMap encR, y.oneCell' = true := by
  intro y hy
  obtain ⟨h, _, hy⟩ := List.mem_flatMap.1 hy
  exact encR_one h y hy

theorem spec.slices_Clone__api_Row_ {s : Sl} {l : List Rw} {u : H} {K : Sl → H → Prop} (hs : Seg u s 2 (l.flatMap encR)) (hb : s.n ≤ 1099511627776) (hK : ∀ s' u', OwnF u u' 43 2 s' (l.flatMap encR) → s'.n = s.n → K s' u') : C.slices_Clone__api_Row_ s u K := by
  apply vc.slices_Clone__api_Row_
  refine ⟨fun hn => ?_, fun _ => sem_clone tRows build_rows00 (by decide) hs flatR_one (by omega) hK⟩
  have hl := seg_nil hs hn
  have hl2 : s.n = 0 := by have := Seg.len hs; rw [hl] at this; simp at this; omega
  refine hK _ _ ?_ hl2.symm
  rw [hl]
  exact OwnF.nil (H.le.refl u) _ _

theorem allL_take_succ {ps : List Pt} {i : Nat} {k : Pt} (h : ps[i]? = some k) : Pt.allL (ps.take (i + 1)) = Pt.allL (ps.take i) ++ k.all := by
  rw [List.take_add_one, h, allL_flat, allL_flat]
  simp

theorem allL_take_le (ps : List Pt) (i : Nat) : (Pt.allL (ps.take i)).length ≤ (Pt.allL ps).length := by
  conv => rhs; rw [← List.take_append_drop i ps]
  rw [allL_flat, allL_flat, List.flatMap_append, List.length_append]
  omega

theorem spec.flat_Part__All {v : H} {n : Nat} {p : Pt} (hp : PartAt v n p) : ∀ {u : H} {K : Sl → H → Prop}, v.le u → p.all.length ≤ 1000000 →
    (∀ (s : Sl) (L : List Rw) (u' : H), OwnF u u' 43 2 s (L.flatMap encR) → L.map Rw.pr = p.all → (∀ r ∈ L, Ints v r.s r.v) → K s u') → C.flat_Part__All (some ⟨n, 0, none⟩) u K := by
  induction hp with
  | @mk n p ls hs is rs ks rows ps cell isn lo hi at' pr kids len each ih =>
  intro u K hv hb hK
  have hc := hv _ _ cell
  have hrl : p.rows.length = rows.length := by rw [← pr, List.length_map]
  rw [Pt.all_eq] at hb hK
  rw [List.length_append] at hb
  have hrn := at'.len
  apply vc.flat_Part__All
  refine ⟨_, rfl, rs, H.cell?_of hc 6, spec.slices_Clone__api_Row_ (Seg.mono at'.1 hv) (by omega) fun s2 u3 o2 _ => ⟨_, rfl, ks, H.cell?_of (o2.le _ _ hc) 7, ?_⟩⟩
  have hkm := Nat.le_trans (Seg.cap kids) (Seg.max kids)
  have hkn : ks.n = ps.length := by have := kids.len; simpa using this.symm
  refine ⟨fun s8 x w => 0 ≤ x ∧ x ≤ ks.n ∧ ∃ L : List Rw, OwnF u w 43 2 s8 (L.flatMap encR) ∧ L.map Rw.pr = p.rows ++ Pt.allL (p.kids.take x.toNat) ∧ ∀ r ∈ L, Ints v r.s r.v, fun _ x _ => ((ks.n : Int) - x).toNat,
    ⟨by omega, by omega, rows, o2, by simpa [Pt.allL] using pr, fun r hr => at'.2 r hr⟩, ?_⟩
  rintro s8 x w ⟨x0, x1, L, ho, hL, hI⟩
  refine ⟨fun hx => ?_, fun hx => ?_⟩
  · have hxl : x.toNat < ps.length := by omega
    obtain ⟨k, hk⟩ : ∃ k, p.kids[x.toNat]? = some k := ⟨_, List.getElem?_eq_getElem (by omega)⟩
    have hm : ps[x.toNat]? = some ps[x.toNat] := List.getElem?_eq_getElem hxl
    obtain ⟨a, ha, hcell⟩ := Seg.elem (enc := fun n : Nat => [Value.pointer (some ⟨n, 0, none⟩)]) (k := 1) (fun _ => rfl) (by decide) (xs := ps) (by
      have e : ps.flatMap (fun n : Nat => [Value.pointer (some ⟨n, 0, none⟩)]) = ps.map fun n => Value.pointer (some ⟨n, 0, none⟩) := by
        generalize ps = z
        induction z with
        | nil => rfl
        | cons y z ih => rw [List.flatMap_cons, List.map_cons, ih]; rfl
      rw [e]
      exact kids.mono (hv.trans ho.le)) hm
    have hall := allL_take_succ hk
    have hle := allL_take_le p.kids (x.toNat + 1)
    rw [hall, List.length_append] at hle
    have hLl := congrArg List.length hL
    rw [List.length_map, List.length_append] at hLl
    have hn8 : s8.n = L.length := flat_n encR_len (by decide) ho.own.seg
    refine ⟨a, ha, ⟨x0, hx⟩, _, hcell 0 _ rfl, ih _ _ _ hm hk (hv.trans ho.le) (by omega) fun s13 L2 u14 ho2 hL2 hI2 => ?_⟩
    have hl2 := congrArg List.length hL2
    rw [List.length_map] at hl2
    have hn13 := flat_n encR_len (by decide) ho2.own.seg
    refine sem_appendF tRows (by decide) (ho.mono ho2.le) ho2.own.seg flatR_one (by omega) (by omega) fun s15 u16 ho3 _ => ⟨⟨by omega, by omega⟩, ⟨by omega, by omega, L ++ L2, by rw [List.flatMap_append]; exact ho3, ?_, fun r hr => ?_⟩, by dsimp only; omega⟩
    · rw [List.map_append, hL, hL2, show (x + 1).toNat = x.toNat + 1 by omega, hall, List.append_assoc]
    · rcases List.mem_append.1 hr with h | h
      · exact hI r h
      · exact hI2 r h
  · rw [List.take_of_length_le (by omega)] at hL
    exact hK _ L w ho hL hI

end Go.Proofs.YtncninpdlpemgaaGreat

/- VcRowF -/
namespace Go.Proofs.YtncninpdlpemgaaGreat

/-- What a predicate's function value is asked of rows: it looks at no more than what was known at first. -/
def RowPred (ub : H) (fv : Value) (p : Rw → Bool) : Prop := ∀ (r : Rw) (v : H) (K : Bool → H → Prop), ub.le v → K (p r) v → ClY Tryz.prog fv #[.agg #[.int .i64 r.id, .slice r.s.a r.s.n r.s.c]] [.one .bool] v K

theorem spec.slices_IndexFunc__api_Row_ {ub u : H} {s : Sl} {l : List Rw} {fv : Value} {p : Rw → Bool} {K : Int → H → Prop} (hs : Seg u s 2 (l.flatMap encR)) (hp : RowPred ub fv p) (hub : ub.le u)
    (hK : ∀ (i : Nat) r, l[i]? = some r → (∀ (k : Nat) r', k < i → l[k]? = some r' → p r' = false) → p r = true → K i u) (hN : (∀ r ∈ l, p r = false) → K (-1) u) : C.slices_IndexFunc__api_Row_ s fv u K := by
  have hn : s.n = l.length := flat_n encR_len (by decide) hs
  have hm : s.n ≤ 9223372036854775807 := Nat.le_trans (Seg.cap hs) (Seg.max hs)
  apply vc.slices_IndexFunc__api_Row_
  refine ⟨fun _ i v => v = u ∧ 0 ≤ i ∧ i ≤ l.length ∧ ∀ (k : Nat) r', k < i.toNat → l[k]? = some r' → p r' = false, fun _ i _ => l.length - i.toNat, ⟨rfl, by omega, by omega, fun k r' hk => by simp at hk⟩, ?_⟩
  rintro _ i v ⟨rfl, i0, i1, hk⟩
  refine ⟨fun hil => ?_, fun hge => hN fun r hr => ?_⟩
  · have hl : i.toNat < l.length := by omega
    have hx : l[i.toNat]? = some l[i.toNat] := List.getElem?_eq_getElem hl
    obtain ⟨q, hq, hc⟩ := Seg.elem encR_len (by decide) hs hx
    have c0 := hc 0 _ rfl
    rw [Addr.add_zero'] at c0
    refine ⟨q, hq, ⟨i0, hil⟩, _, c0, _, hc 1 _ rfl, hp _ _ _ hub ⟨fun hb => ?_, fun hb => ⟨⟨by omega, by omega⟩, ⟨rfl, by omega, by omega, fun k r' hk' hr' => ?_⟩, by dsimp only; omega⟩⟩⟩
    · have := hK i.toNat _ hx hk hb
      rw [show ((i.toNat : Nat) : Int) = i by omega] at this
      exact this
    · by_cases e : k = i.toNat
      · subst e
        rw [hx] at hr'; cases hr'
        exact hb
      · exact hk k r' (by omega) hr'
  · obtain ⟨k, hk', rfl⟩ := List.getElem_of_mem hr
    exact hk k _ (by omega) (List.getElem?_eq_getElem hk')

end Go.Proofs.YtncninpdlpemgaaGreat

/- VcDelR -/
namespace Go.Proofs.YtncninpdlpemgaaGreat

def noRow : Rw := ⟨0, ⟨none, 0, 0⟩, []⟩

theorem wrote_step {u : H} {w w' : World} {b : Nat} {o o' : Obj} (hw : Sub u w) (hb : u b = some o) (k : Wrote b o' w w') : Step u [] w (u.ins b o') [] w' := by
  refine ⟨fun x y h => ?_, k.os, k.tape, k.output, k.drawn, Nat.le_of_eq k.size.symm, fun x _ hx _ => k.rest x (fun e => by rw [e, hb] at hx; cases hx), fun x _ hx => ?_, [], by simp, by simp⟩
  · unfold H.ins at h
    split at h
    · rename_i e; rw [e]; cases h; exact k.at_
    · rename_i e; rw [k.rest x e]; exact hw _ _ h
  · rw [H.ins_other _ _ (fun e => by rw [e, hb] at hx; cases hx)]; exact hx

theorem sem_clearR {u : H} {g i n c : Nat} {cur : Array Value} {T : TypeId} (hg : u g = some (.cells cur T (0, 0))) (hn : i + n * 2 ≤ cur.size) {ty : TypeId} {K : H → Prop} (hK : K (u.ins g (.cells (wr cur i ((List.replicate n noRow).flatMap encR)) T (0, 0)))) :
    SemT Tryz.prog (Builtin.clear_ #[22] ty #[.slice (some ⟨g, i, none⟩) n c]) [] u K := by
  intro w hw
  obtain ⟨ht, _⟩ := elemT_spec tRows
  have hlen : ((List.replicate n noRow).flatMap encR).length = n * 2 := by rw [flat_len encR_len, List.length_replicate]
  rcases Nat.eq_zero_or_pos n with rfl | hpos
  · refine ⟨.tuple #[], w, u, by simp [Builtin.clear_, run_underlying ht], ⟨[], .nil, rfl, ?_⟩, Step.refl hw⟩
    have e : u.ins g (.cells (wr cur i ((List.replicate 0 noRow).flatMap encR)) T (0, 0)) = u := H.ins_self (by rw [hg]; rfl)
    rw [e] at hK
    exact hK
  · obtain ⟨w', hr, hwr⟩ := storeCells_run (P := Tryz.prog) (b := g) (off := i) (T := T) ((List.replicate n noRow).flatMap encR) 0 cur w (hw _ _ hg) (by rw [hlen]; omega) (fun v hv => by
      obtain ⟨r, hr, hv⟩ := List.mem_flatMap.1 hv
      rw [List.eq_of_mem_replicate hr] at hv
      simp [noRow, encR] at hv
      rcases hv with rfl | rfl <;> rfl)
    have hv : ∀ w, (zeroValue 43).run Tryz.prog w = .ok (.agg #[.int .i64 0, .slice none 0 0]) w := fun _ => by kernel_rfl
    have hzc : (Builtin.zeroCells (Value.agg #[.int .i64 0, .slice none 0 0]).cells n).toList = (List.replicate n noRow).flatMap encR := by
      have := made_flat (enc := encR) encR_len (by decide) noRow n
      rw [← this]
      rfl
    obtain ⟨m, rfl⟩ : ∃ m, n = m + 1 := ⟨n - 1, by omega⟩
    refine ⟨.tuple #[], w', _, by simp [Builtin.clear_, run_underlying ht, hv, hzc, hr], ⟨[], .nil, rfl, hK⟩, wrote_step hw hg hwr⟩

theorem OwnF.clearR {u0 u : H} {s : Sl} {l : List Rw} (h : OwnF u0 u 43 2 s (l.flatMap encR)) {i : Nat} (hi : i ≤ s.n) {ty : TypeId} {K : H → Prop}
    (hK : ∀ (u' : H) (l' : List Rw), OwnF u0 u' 43 2 s (l'.flatMap encR) → l'.take i = l.take i → l'.length = l.length → Else u u' s → K u') : SemT Tryz.prog (Builtin.clear_ #[22] ty #[.slice (s.part i s.n s.c 2).a (s.part i s.n s.c 2).n (s.part i s.n s.c 2).c]) [] u K := by
  have hsn : s.n = l.length := flat_n encR_len (by decide) h.own.seg
  obtain ⟨ht0, _⟩ := elemT_spec tRows
  rcases h.own.is with h0 | ⟨g, cur, ha, hg, hn, hc, hs, ht⟩
  · subst h0
    have hl : l = [] := List.eq_nil_of_length_eq_zero hsn.symm
    subst hl
    have hi0 : i = 0 := by simpa using hi
    subst hi0
    refine SemT.pure [] (fun w hw => ?_) .nil (hK u [] h rfl rfl (Else.refl _ _))
    simp [Sl.part, Builtin.clear_, run_underlying ht0]
    rfl
  · rcases Nat.eq_or_lt_of_le hi with rfl | hlt
    · have e : (s.part s.n s.n s.c 2).n = 0 := by simp [Sl.part]
      refine SemT.pure [] (fun w hw => ?_) .nil (hK u l h rfl rfl (Else.refl _ _))
      rw [e]
      cases (s.part s.n s.n s.c 2).a <;> simp [Builtin.clear_, run_underlying ht0] <;> rfl
    · have hpa : (s.part i s.n s.c 2).a = some ⟨g, i * 2, none⟩ := by
        unfold Sl.part
        simp only
        rw [if_neg (by omega), ha]
        simp [Addr.add_lit]
      rw [hpa]
      have hpn : (s.part i s.n s.c 2).n = s.n - i := rfl
      rw [hpn]
      have hsz : i * 2 + (s.n - i) * 2 ≤ cur.size := by rw [hs]; omega
      refine sem_clearR hg hsz ?_
      have hrl : ((List.replicate (s.n - i) noRow).flatMap encR).length = (s.n - i) * 2 := by rw [flat_len encR_len, List.length_replicate]
      have hwl := wr_toList cur (i * 2) ((List.replicate (s.n - i) noRow).flatMap encR) (by rw [hrl]; omega)
      rw [hrl] at hwl
      have hll : (l.take i ++ List.replicate (s.n - i) noRow).length = l.length := by simp; omega
      refine hK _ (l.take i ++ List.replicate (s.n - i) noRow) ⟨⟨by rw [flat_len encR_len, hll, hsn], .inr ⟨g, _, ha, H.ins_same _ _ _, hn, hc, ?_, ?_⟩⟩, fun b o hb => ?_, h.fresh⟩ ?_ hll ?_
      · rw [← Array.length_toList, hwl]; simp [hrl]; omega
      · rw [hwl, List.flatMap_append]
        have ht' : cur.toList.take (s.n * 2) = l.flatMap encR := ht
        have h1 : cur.toList.take (i * 2) = (l.take i).flatMap encR := by
          rw [← flat_take encR_len, ← ht', List.take_take, Nat.min_eq_left (by omega)]
        have hl1 : ((l.take i).flatMap encR).length = i * 2 := by rw [flat_len encR_len]; simp; omega
        rw [h1, List.take_append_of_le_length (by rw [List.length_append, hl1, hrl]; omega), List.take_of_length_le (by rw [List.length_append, hl1, hrl]; omega)]
      · have : b ≠ g := fun e => by
          have := h.fresh g (by simp [Sl.blk, ha])
          rw [e, this] at hb; cases hb
        rw [H.ins_other _ _ this]; exact h.le b o hb
      · rw [List.take_append_of_le_length (by simp; omega), List.take_take, Nat.min_self]
      · intro b o hb hne
        rw [H.ins_other _ _ (fun e => hne (by simp [Sl.blk, ha, e]))]; exact hb

theorem spec.slices_DeleteFunc__api_Row_ {u0 ub u : H} {s : Sl} {l : List Rw} {fv : Value} {p : Rw → Bool} {K : Sl → H → Prop} (ho : OwnF u0 u 43 2 s (l.flatMap encR)) (hp : RowPred ub fv p) (hub : ub.le u) (hbs : ∀ b, s.blk = some b → ub b = none)
    (hK : ∀ s' u', OwnF u0 u' 43 2 s' ((l.filter fun x => !p x).flatMap encR) → s'.blk = s.blk → Else u u' s → K s' u') : C.slices_DeleteFunc__api_Row_ s fv u K := by
  have hsn : s.n = l.length := flat_n encR_len (by decide) ho.own.seg
  have hmx : s.n ≤ 9223372036854775807 := Nat.le_trans (Seg.cap ho.own.seg) (Seg.max ho.own.seg)
  apply vc.slices_DeleteFunc__api_Row_
  refine spec.slices_IndexFunc__api_Row_ ho.own.seg hp hub (fun i r hir hno hyes => ⟨fun h => by omega, fun _ => ?_⟩) fun hno => ⟨fun _ => ?_, fun h => absurd rfl h⟩
  · have hi : i < l.length := (List.getElem?_eq_some_iff.1 hir).1
    have hbefore : (l.take i).filter (fun x => !p x) = l.take i := by
      rw [List.filter_eq_self]
      intro a ha
      obtain ⟨k, hk, rfl⟩ := List.mem_iff_getElem.1 ha
      simp only [List.length_take] at hk
      rw [List.getElem_take, hno k _ (by omega) (List.getElem?_eq_getElem (by omega))]
      rfl
    refine ⟨⟨by omega, by omega⟩, ?_⟩
    refine ⟨fun a j v => 0 ≤ a ∧ a < j ∧ j ≤ l.length ∧ Else u v s ∧ ∃ m : List Rw, m.length = l.length ∧ OwnF u0 v 43 2 s (m.flatMap encR) ∧ m.take a.toNat = (l.take j.toNat).filter (fun x => !p x) ∧ m.drop j.toNat = l.drop j.toNat,
      fun _ j _ => l.length - j.toNat, ⟨by omega, by omega, by omega, Else.refl _ _, l, rfl, ho, ?_, rfl⟩, ?_⟩
    · rw [show ((i : Int) + 1).toNat = i + 1 by omega, Int.toNat_natCast, List.take_add_one, hir]
      simp only [Option.toList_some, List.filter_append, hbefore, List.filter_cons, hyes]
      simp
    rintro a j v ⟨a0, aj, jl, hel, m, hml, hom, htk, hdr⟩
    have hubv : ub.le v := fun b o hb => hel b o (hub b o hb) fun e => by rw [hbs b e] at hb; cases hb
    refine ⟨fun hjl => ?_, fun hge => ?_⟩
    · have hjlt : j.toNat < l.length := by omega
      have hjx : l[j.toNat]? = some l[j.toNat] := List.getElem?_eq_getElem hjlt
      have hjm : m[j.toNat]? = some l[j.toNat] := by
        have := congrArg (fun z => z[0]?) hdr
        simp only [List.getElem?_drop, Nat.add_zero] at this
        rw [this, hjx]
      obtain ⟨q, hq, hc⟩ := Seg.elem encR_len (by decide) hom.own.seg hjm
      have c0 := hc 0 _ rfl
      rw [Addr.add_zero'] at c0
      obtain ⟨x, hx⟩ : ∃ x, x = l[j.toNat] := ⟨_, rfl⟩
      rw [← hx] at hjx hjm c0 hc
      have htk2 : (l.take (j.toNat + 1)).filter (fun x => !p x) = m.take a.toNat ++ (if p x = true then [] else [x]) := by
        rw [List.take_add_one, hjx, htk]
        simp only [Option.toList_some, List.filter_append, List.filter_cons, List.filter_nil]
        cases p x <;> simp
      have hdr2 : ∀ m' : List Rw, (∀ k, a.toNat < k → m'[k]? = m[k]?) → m'.drop (j + 1).toNat = l.drop (j + 1).toNat := fun m' hm' => by
        have e : l.drop (j + 1).toNat = m.drop (j + 1).toNat := by
          rw [show (j + 1).toNat = j.toNat + 1 by omega, ← List.drop_drop, ← List.drop_drop, hdr]
        rw [e]
        apply List.ext_getElem?
        intro k
        rw [List.getElem?_drop, List.getElem?_drop, hm' _ (by omega)]
      refine ⟨q, hq, ⟨by omega, hjl⟩, _, c0, _, hc 1 _ rfl, hp x _ _ hubv ⟨fun hb => ?_, fun hb => ?_⟩⟩
      · have hpf : p x = false := by simpa using hb
        rw [hpf] at htk2
        refine ⟨q, hq, ⟨by omega, by omega⟩, ?_⟩
        refine OwnF.store (enc := encR) encR_len hom (by decide) (i := a.toNat) (by omega) (y := x) (by simp [encR, Value.oneCell']) hq fun u2 ho2 he2 _ => ⟨⟨by omega, by omega⟩, ⟨by omega, by omega⟩, ⟨by omega, by omega, by omega, fun b o hb hne => he2 b o (hel b o hb hne) hne, _, by simpa using hml, ho2, ?_, ?_⟩, by dsimp only; omega⟩
        · rw [show (j + 1).toNat = j.toNat + 1 by omega, htk2, show (a + 1).toNat = a.toNat + 1 by omega, List.take_add_one, List.getElem?_set_self (by omega), List.take_set_of_le (Nat.le_refl _)]
          simp
        · exact hdr2 _ fun k hk => List.getElem?_set_ne (by omega)
      · rw [hb] at htk2
        refine ⟨⟨by omega, by omega⟩, ⟨by omega, by omega, by omega, hel, m, hml, hom, ?_, hdr2 m fun _ _ => rfl⟩, by dsimp only; omega⟩
        rw [show (j + 1).toNat = j.toNat + 1 by omega, htk2]; simp
    · have hjl : j.toNat = l.length := by
        have : ¬ j < (s.n : Int) := hge
        omega
      have hcap := Seg.cap hom.own.seg
      rw [hjl, List.take_length] at htk
      refine sem_slice (P := Tryz.prog) tRows (l := a.toNat) (h := s.n) (m := s.c) (.inr (by rw [Int.toNat_of_nonneg a0])) (.inl ⟨rfl, rfl⟩) (.inl ⟨rfl, rfl⟩) (by omega) hcap (Nat.le_refl _) hcap ?_
      refine hom.clearR (i := a.toNat) (by omega) fun u2 m2 ho2 h1 h2 he2 => ?_
      refine sem_slice (P := Tryz.prog) tRows (l := 0) (h := a.toNat) (m := s.c) (.inl ⟨rfl, rfl⟩) (.inr (by rw [Int.toNat_of_nonneg a0])) (.inl ⟨rfl, rfl⟩) (by omega) (by omega) (Nat.le_refl _) hcap ?_
      obtain ⟨hf, hfb, _⟩ := ho2.front (m := a.toNat) (by omega)
      have e : (m2.flatMap encR).take (a.toNat * 2) = (l.filter fun x => !p x).flatMap encR := by
        rw [flat_take encR_len, h1, htk]
      rw [e] at hf
      exact hK _ _ hf hfb fun b o hb hne => he2 b o (hel b o hb hne) hne
  · have e : l.filter (fun x => !p x) = l := List.filter_eq_self.2 fun a ha => by rw [hno a ha]; rfl
    exact hK s u (by rw [e]; exact ho) rfl (Else.refl _ _)

end Go.Proofs.YtncninpdlpemgaaGreat

/- VcPn1 -/
namespace Go.Proofs.YtncninpdlpemgaaGreat

namespace Pt
mutual
def del (id : Int) : Pt → Pt
  | .mk sh lo hi rad rows kids => .mk sh lo hi rad (rows.filter fun x => x.1 != id) (delL id kids)
def delL (id : Int) : List Pt → List Pt
  | [] => []
  | p :: ps => p.del id :: delL id ps
end
theorem delL_eq (id : Int) : ∀ ps : List Pt, delL id ps = ps.map (del id)
  | [] => rfl
  | p :: ps => by rw [delL, delL_eq id ps, List.map_cons]
theorem ind {P : Pt → Prop} (h : ∀ n, (∀ k ∈ n.kids, P k) → P n) : ∀ n, P n := by
  intro n
  exact Pt.rec (motive_1 := P) (motive_2 := fun ns => ∀ k ∈ ns, P k) (fun _ _ _ _ _ _ ih => h _ ih) (fun k hk => (by cases hk)) (fun n ns h1 h2 k hk => by
    rcases List.mem_cons.1 hk with rfl | hk
    · exact h1
    · exact h2 k hk) n
theorem del_eq (id : Int) (p : Pt) : p.del id = .mk p.sh p.lo p.hi p.rad (p.rows.filter fun x => x.1 != id) (p.kids.map (del id)) := by
  cases p
  rw [del, delL_eq]
  rfl
theorem del_all (id : Int) (p : Pt) : (p.del id).all = p.all.filter fun x => x.1 != id := by
  induction p using ind with
  | h p ih =>
    rw [del_eq, all_eq, all_eq, List.filter_append]
    show (p.rows.filter fun x => x.1 != id) ++ allL (p.kids.map (del id)) = _
    congr 1
    rw [allL_flat, allL_flat, List.flatMap_map]
    obtain ⟨ks, hks⟩ : ∃ ks, ks = p.kids := ⟨_, rfl⟩
    rw [← hks] at ih ⊢
    clear hks
    induction ks with
    | nil => rfl
    | cons k ks ihk =>
      rw [List.flatMap_cons, List.flatMap_cons, List.filter_append, ih k (List.mem_cons_self ..), ihk fun j hj => ih j (List.mem_cons_of_mem _ hj)]
theorem del_ok {id d : Int} {p : Pt} (h : PtOk d p) : PtOk d (p.del id) := by
  induction p using ind with
  | h p ih =>
    have h1 := h.reg
    have h2 := h.ins
    have h3 := h.kids
    have hr : (p.del id).rgn [] = p.rgn [] := by rw [del_eq]; rfl
    refine .mk ?_ (fun x hx => ?_) fun k hk => ?_
    · rw [hr]; exact h1
    · rw [hr]
      rw [del_all] at hx
      exact h2 x (List.mem_filter.1 hx).1
    · rw [del_eq] at hk
      obtain ⟨k', hk', rfl⟩ := List.mem_map.1 (show k ∈ p.kids.map (del id) from hk)
      exact ih k' hk' (h3 k' hk')
theorem del_size (id : Int) (p : Pt) : (p.del id).size = p.size := by
  induction p using ind with
  | h p ih =>
    rw [del_eq, size_eq, size_eq]
    show 1 + sizeL (p.kids.map (del id)) = _
    congr 1
    obtain ⟨ks, hks⟩ : ∃ ks, ks = p.kids := ⟨_, rfl⟩
    rw [← hks] at ih ⊢
    clear hks
    induction ks with
    | nil => rfl
    | cons k ks ihk =>
      rw [List.map_cons, sizeL, sizeL, ih k (List.mem_cons_self ..), ihk fun j hj => ih j (List.mem_cons_of_mem _ hj)]
end Pt

/-- All parts are of one shape. -/
inductive PtSh (s : Int) : Pt → Prop where
  | mk {p : Pt} (sh : p.sh = s) (kids : ∀ k ∈ p.kids, PtSh s k) : PtSh s p
theorem PtSh.sh {s : Int} {p : Pt} (h : PtSh s p) : p.sh = s := by cases h; assumption
theorem PtSh.kids {s : Int} {p : Pt} (h : PtSh s p) : ∀ k ∈ p.kids, PtSh s k := by cases h; assumption
theorem PtSh.del {s id : Int} {p : Pt} (h : PtSh s p) : PtSh s (p.del id) := by
  induction p using Pt.ind with
  | h p ih =>
    rw [Pt.del_eq]
    refine .mk h.sh fun k hk => ?_
    obtain ⟨k', hk', rfl⟩ := List.mem_map.1 (show k ∈ p.kids.map (Pt.del id) from hk)
    exact ih k' hk' (h.kids k' hk')

theorem flat_apart {α β : Type} {f : α → List β} : ∀ {ks : List α}, (ks.flatMap f).Nodup → ∀ {i j : Nat} {a b : α} {c : β}, ks[i]? = some a → ks[j]? = some b → i ≠ j → c ∈ f a → c ∉ f b := by
  intro ks
  induction ks with
  | nil => intro _ i j a b c hi; simp at hi
  | cons k ks ih =>
    intro hn i j a b c hi hj hne ha hb
    rw [List.flatMap_cons, List.nodup_append] at hn
    obtain ⟨_, h2, h3⟩ := hn
    cases i with
    | zero =>
      cases j with
      | zero => exact hne rfl
      | succ j =>
        obtain rfl := Option.some.inj (show some k = some a from hi)
        exact h3 c ha c (List.mem_flatMap.2 ⟨b, List.mem_of_getElem? (show ks[j]? = some b from hj), hb⟩) rfl
    | succ i =>
      cases j with
      | zero =>
        obtain rfl := Option.some.inj (show some k = some b from hj)
        exact h3 c hb c (List.mem_flatMap.2 ⟨a, List.mem_of_getElem? (show ks[i]? = some a from hi), ha⟩) rfl
      | succ j => exact ih h2 (show ks[i]? = some a from hi) (show ks[j]? = some b from hj) (by omega) ha hb

/-- A part's rows are others. -/
theorem st_rows {u : H} {h : PH} (hc : u h.b = some (.cells (partC h).toArray 94 (0, 0))) (s : Sl) (rows : List Rw) {f : H → Prop}
    (hf : f (u.ins h.b (.cells (partC { h with sr := s, rows := rows }).toArray 94 (0, 0)))) : H.St u ((Addr.mk h.b 0 none).add 6) [.slice s.a s.n s.c] f := by
  exact ⟨_, _, hc, rfl, by simp [partC, Addr.add_lit], by simp [Value.oneCell'], hf⟩

/-- What is left of a tree of parts where a row was dropped. -/
structure DropR (id : Int) (n : PN) (u' : H) (n' : PN) : Prop where
  one : ∀ x ∈ n'.heads, PhAt u' x
  own : n'.own = n.own
  b : n'.b = n.b
  pt : n'.pt = n.pt.del id
  rows : ∀ x ∈ n'.heads, ∀ r ∈ x.1.rows, ∃ y ∈ n.heads, r ∈ y.1.rows

theorem bDrop : hasBody Tryz.prog 50 = true := by kernel_rfl
theorem bDrop1 : hasBody Tryz.prog 52 = true := by kernel_rfl

theorem drop_pred {ub : H} {n0 : Nat} {id : Int} (c0 : ub.cell? ⟨n0, 0, none⟩ = some (.int .i64 id)) : RowPred ub (.func (.func 52) #[] #[.pointer (some ⟨n0, 0, none⟩)]) fun r => decide (r.id = id) := fun r v K hv hK =>
  .inl ⟨_, _, _, rfl, bodyOf bDrop1, vc.kdtree_Tree__Delete_1_1 r.id r.s ⟨n0, 0, none⟩ v K ⟨_, H.le.cell (show ub.le v from hv) c0, hK⟩⟩

theorem spec.drop {ub : H} {n0 n1 : Nat} {id : Int} (c0 : ub.cell? ⟨n0, 0, none⟩ = some (.int .i64 id)) (c1 : ub.cell? ⟨n1, 0, none⟩ = some (.func (.func 50) #[] #[.pointer (some ⟨n0, 0, none⟩), .pointer (some ⟨n1, 0, none⟩)])) :
    ∀ (n : PN) {u : H} {K : H → Prop}, ub.le u → (∀ x ∈ n.heads, PhAt u x) → n.own.Nodup → (∀ c ∈ n.own, ub c = none) → (∀ x ∈ n.heads, ∀ r ∈ x.1.rows, Ints ub r.s r.v) → n.heads.length ≤ 10000000 → (∀ u' n', DropR id n u' n' → (∀ c o, u c = some o → c ∉ n.own → u' c = some o) → (∀ c, u c ≠ none → u' c ≠ none) → K u') →
      C.kdtree_Tree__Delete_1 (some ⟨n.b, 0, none⟩) ⟨n0, 0, none⟩ ⟨n1, 0, none⟩ u K := by
  intro n
  induction n using PN.ind with
  | h n ih =>
    intro u K hub hone hnd hout hvec hsz hK
    have hh : (n.h, n.kids.map PN.b) ∈ n.heads := by rw [PN.heads_eq]; exact List.mem_cons_self ..
    have h0 := hone _ hh
    have hb : n.b = n.h.b := rfl
    rw [PN.own_eq] at hnd hout
    have hnd2 := hnd
    rw [List.nodup_append] at hnd2
    obtain ⟨hn1, hn2, hn3⟩ := hnd2
    have hsrb : ∀ g, n.h.sr.blk = some g → g ∈ n.h.blks := fun g hg => by simp [PH.blks, hg]
    have hsrne : n.h.sr.blk ≠ some n.h.b := fun e => by
      unfold PH.blks at hn1
      rw [List.nodup_cons] at hn1
      exact hn1.1 (by simp [e])
    have kidl : n.kids.length ≤ 10000000 := by
      have h1 : n.heads.length = 1 + (n.kids.flatMap PN.heads).length := by rw [PN.heads_eq, List.length_cons]; omega
      have h2 : ∀ ks : List PN, ks.length ≤ (ks.flatMap PN.heads).length := fun ks => by
        induction ks with
        | nil => simp
        | cons k ks ihk => rw [List.flatMap_cons, List.length_append, List.length_cons]; have := k.heads_pos; omega
      have := h2 n.kids
      omega
    apply vc.kdtree_Tree__Delete_1
    refine ⟨_, rfl, n.h.sr, H.cell?_of h0.cell 6, ?_⟩
    refine spec.slices_DeleteFunc__api_Row_ h0.rws.f (drop_pred c0) hub (fun g hg => hout g (List.mem_append_left _ (hsrb g hg))) fun s2 u3 ho2 hb2 he2 => ?_
    have hfil : (n.h.rows.filter fun r => !decide (r.id = id)) = n.h.rows.filter fun r => r.id != id := List.filter_congr fun r _ => by by_cases e : r.id = id <;> simp [e]
    rw [hfil] at ho2
    refine ⟨_, rfl, ?_⟩
    have hcell3 : u3 n.h.b = some (.cells (partC n.h).toArray 94 (0, 0)) := he2 _ _ h0.cell hsrne
    refine st_rows hcell3 s2 (n.h.rows.filter fun r => r.id != id) ?_
    obtain ⟨h', hh'⟩ : ∃ h' : PH, h' = { n.h with sr := s2, rows := n.h.rows.filter fun r => r.id != id } := ⟨_, rfl⟩
    rw [← hh']
    have hb' : h'.b = n.h.b := by rw [hh']
    have hbl' : h'.blks = n.h.blks := by rw [hh']; unfold PH.blks; simp [hb2]
    obtain ⟨u5, hu5⟩ : ∃ u5, u5 = u3.ins n.h.b (.cells (partC h').toArray 94 (0, 0)) := ⟨_, rfl⟩
    rw [← hu5]
    have s5 : u5 n.h.b = some (.cells (partC h').toArray 94 (0, 0)) := by rw [hu5]; exact H.ins_same _ _ _
    have e35 : ∀ c o, u3 c = some o → c ≠ n.h.b → u5 c = some o := fun c o hc hne => by rw [hu5, H.ins_other _ _ hne]; exact hc
    have e5 : ∀ c o, u c = some o → c ∉ n.h.blks → u5 c = some o := fun c o hc hne => e35 c o (he2 c o hc fun e => hne (hsrb c e)) fun e => hne (by rw [e]; exact List.mem_cons_self ..)
    have kn5 : ∀ c, u c ≠ none → u5 c ≠ none := fun c hc => by
      by_cases e : c = n.h.b
      · rw [e, s5]; simp
      · obtain ⟨o, ho⟩ := Option.ne_none_iff_exists'.1 hc
        by_cases e2 : n.h.sr.blk = some c
        · obtain ⟨o3, ho3⟩ := Option.ne_none_iff_exists'.1 (own_known ho2 (g := c) (by rw [hb2]; exact e2))
          rw [e35 c o3 ho3 e]; simp
        · rw [e35 c o (he2 c o ho e2) e]; simp
    have hub5 : ub.le u5 := fun c o hc => e5 c o (hub c o hc) fun hm => by rw [hout c (List.mem_append_left _ hm)] at hc; cases hc
    have own5 : ∀ {e k : Nat} {s : Sl} {xs : List Value}, Own u e k s xs → (∀ g, s.blk = some g → g ≠ n.h.b ∧ n.h.sr.blk ≠ some g) → Own u5 e k s xs := fun ho hne => ho.le fun c o hc hu => e35 c o (he2 c o hu fun e => (hne c hc).2 e) (hne c hc).1
    -- the part's own slices lie apart
    have hap : (∀ g, n.h.sl.blk = some g → g ≠ n.h.b ∧ n.h.sr.blk ≠ some g) ∧ (∀ g, n.h.sg.blk = some g → g ≠ n.h.b ∧ n.h.sr.blk ≠ some g) ∧ (∀ g, n.h.sk.blk = some g → g ≠ n.h.b ∧ n.h.sr.blk ≠ some g) := by
      unfold PH.blks at hn1
      rw [List.nodup_cons] at hn1
      obtain ⟨q1, q2⟩ := hn1
      have hq : ∀ g, g ∈ n.h.sl.blk.toList ++ n.h.sg.blk.toList ++ n.h.sr.blk.toList ++ n.h.sk.blk.toList → g ≠ n.h.b := fun g hg e => q1 (by rw [← e]; exact hg)
      rw [List.nodup_append, List.nodup_append, List.nodup_append] at q2
      obtain ⟨⟨⟨_, _, q3⟩, _, q4⟩, _, q5⟩ := q2
      refine ⟨fun g hg => ⟨hq g (by simp [hg]), fun e => q4 g (by simp [hg]) g (by simp [e]) rfl⟩, fun g hg => ⟨hq g (by simp [hg]), fun e => q4 g (by simp [hg]) g (by simp [e]) rfl⟩, fun g hg => ⟨hq g (by simp [hg]), fun e => q5 g (by simp [e]) g (by simp [hg]) rfl⟩⟩
    have hPh : ∀ kb, kb = n.kids.map PN.b → PhAt u5 (h', kb) := fun kb hkb => by
      subst hkb
      subst hh'
      refine ⟨s5, own5 h0.lo hap.1, own5 h0.hi hap.2.1, ho2.own.le fun c o hc hu => e35 c o hu fun e => hsrne (by rw [← hb2, hc, e]), fun r hr => (hvec _ hh r (List.mem_filter.1 hr).1).mono hub5, Seg.else h0.kid fun g o hg ho => e35 g o (he2 g o ho fun e => (hap.2.2 g hg).2 e) (hap.2.2 g hg).1⟩
    have hskh : h'.sk = n.h.sk := by rw [hh']
    refine ⟨_, rfl, h'.sk, by rw [hb]; exact H.cell?_of s5 7, ?_⟩
    -- the kids, one by one
    refine ⟨fun x w => 0 ≤ x ∧ x ≤ n.kids.length ∧ (∀ c o, u5 c = some o → c ∉ n.kids.flatMap PN.own → w c = some o) ∧ (∀ c, u5 c ≠ none → w c ≠ none) ∧ ∃ ds : List PN, ds.length = x.toNat ∧ (∀ (i : Nat) d k, ds[i]? = some d → n.kids[i]? = some k → DropR id k w d) ∧ (∀ (i : Nat) k, x.toNat ≤ i → n.kids[i]? = some k → ∀ y ∈ k.heads, PhAt w y),
      fun x _ => ((n.kids.length : Int) - x).toNat, ⟨by omega, by omega, fun c o hc _ => hc, fun c hc => hc, [], rfl, fun i d k hd => by simp at hd, fun i k _ hk y hy => ?_⟩, ?_⟩
    · obtain ⟨z1, z2⟩ : k.own ⊆ n.kids.flatMap PN.own ∧ True := ⟨fun c hc => List.mem_flatMap.2 ⟨k, List.mem_of_getElem? hk, hc⟩, trivial⟩
      have hyn : y ∈ n.heads := by rw [PN.heads_eq]; exact List.mem_cons_of_mem _ (List.mem_flatMap.2 ⟨k, List.mem_of_getElem? hk, hy⟩)
      refine (hone y hyn).keep (fun c o hc ho => e5 c o ho fun hm => hn3 c hm c (z1 (List.mem_flatMap.2 ⟨y, hy, hc⟩)) rfl) fun r hr => (hvec y hyn r hr).mono hub5
    · rintro x w ⟨x0, x1, hoth, hkw, ds, hdl, hds, hrest⟩
      have hubw : ub.le w := fun c o hc => hoth c o (hub5 c o hc) fun hm => by rw [hout c (List.mem_append_right _ hm)] at hc; cases hc
      have hskn : h'.sk.n = n.kids.length := by rw [hskh]; have := h0.kid.len; simp at this; omega
      have hkid : ∀ {z : Nat} {k : PN}, n.kids[z]? = some k → (∀ y ∈ k.heads, y ∈ n.heads) ∧ (∀ c ∈ k.own, c ∈ n.kids.flatMap PN.own) := fun hk => ⟨fun y hy => by rw [PN.heads_eq]; exact List.mem_cons_of_mem _ (List.mem_flatMap.2 ⟨_, List.mem_of_getElem? hk, hy⟩), fun c hc => List.mem_flatMap.2 ⟨_, List.mem_of_getElem? hk, hc⟩⟩
      refine ⟨fun hx => ?_, fun hx => ?_⟩
      · have hxl : x.toNat < n.kids.length := by omega
        obtain ⟨k, hk⟩ : ∃ k, n.kids[x.toNat]? = some k := ⟨_, List.getElem?_eq_getElem hxl⟩
        have hsk5 : Seg u5 n.h.sk 1 ((n.kids.map PN.b).map fun n => .pointer (some ⟨n, 0, none⟩)) := (hPh _ rfl).kid |> fun h => by rw [hskh] at h; exact h
        have hskw : Seg w n.h.sk 1 ((n.kids.map PN.b).map fun n => .pointer (some ⟨n, 0, none⟩)) := Seg.else hsk5 fun g o hg ho => hoth g o ho fun hm => hn3 g (by simp [PH.blks, hg]) g hm rfl
        have hget : ((n.kids.map PN.b).map fun n => Value.pointer (some ⟨n, 0, none⟩))[x.toNat]? = some (.pointer (some ⟨k.b, 0, none⟩)) := by simp [hk]
        obtain ⟨p, hp, hcell⟩ := hskw.at' |>.resolve_left (fun e => by rw [e] at hget; simp at hget)
        have hcx := hcell _ _ hget
        obtain ⟨k1, k2⟩ := hkid hk
        have hkn : k.own.Nodup := hn2.sublist (List.sublist_flatten_of_mem (List.mem_map_of_mem (f := PN.own) (List.mem_of_getElem? hk)))
        have hsz2 : k.heads.length ≤ 10000000 := by
          have h1 : n.heads.length = 1 + (n.kids.flatMap PN.heads).length := by rw [PN.heads_eq, List.length_cons]; omega
          have h2 : k.heads.length ≤ (n.kids.flatMap PN.heads).length := (List.sublist_flatten_of_mem (List.mem_map_of_mem (f := PN.heads) (List.mem_of_getElem? hk))).length_le
          omega
        refine ⟨p, by rw [hskh]; exact hp, ⟨x0, by omega⟩, _, by rw [Nat.mul_one]; exact hcx, _, hubw.cell c1, .inl ⟨_, _, _, rfl, bodyOf bDrop, ?_⟩⟩
        refine ih k (List.mem_of_getElem? hk) hubw (hrest x.toNat k (Nat.le_refl _) hk) hkn (fun c hc => hout c (List.mem_append_right _ (k2 c hc))) (fun y hy => hvec y (k1 y hy)) hsz2 fun w' d hd hel hk3 => ?_
        have hubw' : ub.le w' := fun c o hc => hel c o (hubw c o hc) fun e => by rw [hout c (List.mem_append_right _ (k2 c e))] at hc; cases hc
        have other : ∀ {i : Nat} {k' : PN}, n.kids[i]? = some k' → i ≠ x.toNat → ∀ c ∈ k'.own, c ∉ k.own := fun hk' hne c hc => flat_apart hn2 hk' hk hne hc
        refine ⟨⟨by omega, by omega⟩, ⟨by omega, by omega, fun c o hc hm => hel c o (hoth c o hc hm) fun e => hm (k2 c e), fun c hc => hk3 c (hkw c hc), ds ++ [d], by rw [List.length_append, hdl]; simp; omega, fun i d' k' hd' hk' => ?_, fun i k' hi hk' y hy => ?_⟩, by dsimp only; omega⟩
        · by_cases e : i < ds.length
          · rw [List.getElem?_append_left e] at hd'
            have hold := hds i d' k' hd' hk'
            have hne := other hk' (by omega)
            refine ⟨fun y hy => (hold.one y hy).keep (fun c o hc ho => hel c o ho (hne c (by rw [← hold.own]; exact List.mem_flatMap.2 ⟨y, hy, hc⟩))) fun r hr => ?_, hold.own, hold.b, hold.pt, hold.rows⟩
            obtain ⟨z, hz, hrz⟩ := hold.rows y hy r hr
            exact (hvec z ((hkid hk').1 z hz) r hrz).mono hubw'
          · have hil : i < (ds ++ [d]).length := (List.getElem?_eq_some_iff.1 hd').1
            rw [List.length_append, List.length_singleton] at hil
            have ei : i = x.toNat := by omega
            rw [List.getElem?_append_right (by omega), show i - ds.length = 0 by omega] at hd'
            obtain rfl := Option.some.inj (show some d = some d' from hd')
            rw [ei, hk] at hk'
            obtain rfl := Option.some.inj hk'
            exact hd
        · refine (hrest i k' (by omega) hk' y hy).keep (fun c o hc ho => hel c o ho (other hk' (by omega) c (List.mem_flatMap.2 ⟨y, hy, hc⟩))) fun r hr => (hvec y ((hkid hk').1 y hy) r hr).mono hubw'
      · have hxl : x.toNat = n.kids.length := by omega
        have hdl' : ds.length = n.kids.length := by omega
        have emap : ∀ {γ : Type} (f g : PN → γ), (∀ (i : Nat) d k, ds[i]? = some d → n.kids[i]? = some k → f d = g k) → ds.map f = n.kids.map g := fun f g hfg => by
          apply List.ext_getElem?
          intro i
          rw [List.getElem?_map, List.getElem?_map]
          by_cases e : i < ds.length
          · have h1 : ds[i]? = some ds[i] := List.getElem?_eq_getElem e
            have h2 : n.kids[i]? = some n.kids[i] := List.getElem?_eq_getElem (by omega)
            rw [h1, h2, Option.map_some, Option.map_some, hfg i _ _ h1 h2]
          · rw [List.getElem?_eq_none (by omega), List.getElem?_eq_none (by omega)]
            rfl
        have eb : ds.map PN.b = n.kids.map PN.b := emap _ _ fun i d k h1 h2 => (hds i d k h1 h2).b
        have eo : ds.flatMap PN.own = n.kids.flatMap PN.own := by
          rw [List.flatMap_def, List.flatMap_def, emap PN.own PN.own fun i d k h1 h2 => (hds i d k h1 h2).own]
        have ep : ds.map PN.pt = n.kids.map fun k => k.pt.del id := emap _ _ fun i d k h1 h2 => (hds i d k h1 h2).pt
        have mem : ∀ d ∈ ds, ∃ k ∈ n.kids, DropR id k w d := fun d hd => by
          obtain ⟨i, hi, rfl⟩ := List.getElem_of_mem hd
          exact ⟨_, List.getElem_mem (show i < n.kids.length by omega), hds i _ _ (List.getElem?_eq_getElem hi) (List.getElem?_eq_getElem (by omega))⟩
        refine hK w (.mk h' ds) ⟨fun y hy => ?_, ?_, hb', ?_, fun y hy r hr => ?_⟩ (fun c o hc hm => ?_) fun c hc => hkw c (kn5 c hc)
        · rw [PN.heads_eq] at hy
          rcases List.mem_cons.1 hy with rfl | hy
          · refine (hPh _ eb).keep (fun c o hc ho => hoth c o ho fun hm => hn3 c (by rw [← hbl']; exact hc) c hm rfl) fun r hr => ?_
            have hr' : r ∈ n.h.rows := by rw [hh'] at hr; exact (List.mem_filter.1 hr).1
            exact (hvec _ hh r hr').mono hubw
          · obtain ⟨d, hd, hy⟩ := List.mem_flatMap.1 hy
            obtain ⟨k, _, hk⟩ := mem d hd
            exact hk.one y hy
        · rw [PN.own_eq, PN.own_eq]
          show h'.blks ++ ds.flatMap PN.own = _
          rw [hbl', eo]
        · rw [PN.pt_eq, PN.pt_eq, Pt.del_eq]
          show Pt.mk h'.sh h'.lo h'.hi h'.rad (h'.rows.map Rw.pr) (ds.map PN.pt) = Pt.mk n.h.sh n.h.lo n.h.hi n.h.rad ((n.h.rows.map Rw.pr).filter fun x => x.1 != id) ((n.kids.map PN.pt).map (Pt.del id))
          rw [ep, List.map_map, List.filter_map, hh']
          rfl
        · rw [PN.heads_eq] at hy
          rcases List.mem_cons.1 hy with rfl | hy
          · have hr' : r ∈ n.h.rows := by
              have : r ∈ h'.rows := hr
              rw [hh'] at this; exact (List.mem_filter.1 this).1
            exact ⟨_, hh, hr'⟩
          · obtain ⟨d, hd, hy⟩ := List.mem_flatMap.1 hy
            obtain ⟨k, hkm, hk⟩ := mem d hd
            obtain ⟨z, hz, hrz⟩ := hk.rows y hy r hr
            exact ⟨z, by rw [PN.heads_eq]; exact List.mem_cons_of_mem _ (List.mem_flatMap.2 ⟨k, hkm, hz⟩), hrz⟩
        · rw [PN.own_eq] at hm
          exact hoth c o (e5 c o hc fun h => hm (List.mem_append_left _ h)) fun h => hm (List.mem_append_right _ h)

end Go.Proofs.YtncninpdlpemgaaGreat

/- VcSort2 -/
namespace Go.Proofs.YtncninpdlpemgaaGreat
open Go.Shelf Go.RowKit Go.Sort

theorem flatK_list {α : Type} [Inhabited α] {enc : α → List Value} {k : Nat} (hk0 : 0 < k) (hk : ∀ x, (enc x).length = k) (d : Array α) : (flatK enc k d).toList = d.toList.flatMap enc := by
  apply List.ext_getElem?
  intro i
  rcases Nat.lt_or_ge i (d.size * k) with hi | hi
  · have e : i = i / k * k + i % k := by rw [Nat.mul_comm]; exact (Nat.div_add_mod i k).symm
    have hd : i / k < d.size := Nat.div_lt_of_lt_mul (by rw [Nat.mul_comm]; exact hi)
    have hr : i % k < k := Nat.mod_lt _ hk0
    have hf := flat_get hk d.toList (i / k) (i % k) hr
    rw [← e] at hf
    rw [hf]
    have : (flatK enc k d).toList[i]? = some ((flatK enc k d)[i]!) := by
      rw [Array.getElem?_toList, getElem!_pos _ i (by simpa using hi), Array.getElem?_eq_getElem (by simpa using hi)]
    rw [this, get_flatK _ _ _ _ hi]
    simp [hd]
    have h2 : i % k < (enc d[i / k]).length := by rw [hk]; exact hr
    rw [List.getElem?_eq_getElem h2]
    rfl
  · rw [List.getElem?_eq_none (by simpa using hi), List.getElem?_eq_none (by rw [flat_len hk]; simpa using hi)]

theorem sorted_list {α : Type} [Inhabited α] {cf : α → α → Int} {d : Array α} (hs : SortedIn (ltOf cf) 0 d.size d) : d.toList.Pairwise fun a b => ¬ cf b a < 0 := by
  refine List.pairwise_iff_getElem.2 fun i j hi hj hij => ?_
  have := hs i j (Nat.zero_le _) hij (by simpa using hj)
  simp only [Array.length_toList] at hi hj
  rw [getElem!_pos d j hj, getElem!_pos d i hi] at this
  unfold ltOf at this
  simpa using this

/-- slices.SortFunc, of rows, by whatever comparison that is pure. -/
theorem spec.slices_SortFunc__api_Row_ {α : Type} [Inhabited α] (val : α → Rw) {g : FuncId} {cf : α → α → Int} (hO : SWO (ltOf cf)) (eg : ∀ args w, (callFunc g args).run Tryz.prog w = .ok (.enter g args) w)
    (hcf : ∀ a b (u : H), ClT Tryz.prog g #[.agg (encR (val a)).toArray, .agg (encR (val b)).toArray] [.one (.int .i64)] u fun z' u' => z' = cf a b ∧ u' = u)
    {u0 u : H} {s : Sl} {l : List α} (ho : OwnF u0 u 43 2 s ((l.map val).flatMap encR)) (hsm : l.length < 4611686018427387904) {K : H → Prop}
    (hK : ∀ (u' : H) (l' : List α), l'.Perm l → (l'.Pairwise fun a b => ¬ cf b a < 0) → OwnF u0 u' 43 2 s ((l'.map val).flatMap encR) → Else u u' s → K u') : C.slices_SortFunc__api_Row_ s (.func (.func g) #[] #[]) u K := by
  intro w hw
  have hsn : s.n = l.length := by have := flat_n encR_len (by decide) ho.own.seg; simpa using this
  rcases ho.own.is with h0 | ⟨b, cur, ha, hg, hle, hc, hs, ht⟩
  · subst h0
    have hl : l = [] := by
      have : l.length = 0 := hsn.symm
      exact List.eq_nil_of_length_eq_zero this
    subst hl
    refine (AnyF.slices_SortFunc_none Tryz.sortRows none 0 _ w).mono ?_
    rintro e w' ⟨rfl, rfl⟩
    exact ⟨_, u, rfl, ⟨[], .nil, rfl, hK u [] (List.Perm.refl _) List.Pairwise.nil ho (Else.refl _ _)⟩, Step.refl hw⟩
  have hflat : ∀ m : List α, (m.map val).flatMap encR = m.flatMap fun x => encR (val x) := fun m => by rw [List.flatMap_map]
  have hH : HoldsK (fun x => encR (val x)) 2 w b 0 l.toArray := by
    intro j hj
    simp only [size_flatK, List.size_toArray] at hj
    have hl : ((l.map val).flatMap encR)[j]? = some ((flatK (fun x => encR (val x)) 2 l.toArray)[j]!) := by
      have := flatK_list (k := 2) (enc := fun x => encR (val x)) (by decide) (fun x => encR_len _) l.toArray
      simp only [] at this
      rw [hflat, ← this, Array.getElem?_toList, getElem!_pos _ j (by simpa using hj), Array.getElem?_eq_getElem (by simpa using hj)]
    constructor
    · rcases ho.own.seg.at' with h1 | ⟨p, hp, hcell⟩
      · rw [h1] at hl; simp at hl
      · rw [ha] at hp; cases hp
        have := hw.cell (hcell j _ hl)
        rw [Addr.add_lit, Nat.zero_add] at this
        simpa using this
    · simp [World.frozen?, hw _ _ hg]
  have hcall := AnyQ.slices_SortFunc Tryz.sortRows 2 (fun w => by kernel_rfl) (fun w => by kernel_rfl) (fun x => encR (val x)) (fun x => encR_len _) (fun x => encR_one _) cf hO g #[] b 0 s.c l.toArray w eg
    (fun m os dk _ x y => by
      have := grown_of_pure (hcf x y) (sortWorldK (fun x => encR (val x)) 2 w b 0 m dk os)
      simpa using this) hH (hw.lt hg) (by simpa using hsm)
  simp only [List.size_toArray] at hcall
  change Calls Tryz.prog 81 _ _ _ at hcall
  rw [ha, hsn]
  refine hcall.mono ?_
  rintro e w' ⟨rfl, d', n, os, ⟨hp1, _, hp3⟩, hsrt, rfl⟩
  simp only [List.size_toArray] at hp1
  have hperm : d'.toList.Perm l := by
    have e1 : d'.extract 0 l.length = d' := by rw [← hp1]; simp
    have e2 : l.toArray.extract 0 l.length = l.toArray := by simp
    rw [e1, e2] at hp3
    simpa using hp3
  obtain ⟨ho', he⟩ := ho.resort ha hg (F := flatK (fun x => encR (val x)) 2 d') (by rw [size_flatK, hp1, hsn])
  rw [flatK_list (by decide) (fun x => encR_len _), ← hflat] at ho'
  exact ⟨_, _, rfl, ⟨[], .nil, rfl, hK _ d'.toList hperm (sorted_list (by rw [hp1]; exact hsrt)) ho' he⟩, step_sorted hw hg n _ os⟩

end Go.Proofs.YtncninpdlpemgaaGreat

/- VcStab -/
namespace Go.Proofs.YtncninpdlpemgaaGreat

/-- A slice's rows, mixed; all else as it was. -/
def PermS (u0 u : H) (s : Sl) (l : List Rw) (v : H) : Prop := Else u v s ∧ ∃ m : List Rw, m.Perm l ∧ OwnF u0 v 43 2 s (m.flatMap encR)

/-- A comparison that looks alone. -/
def CmpOk (ub : H) (l : List Rw) (fv : Value) : Prop := ∀ (a b : Rw) (v : H) (K : Int → H → Prop), a ∈ l → b ∈ l → ub.le v → (∀ z, K z v) → ClV Tryz.prog fv #[.agg #[.int .i64 a.id, .slice a.s.a a.s.n a.s.c], .agg #[.int .i64 b.id, .slice b.s.a b.s.n b.s.c]] [.one (.int .i64)] v K

theorem PermS.base {u0 u ub v : H} {s : Sl} {l : List Rw} (h : PermS u0 u s l v) (hub : ub.le u) (hbs : ∀ b, s.blk = some b → ub b = none) : ub.le v := fun c o hc => h.1 c o (hub c o hc) fun e => by rw [hbs c e] at hc; cases hc

theorem PermS.len {u0 u v : H} {s : Sl} {l : List Rw} (h : PermS u0 u s l v) : s.n = l.length := by
  obtain ⟨_, m, hp, ho⟩ := h
  have := flat_n encR_len (by decide) ho.own.seg
  rw [hp.length_eq] at this
  exact this

/-- Two of them are read. -/
theorem PermS.at2 {u0 u v : H} {s : Sl} {l : List Rw} (h : PermS u0 u s l v) {x y : Int} (x0 : 0 ≤ x) (x1 : x < s.n) (y0 : 0 ≤ y) (y1 : y < s.n) : ∃ p, s.a = some p ∧ ∃ a b : Rw, a ∈ l ∧ b ∈ l ∧
    v.cell? (p.add (x.toNat * 2)) = some (.int .i64 a.id) ∧ v.cell? ((p.add (x.toNat * 2)).add 1) = some (.slice a.s.a a.s.n a.s.c) ∧ v.cell? (p.add (y.toNat * 2)) = some (.int .i64 b.id) ∧ v.cell? ((p.add (y.toNat * 2)).add 1) = some (.slice b.s.a b.s.n b.s.c) ∧
    ∀ f g : H → Prop, (∀ v', PermS u0 u s l v' → f v') → (∀ v1, H.St v1 (p.add (y.toNat * 2)) [.int .i64 a.id, .slice a.s.a a.s.n a.s.c] f → g v1) → H.St v (p.add (x.toNat * 2)) [.int .i64 b.id, .slice b.s.a b.s.n b.s.c] g := by
  have hsn := h.len
  obtain ⟨he, m, hp, ho⟩ := h
  have hml := hp.length_eq
  have hx : x.toNat < m.length := by omega
  have hy : y.toNat < m.length := by omega
  obtain ⟨p, hpp, hc⟩ := Seg.elem encR_len (by decide) ho.own.seg (List.getElem?_eq_getElem hx)
  obtain ⟨p', hpp', hd⟩ := Seg.elem encR_len (by decide) ho.own.seg (List.getElem?_eq_getElem hy)
  obtain rfl : p' = p := by rw [hpp] at hpp'; exact (Option.some.inj hpp').symm
  have hc0 := hc 0 _ rfl
  have hd0 := hd 0 _ rfl
  rw [Addr.add_zero'] at hc0 hd0
  refine ⟨p', hpp, m[x.toNat], m[y.toNat], hp.mem_iff.1 (List.getElem_mem hx), hp.mem_iff.1 (List.getElem_mem hy), hc0, hc 1 _ rfl, hd0, hd 1 _ rfl, fun f g hf hg => ?_⟩
  refine OwnF.store (enc := encR) encR_len ho (by decide) (i := x.toNat) hx (y := m[y.toNat]) (by simp [encR, Value.oneCell']) hpp fun v1 ho1 he1 _ => hg v1 ?_
  refine OwnF.store (enc := encR) encR_len ho1 (by decide) (i := y.toNat) (by rw [List.length_set]; exact hy) (y := m[x.toNat]) (by simp [encR, Value.oneCell']) hpp fun v2 ho2 he2 _ => hf v2 ⟨fun c o hc hne => he2 c o (he1 c o (he c o hc hne) hne) hne, _, ?_, ho2⟩
  refine List.Perm.trans ?_ hp
  rw [← swapL_eq hx hy]
  exact swapL_perm hx hy

theorem mid_eq {x y : Int} (hx : 0 ≤ x) (hy : 0 ≤ y) (h : x + y ≤ 4000000000) : IntKind.i64.wrap (Int.fdiv (IntKind.u64.wrap (x + y)) (2 ^ 1)) = (x + y) / 2 := by
  have e1 : IntKind.u64.wrap (x + y) = x + y := by
    show (x + y) % 18446744073709551616 = x + y
    omega
  rw [e1, Int.fdiv_eq_ediv_of_nonneg _ (by decide)]
  exact IntWalk.i64_in _ (by omega)

theorem spec.swapRange {u0 u v : H} {s : Sl} {l : List Rw} {a b n : Int} {fv : Value} {K : H → Prop} (h : PermS u0 u s l v) (hsm : l.length ≤ 1000000) (a0 : 0 ≤ a) (b0 : 0 ≤ b) (ha : a + n ≤ s.n) (hb : b + n ≤ s.n) (hK : ∀ v', PermS u0 u s l v' → K v') : C.slices_swapRangeCmpFunc_api_Row_ s a b n fv v K := by
  have hsn := h.len
  apply vc.slices_swapRangeCmpFunc_api_Row_
  refine ⟨fun i w => 0 ≤ i ∧ PermS u0 u s l w, fun i _ => (n - i).toNat, ⟨by omega, h⟩, ?_⟩
  rintro i w ⟨i0, hw⟩
  refine ⟨fun hi => ?_, fun _ => hK w hw⟩
  obtain ⟨p, hp, x, y, _, _, c0, c1, d0, d1, hst⟩ := hw.at2 (x := a + i) (y := b + i) (by omega) (by omega) (by omega) (by omega)
  refine ⟨⟨by omega, by omega⟩, ⟨by omega, by omega⟩, ⟨by omega, by omega⟩, p, hp, ⟨by omega, by omega⟩, ⟨by omega, by omega⟩, p, hp, ⟨by omega, by omega⟩, _, d0, _, d1, _, c0, _, c1, p, hp, ⟨by omega, by omega⟩, ?_⟩
  exact hst _ _ (fun v' hv' => ⟨⟨by omega, by omega⟩, ⟨by omega, hv'⟩, by dsimp only; omega⟩) fun v1 h1 => ⟨p, hp, ⟨by omega, by omega⟩, h1⟩

theorem spec.rotateR {u0 u v : H} {s : Sl} {l : List Rw} {a m b : Int} {fv : Value} {K : H → Prop} (h : PermS u0 u s l v) (hsm : l.length ≤ 1000000) (a0 : 0 ≤ a) (ham : a < m) (hmb : m < b) (hb : b ≤ s.n) (hK : ∀ v', PermS u0 u s l v' → K v') : C.slices_rotateCmpFunc_api_Row_ s a m b fv v K := by
  have hsn := h.len
  apply vc.slices_rotateCmpFunc_api_Row_
  refine ⟨⟨by omega, by omega⟩, ⟨by omega, by omega⟩, fun i j w => 0 < i ∧ i ≤ m - a ∧ 0 < j ∧ j ≤ b - m ∧ PermS u0 u s l w, fun i j _ => (i + j).toNat, ⟨by omega, by omega, by omega, by omega, h⟩, ?_⟩
  rintro i j w ⟨i0, i1, j0, j1, hw⟩
  refine ⟨fun hne => ⟨fun hlt => ⟨⟨by omega, by omega⟩, ?_⟩, fun hlt => ⟨⟨by omega, by omega⟩, ⟨by omega, by omega⟩, ⟨by omega, by omega⟩, ?_⟩⟩, fun he => ⟨⟨by omega, by omega⟩, ?_⟩⟩
  · exact spec.swapRange hw hsm (by omega) (by omega) (by omega) (by omega) fun v' hv' => ⟨⟨by omega, by omega⟩, ⟨by omega, by omega, by omega, by omega, hv'⟩, by dsimp only; omega⟩
  · exact spec.swapRange hw hsm (by omega) (by omega) (by omega) (by omega) fun v' hv' => ⟨⟨by omega, by omega⟩, ⟨by omega, by omega, by omega, by omega, hv'⟩, by dsimp only; omega⟩
  · exact spec.swapRange hw hsm (by omega) (by omega) (by omega) (by omega) hK

theorem spec.insSort {ub u0 u v : H} {s : Sl} {l : List Rw} {a b : Int} {fv : Value} {K : H → Prop} (hub : ub.le u) (hbs : ∀ b, s.blk = some b → ub b = none) (hc : CmpOk ub l fv) (h : PermS u0 u s l v) (hsm : l.length ≤ 1000000) (a0 : 0 ≤ a) (ha1 : a ≤ 2000000) (hb : b ≤ s.n) (hK : ∀ v', PermS u0 u s l v' → K v') : C.slices_insertionSortCmpFunc_api_Row_ s a b fv v K := by
  have hsn := h.len
  apply vc.slices_insertionSortCmpFunc_api_Row_
  refine ⟨⟨by omega, by omega⟩, fun i w => a < i ∧ PermS u0 u s l w, fun i _ => (b - i).toNat, ⟨by omega, h⟩, ?_⟩
  rintro i w ⟨i0, hw⟩
  refine ⟨fun hi => ?_, fun _ => hK w hw⟩
  refine ⟨fun j w => a ≤ j ∧ j ≤ i ∧ PermS u0 u s l w, fun j _ => (j - a).toNat, ⟨by omega, by omega, hw⟩, ?_⟩
  rintro j w ⟨j0, j1, hw⟩
  intro K8 h8
  have next : ∀ {z : H}, PermS u0 u s l z → InR (i + 1) ∧ (a < i + 1 ∧ PermS u0 u s l z) ∧ (b - (i + 1)).toNat < (b - i).toNat := fun hz => ⟨⟨by omega, by omega⟩, ⟨by omega, hz⟩, by omega⟩
  refine ⟨fun hj => ?_, fun _ => next hw⟩
  obtain ⟨p, hp, x, y, hx, hy, c0, c1, d0, d1, hst⟩ := hw.at2 (x := j) (y := j - 1) (by omega) (by omega) (by omega) (by omega)
  refine ⟨p, hp, ⟨by omega, by omega⟩, ⟨by omega, by omega⟩, p, hp, ⟨by omega, by omega⟩, _, c0, _, c1, _, d0, _, d1, ?_⟩
  refine hc x y w _ hx hy (hw.base hub hbs) fun z => ⟨fun _ => h8 _ ?_, fun _ => next hw⟩
  refine ⟨⟨by omega, by omega⟩, ⟨by omega, by omega⟩, p, hp, ⟨by omega, by omega⟩, p, hp, ⟨by omega, by omega⟩, _, d0, _, d1, _, c0, _, c1, p, hp, ⟨by omega, by omega⟩, ?_⟩
  exact hst _ _ (fun v' hv' => ⟨⟨by omega, by omega⟩, ⟨by omega, by omega, hv'⟩, by dsimp only; omega⟩) fun v1 h1 => ⟨p, hp, ⟨by omega, by omega⟩, h1⟩

theorem spec.symMerge {ub u0 u : H} {s : Sl} {l : List Rw} {fv : Value} (hub : ub.le u) (hbs : ∀ b, s.blk = some b → ub b = none) (hc : CmpOk ub l fv) (hsm : l.length ≤ 1000000) : ∀ (N : Nat) {a m b : Int} {v : H} {K : H → Prop}, b - a ≤ N → PermS u0 u s l v → 0 ≤ a → a < m → m < b → b ≤ s.n → (∀ v', PermS u0 u s l v' → K v') → C.slices_symMergeCmpFunc_api_Row_ s a m b fv v K := by
  intro N
  induction N with
  | zero => intro a m b v K hN h a0 ham hmb hb hK; omega
  | succ N ih =>
    intro a m b v K hN h a0 ham hmb hb hK
    have hsn := h.len
    apply vc.slices_symMergeCmpFunc_api_Row_
    refine ⟨⟨by omega, by omega⟩, fun h1 => ?_, fun h1 => ⟨⟨by omega, by omega⟩, fun h2 => ?_, fun h2 => ?_⟩⟩
    · refine ⟨fun i j w => m ≤ i ∧ i ≤ j ∧ j ≤ b ∧ PermS u0 u s l w, fun i j _ => (j - i).toNat, ⟨by omega, by omega, by omega, h⟩, ?_⟩
      rintro i j w ⟨i0, ij, j1, hw⟩
      refine ⟨fun hij => ⟨⟨by omega, by omega⟩, by decide, ?_⟩, fun hij => ?_⟩
      · rw [mid_eq (by omega) (by omega) (by omega)]
        obtain ⟨c, hcc⟩ : ∃ c, c = (i + j) / 2 := ⟨_, rfl⟩
        rw [← hcc]
        obtain ⟨p, hp, x, y, hx, hy, c0, c1, d0, d1, _⟩ := hw.at2 (x := c) (y := a) (by omega) (by omega) (by omega) (by omega)
        refine ⟨p, hp, ⟨by omega, by omega⟩, p, hp, ⟨by omega, by omega⟩, _, c0, _, c1, _, d0, _, d1, ?_⟩
        refine hc x y w _ hx hy (hw.base hub hbs) fun z => ⟨fun _ => ⟨⟨by omega, by omega⟩, ⟨by omega, by omega, by omega, hw⟩, by dsimp only; omega⟩, fun _ => ⟨⟨by omega, by omega, by omega, hw⟩, by dsimp only; omega⟩⟩
      · refine ⟨fun k w => a ≤ k ∧ PermS u0 u s l w, fun k _ => (i - k).toNat, ⟨by omega, hw⟩, ?_⟩
        rintro k w ⟨k0, hw⟩
        refine ⟨⟨by omega, by omega⟩, fun hk => ?_, fun _ => hK w hw⟩
        obtain ⟨p, hp, x, y, hx, hy, c0, c1, d0, d1, hst⟩ := hw.at2 (x := k) (y := k + 1) (by omega) (by omega) (by omega) (by omega)
        refine ⟨⟨by omega, by omega⟩, ⟨by omega, by omega⟩, p, hp, ⟨by omega, by omega⟩, p, hp, ⟨by omega, by omega⟩, _, d0, _, d1, _, c0, _, c1, p, hp, ⟨by omega, by omega⟩, ?_⟩
        exact hst _ _ (fun v' hv' => ⟨⟨by omega, by omega⟩, ⟨by omega, hv'⟩, by dsimp only; omega⟩) fun v1 h1 => ⟨p, hp, ⟨by omega, by omega⟩, h1⟩
    · refine ⟨fun i j w => a ≤ i ∧ i ≤ j ∧ j ≤ m ∧ PermS u0 u s l w, fun i j _ => (j - i).toNat, ⟨by omega, by omega, by omega, h⟩, ?_⟩
      rintro i j w ⟨i0, ij, j1, hw⟩
      refine ⟨fun hij => ⟨⟨by omega, by omega⟩, by decide, ?_⟩, fun hij => ?_⟩
      · rw [mid_eq (by omega) (by omega) (by omega)]
        obtain ⟨c, hcc⟩ : ∃ c, c = (i + j) / 2 := ⟨_, rfl⟩
        rw [← hcc]
        obtain ⟨p, hp, x, y, hx, hy, c0, c1, d0, d1, _⟩ := hw.at2 (x := m) (y := c) (by omega) (by omega) (by omega) (by omega)
        refine ⟨p, hp, ⟨by omega, by omega⟩, p, hp, ⟨by omega, by omega⟩, _, c0, _, c1, _, d0, _, d1, ?_⟩
        refine hc x y w _ hx hy (hw.base hub hbs) fun z => ⟨fun _ => ⟨⟨by omega, by omega⟩, ⟨by omega, by omega, by omega, hw⟩, by dsimp only; omega⟩, fun _ => ⟨⟨by omega, by omega, by omega, hw⟩, by dsimp only; omega⟩⟩
      · refine ⟨fun k w => k ≤ m ∧ PermS u0 u s l w, fun k _ => (k - i).toNat, ⟨by omega, hw⟩, ?_⟩
        rintro k w ⟨k0, hw⟩
        refine ⟨fun hk => ?_, fun _ => hK w hw⟩
        obtain ⟨p, hp, x, y, hx, hy, c0, c1, d0, d1, hst⟩ := hw.at2 (x := k) (y := k - 1) (by omega) (by omega) (by omega) (by omega)
        refine ⟨⟨by omega, by omega⟩, ⟨by omega, by omega⟩, p, hp, ⟨by omega, by omega⟩, p, hp, ⟨by omega, by omega⟩, _, d0, _, d1, _, c0, _, c1, p, hp, ⟨by omega, by omega⟩, ?_⟩
        exact hst _ _ (fun v' hv' => ⟨⟨by omega, by omega⟩, ⟨by omega, hv'⟩, by dsimp only; omega⟩) fun v1 h1 => ⟨p, hp, ⟨by omega, by omega⟩, h1⟩
    · rw [mid_eq (by omega) (by omega) (by omega)]
      obtain ⟨mid, hmid⟩ : ∃ mid, mid = (a + b) / 2 := ⟨_, rfl⟩
      rw [← hmid]
      refine ⟨⟨by omega, by omega⟩, by decide, ⟨by omega, by omega⟩, ?_⟩
      intro K54 h54
      have body : ∀ s0 r0 : Int, a ≤ s0 → s0 ≤ r0 → r0 ≤ m → r0 ≤ mid → mid + m - b ≤ s0 → (m ≤ mid ∨ mid = r0) → K54 s0 r0 v := by
        intro s0 r0 q1 q2 q3 q4 q5 q6
        refine h54 s0 r0 v ⟨⟨by omega, by omega⟩, fun i j w => s0 ≤ i ∧ i ≤ j ∧ j ≤ r0 ∧ PermS u0 u s l w, fun i j _ => (j - i).toNat, ⟨by omega, by omega, by omega, h⟩, ?_⟩
        rintro i j w ⟨i0, ij, j1, hw⟩
        refine ⟨fun hij => ⟨⟨by omega, by omega⟩, by decide, ?_⟩, fun hij => ⟨⟨by omega, by omega⟩, ?_⟩⟩
        · rw [mid_eq (by omega) (by omega) (by omega)]
          obtain ⟨c, hcc⟩ : ∃ c, c = (i + j) / 2 := ⟨_, rfl⟩
          rw [← hcc]
          obtain ⟨p, hp, x, y, hx, hy, c0, c1, d0, d1, _⟩ := hw.at2 (x := mid + m - 1 - c) (y := c) (by omega) (by omega) (by omega) (by omega)
          refine ⟨⟨by omega, by omega⟩, p, hp, ⟨by omega, by omega⟩, p, hp, ⟨by omega, by omega⟩, _, c0, _, c1, _, d0, _, d1, ?_⟩
          refine hc x y w _ hx hy (hw.base hub hbs) fun z => ⟨fun _ => ⟨⟨by omega, by omega⟩, ⟨by omega, by omega, by omega, hw⟩, by dsimp only; omega⟩, fun _ => ⟨⟨by omega, by omega, by omega, hw⟩, by dsimp only; omega⟩⟩
        · intro K71 h71
          have fin : ∀ z, PermS u0 u s l z → K71 z := by
            intro z hz
            refine h71 z ?_
            intro K73 h73
            have fin2 : ∀ z, PermS u0 u s l z → K73 z := by
              intro z hz
              refine h73 z ⟨fun e1 => ⟨fun e2 => ?_, fun _ => hK z hz⟩, fun _ => hK z hz⟩
              exact ih (by omega) hz (by omega) (by omega) (by omega) (by omega) hK
            refine ⟨fun e1 => ⟨fun e2 => ?_, fun _ => fin2 z hz⟩, fun _ => fin2 z hz⟩
            exact ih (by omega) hz (by omega) (by omega) (by omega) (by omega) fin2
          refine ⟨fun e1 => ⟨fun e2 => ?_, fun _ => fin w hw⟩, fun _ => fin w hw⟩
          exact spec.rotateR hw hsm (by omega) (by omega) (by omega) (by omega) fin
      refine ⟨fun hlt => ⟨⟨by omega, by omega⟩, body _ _ (by omega) (by omega) (by omega) (by omega) (by omega) (by omega)⟩, fun hge => body _ _ (by omega) (by omega) (by omega) (by omega) (by omega) (by omega)⟩

theorem spec.slices_SortStableFunc__api_Row_ {ub u0 u : H} {s : Sl} {l : List Rw} {fv : Value} {K : H → Prop} (ho : OwnF u0 u 43 2 s (l.flatMap encR)) (hub : ub.le u) (hbs : ∀ b, s.blk = some b → ub b = none) (hc : CmpOk ub l fv) (hsm : l.length ≤ 1000000)
    (hK : ∀ (u' : H) (m : List Rw), m.Perm l → OwnF u0 u' 43 2 s (m.flatMap encR) → Else u u' s → K u') : C.slices_SortStableFunc__api_Row_ s fv u K := by
  have h : PermS u0 u s l u := ⟨Else.refl _ _, l, .refl _, ho⟩
  have hsn := h.len
  have fin : ∀ v, PermS u0 u s l v → K v := fun v ⟨he, m, hp, ho⟩ => hK v m hp ho he
  apply vc.slices_SortStableFunc__api_Row_
  apply vc.slices_stableCmpFunc_api_Row_
  refine ⟨fun a b w => 0 ≤ a ∧ a ≤ s.n ∧ b = a + 20 ∧ PermS u0 u s l w, fun a _ _ => ((s.n : Int) - a).toNat, ⟨by omega, by omega, by omega, h⟩, ?_⟩
  rintro a b w ⟨a0, a1, hb, hw⟩
  refine ⟨fun hle => ?_, fun hgt => ?_⟩
  · exact spec.insSort hub hbs hc hw hsm (by omega) (by omega) (by omega) fun v' hv' => ⟨⟨by omega, by omega⟩, ⟨by omega, by omega, by omega, hv'⟩, by dsimp only; omega⟩
  · refine spec.insSort hub hbs hc hw hsm (by omega) (by omega) (by omega) fun v' hv' => ?_
    refine ⟨fun _ _ k w => 20 ≤ k ∧ k ≤ 4000000 ∧ PermS u0 u s l w, fun _ _ k _ => (4000000 - k).toNat, ⟨by omega, by omega, hv'⟩, ?_⟩
    rintro _ _ k w ⟨k0, k1, hw⟩
    refine ⟨fun hk => ⟨⟨by omega, by omega⟩, ?_⟩, fun _ => fin w hw⟩
    refine ⟨fun x y w => 0 ≤ x ∧ x ≤ s.n ∧ y = x + 2 * k ∧ PermS u0 u s l w, fun x _ _ => ((s.n : Int) - x).toNat, ⟨by omega, by omega, by omega, hw⟩, ?_⟩
    rintro x y w ⟨x0, x1, hy, hw⟩
    refine ⟨fun hle => ⟨⟨by omega, by omega⟩, ?_⟩, fun hgt => ⟨⟨by omega, by omega⟩, fun hm => ?_, fun _ => ⟨⟨by omega, by omega⟩, ⟨by omega, by omega, hw⟩, by dsimp only; omega⟩⟩⟩
    · exact spec.symMerge hub hbs hc hsm (y - x).toNat (by omega) hw (by omega) (by omega) (by omega) (by omega) fun v' hv' => ⟨⟨by omega, by omega⟩, ⟨by omega, by omega⟩, ⟨by omega, by omega, by omega, hv'⟩, by dsimp only; omega⟩
    · exact spec.symMerge hub hbs hc hsm ((s.n : Int) - x).toNat (by omega) hw (by omega) (by omega) (by omega) (by omega) fun v' hv' => ⟨⟨by omega, by omega⟩, ⟨by omega, by omega, hv'⟩, by dsimp only; omega⟩

end Go.Proofs.YtncninpdlpemgaaGreat

/- VcKd0 -/
namespace Go.Proofs.YtncninpdlpemgaaGreat

theorem Rok.mix {l m : List Rw} {d : Int} (h : Rok l d) (hp : m.Perm l) : Rok m d :=
  ⟨h.dim, by rw [hp.length_eq]; exact h.len, fun r hr => h.id r (hp.mem_iff.1 hr), (hp.map _).nodup_iff.2 h.nodup, fun r hr => h.v r (hp.mem_iff.1 hr)⟩

theorem own_blk {u : H} {e k : Nat} {s : Sl} {xs : List Value} (h : Own u e k s xs) {g : Nat} (hg : s.blk = some g) : u g ≠ none := own_known h.f hg

/-- What a cut of rows leaves: parts of their own. -/
structure CutR (ub u : H) (s : Sl) (l : List Rw) (d : Int) (u' : H) (n : PN) : Prop where
  one : ∀ x ∈ n.heads, PhAt u' x
  nodup : n.own.Nodup
  out : ∀ c ∈ n.own, ub c = none ∧ u' c ≠ none
  all : n.pt.all.Perm (l.map Rw.pr)
  ok : PtOk d n.pt
  rows : ∀ x ∈ n.heads, ∀ r ∈ x.1.rows, r ∈ l
  size : n.heads.length + 1 ≤ 2 * l.length
  else' : ∀ c o, u c = some o → s.blk ≠ some c → u' c = some o

namespace Kd
theorem bCut : hasBody Tryz.prog 70 = true := by kernel_rfl
theorem bCmp : hasBody Tryz.prog 73 = true := by kernel_rfl
theorem build_kids (a b : Nat) : buildOf Tryz.prog 92 2 #[(0, .pointer (some ⟨a, 0, none⟩)), (1, .pointer (some ⟨b, 0, none⟩))] = some (83, [.pointer (some ⟨a, 0, none⟩), .pointer (some ⟨b, 0, none⟩)]) := by kernel_rfl

abbrev cutV (n0 n1 : Nat) : Value := .func (.func 70) #[] #[.pointer (some ⟨n0, 0, none⟩), .pointer (some ⟨n1, 0, none⟩)]

/-- What a cut looks at. -/
structure CutIn (ub : H) (n0 n1 tb : Nat) (d leaf : Int) : Prop where
  c0 : ub.cell? ⟨n0, 0, none⟩ = some (.pointer (some ⟨tb, 0, none⟩))
  c1 : ub.cell? ⟨n1, 0, none⟩ = some (cutV n0 n1)
  td : ub.cell? ⟨tb, 0, none⟩ = some (.int .i64 d)
  tl : ub.cell? ((Addr.mk tb 0 none).add 1) = some (.int .i64 leaf)

theorem CutIn.mono {ub u : H} {n0 n1 tb : Nat} {d leaf : Int} (h : CutIn ub n0 n1 tb d leaf) (k : ub.le u) : CutIn u n0 n1 tb d leaf := ⟨H.le.cell k h.c0, H.le.cell k h.c1, H.le.cell k h.td, H.le.cell k h.tl⟩

/-- The widest of a box. -/
theorem cut_cmp {ub : H} {n11 : Nat} {wd : Int} {l : List Rw} {d : Int} (hc : ub.cell? ⟨n11, 0, none⟩ = some (.int .i64 wd)) (h0 : 0 ≤ wd) (h1 : wd < d) (hv : ∀ r ∈ l, Ints ub r.s r.v) (hok : Rok l d) :
    CmpOk ub l (.func (.func 73) #[] #[.pointer (some ⟨n11, 0, none⟩)]) := by
  intro a b v K ha hb hle hK
  refine ⟨_, _, _, rfl, bodyOf bCmp, vc.kdtree_Tree__cut_1_1 a.id a.s b.id b.s ⟨n11, 0, none⟩ v K ?_⟩
  have va := (hv a ha).mono hle
  have vb := (hv b hb).mono hle
  obtain ⟨a1, a2⟩ := hok.v a ha
  obtain ⟨b1, b2⟩ := hok.v b hb
  have an := va.len
  have bn := vb.len
  obtain ⟨p, hp, hx⟩ := va.at (x := wd) h0 (by omega)
  obtain ⟨q, hq, hy⟩ := vb.at (x := wd) h0 (by omega)
  have e1 := a2.2 wd.toNat (by omega)
  have e2 := b2.2 wd.toNat (by omega)
  have cc := H.le.cell hle hc
  exact ⟨wd, cc, p, hp, ⟨h0, by omega⟩, _, hx, wd, cc, q, hq, ⟨h0, by omega⟩, _, hy, ⟨by have := e1.1; have := e1.2; have := e2.1; have := e2.2; omega, by have := e1.1; have := e1.2; have := e2.1; have := e2.2; omega⟩, hK _⟩

theorem spec.cut1 {n0 n1 tb : Nat} {d leaf : Int} (hlf : 1 ≤ leaf) : ∀ (N : Nat) {ub u : H} {s : Sl} {l : List Rw} {K : Option Addr → H → Prop}, l.length ≤ N → CutIn ub n0 n1 tb d leaf → OwnF ub u 43 2 s (l.flatMap encR) → (∀ r ∈ l, Ints ub r.s r.v) → Rok l d →
    (l = [] → K none u) → (l ≠ [] → ∀ u' n, CutR ub u s l d u' n → PtSh 2 n.pt → K (some ⟨n.b, 0, none⟩) u') → C.kdtree_Tree__cut_1 s ⟨n0, 0, none⟩ ⟨n1, 0, none⟩ u K := by
  intro N
  induction N with
  | zero =>
    intro ub u s l K hN hin ho hv hok h0 _
    have hl : l = [] := List.eq_nil_of_length_eq_zero (by omega)
    have hsn : s.n = l.length := flat_n encR_len (by decide) ho.own.seg
    apply vc.kdtree_Tree__cut_1
    refine ⟨fun _ => h0 hl, fun hne => absurd (by rw [hsn, hl]; rfl) hne⟩
  | succ N ih =>
    intro ub u s l K hN hin ho hv hok h0 hK
    have hsn : s.n = l.length := flat_n encR_len (by decide) ho.own.seg
    have hd := hok.dim
    have h512 := hok.len
    apply vc.kdtree_Tree__cut_1
    refine ⟨fun hz => h0 (List.eq_nil_of_length_eq_zero (by omega)), fun hnz => ?_⟩
    have hne : l ≠ [] := fun e => hnz (by rw [hsn, e]; rfl)
    have hK := hK hne
    have hub := ho.le
    have hR : Rws u s l := ⟨ho.own.seg, fun r hr => (hv r hr).mono hub⟩
    refine ⟨_, H.le.cell hub hin.c0, _, rfl, d, H.le.cell hub hin.td, ?_⟩
    refine spec.vec_Box hR hok hne fun sl sh si u10 h1 h2 h3 f1 f2 f3 => ?_
    obtain ⟨b1, b2, b3, b4, b5, b6⟩ := box_ok hok hne
    have le10 : u.le u10 := h1.le
    have hln : sl.n = (boxLo l).length := h1.ints.len
    have hgn : sh.n = (boxHi l).length := h2.ints.len
    intro n11 hn11
    refine st_new (zs := [.int .i64 0]) rfl (by simp [Value.oneCell']) ?_
    have l11 := H.le_ins (u := u10) (b := n11) (.cells [Value.int .i64 0].toArray 3 (0, 0)) hn11
    have hub11 : ub n11 = none := hub.none (le10.none hn11)
    -- the widest
    refine ⟨fun x w => 0 ≤ x ∧ u10.le w ∧ ∃ wd : Int, 0 ≤ wd ∧ wd < d ∧ w n11 = some (.cells #[.int .i64 wd] 3 (0, 0)), fun x _ => (d - x).toNat, ⟨by omega, l11, 0, by omega, by omega, H.ins_same _ _ _⟩, ?_⟩
    rintro x w ⟨x0, lw, wd, w0, w1, hw⟩
    have cw : w.cell? ⟨n11, 0, none⟩ = some (.int .i64 wd) := H.cell?_of hw 0
    have hlo := (h1.mono lw).ints
    have hhi := (h2.mono lw).ints
    have bd : ∀ {v : List Int} {i : Nat}, vok v → i < v.length → -2147483647 ≤ v.getD i 0 ∧ v.getD i 0 ≤ 2147483647 := fun hv hi => hv.2 _ hi
    obtain ⟨q2, hq2, hc2⟩ := hhi.at (x := wd) w0 (by omega)
    obtain ⟨q1, hq1, hc1⟩ := hlo.at (x := wd) w0 (by omega)
    have g3 := bd b3 (i := wd.toNat) (by omega)
    have g4 := bd b4 (i := wd.toNat) (by omega)
    refine ⟨fun hx => ?_, fun hx => ?_⟩
    · obtain ⟨p1, hp1, hd1⟩ := hlo.at (x := x) x0 hx
      obtain ⟨p2, hp2, hd2⟩ := hhi.at (x := x) x0 (by omega)
      have g1 := bd b3 (i := x.toNat) (by omega)
      have g2 := bd b4 (i := x.toNat) (by omega)
      refine ⟨p2, hp2, ⟨x0, by omega⟩, _, hd2, p1, hp1, ⟨x0, hx⟩, _, hd1, ⟨by omega, by omega⟩, wd, cw, q2, hq2, ⟨w0, by omega⟩, _, hc2, wd, cw, q1, hq1, ⟨w0, by omega⟩, _, hc1, ⟨by omega, by omega⟩, fun _ => ?_, fun _ => ⟨⟨by omega, by omega⟩, ⟨by omega, lw, wd, w0, w1, hw⟩, by dsimp only; omega⟩⟩
      refine st_one hw (by simp [Value.oneCell']) ⟨⟨by omega, by omega⟩, ⟨by omega, fun c o hc => ?_, x, x0, by omega, H.ins_same _ _ _⟩, by dsimp only; omega⟩
      rw [H.ins_other _ _ (fun e => by rw [e, hn11] at hc; cases hc)]
      exact lw c o hc
    -- a leaf, or two kids
    · have luw : u.le w := le10.trans lw
      have hubw : ub.le w := hub.trans luw
      intro K28 h28
      have reg : ∀ kids : List Pt, RegOk ((Pt.mk 2 (boxLo l) (boxHi l) 0 (l.map Rw.pr) kids).rgn []) d ∧ ∀ rows : List Prw, RegOk ((Pt.mk 2 (boxLo l) (boxHi l) 0 rows kids).rgn []) d := fun kids =>
        ⟨⟨hd, List.Pairwise.nil, fun x hx => (by cases hx), .inr (.inl ⟨rfl, rfl, b3, b4, b1, b2, b5⟩)⟩, fun rows => ⟨hd, List.Pairwise.nil, fun x hx => (by cases hx), .inr (.inl ⟨rfl, rfl, b3, b4, b1, b2, b5⟩)⟩⟩
      have ins : ∀ rows kids, ∀ z ∈ l.map Rw.pr, Inside ((Pt.mk 2 (boxLo l) (boxHi l) 0 rows kids).rgn []) z.2 := fun rows kids z hz => by
        obtain ⟨r, hr, rfl⟩ := List.mem_map.1 hz
        refine ⟨fun _ i hi => b6 r hr i ?_, fun h => (by cases h)⟩
        have := (hok.v r hr).1
        have hi' : i < r.v.length := hi
        omega
      have leafc : K28 true w := by
        refine h28 true w ⟨fun _ n31 hn31 => ?_, fun e => (by cases e)⟩
        obtain ⟨hd31, hhd⟩ : ∃ hh : PH, hh = ⟨n31, 2, sl, sh, boxLo l, boxHi l, 0, s, l, ⟨none, 0, 0⟩⟩ := ⟨_, rfl⟩
        have l31 := H.le_ins (u := w) (b := n31) (.cells (partC hd31).toArray 94 (0, 0)) hn31
        have key := hK (w.ins n31 (.cells (partC hd31).toArray 94 (0, 0))) (.mk hd31 [])
        have sk : ∀ g, s.blk = some g → u g ≠ none := fun g hg => own_known ho hg
        have hne31 : ∀ {t : Sl}, (∀ g, t.blk = some g → w g ≠ none) → ∀ g, t.blk = some g → g ≠ n31 := fun ht g hg e => ht g hg (by rw [e]; exact hn31)
        have kl : ∀ g, sl.blk = some g → w g ≠ none := fun g hg => own_known (h1.mono lw) hg
        have kg : ∀ g, sh.blk = some g → w g ≠ none := fun g hg => own_known (h2.mono lw) hg
        have ks : ∀ g, s.blk = some g → w g ≠ none := fun g hg => own_known (ho.mono luw) hg
        have hown : (PN.mk hd31 []).own = n31 :: (sl.blk.toList ++ sh.blk.toList ++ s.blk.toList) := by
          rw [PN.own_eq, hhd]
          simp [PN.h, PN.kids, PH.blks, Sl.blk]
        refine (show K (some ⟨n31, 0, none⟩) _ from ?_)
        have hcell : (Obj.cells #[.int .i64 2, .slice sl.a sl.n sl.c, .slice sh.a sh.n sh.c, .int .u64 0, .int .u64 0, .slice none 0 0, .slice s.a s.n s.c, .slice none 0 0] 94 (0, 0)) = .cells (partC hd31).toArray 94 (0, 0) := by rw [hhd]; rfl
        rw [hcell]
        have hb31 : (PN.mk hd31 []).b = n31 := by rw [hhd]; rfl
        rw [hb31] at key
        refine key ⟨fun y hy => ?_, ?_, fun c hc => ?_, ?_, ?_, fun y hy r hr => ?_, ?_, fun c o hc hne' => l31 c o (luw c o hc)⟩ (by rw [PN.pt_eq, hhd]; exact .mk rfl fun k hk => (by cases hk))
        · rw [PN.heads_eq] at hy
          obtain rfl : y = (hd31, []) := by simpa [PN.h, PN.kids] using hy
          subst hhd
          exact ⟨H.ins_same _ _ _, ((h1.mono lw).mono l31).own, ((h2.mono lw).mono l31).own, ((ho.mono luw).mono l31).own, fun r hr => (hv r hr).mono (hubw.trans l31), ⟨rfl, Nat.le_refl _, by show 0 ≤ 9223372036854775807; omega, .inl rfl⟩⟩
        · rw [hown, List.nodup_cons]
          refine ⟨fun hm => ?_, ?_⟩
          · simp only [List.mem_append, Option.mem_toList] at hm
            rcases hm with (hm | hm) | hm
            · exact hne31 kl n31 hm rfl
            · exact hne31 kg n31 hm rfl
            · exact hne31 ks n31 hm rfl
          · have o1 : ∀ o : Option Nat, o.toList.Nodup := fun o => by cases o <;> simp
            rw [List.nodup_append, List.nodup_append]
            refine ⟨⟨o1 _, o1 _, fun a ha b hb e => ?_⟩, o1 _, fun a ha b hb e => ?_⟩
            · rw [Option.mem_toList] at ha hb
              exact f1 (by rw [ha, hb, e])
            · rw [Option.mem_toList] at hb
              simp only [List.mem_append, Option.mem_toList] at ha
              subst e
              rcases ha with ha | ha
              · exact sk a hb (h1.fresh a ha)
              · exact sk a hb (h2.fresh a ha)
        · rw [hown] at hc
          simp only [List.mem_cons, List.mem_append, Option.mem_toList] at hc
          rcases hc with rfl | (hc | hc) | hc
          · exact ⟨hubw.none hn31, by rw [H.ins_same]; simp⟩
          · exact ⟨hub.none (h1.fresh c hc), fun e => kl c hc (l31.none e)⟩
          · exact ⟨hub.none (h2.fresh c hc), fun e => kg c hc (l31.none e)⟩
          · exact ⟨ho.fresh c hc, fun e => ks c hc (l31.none e)⟩
        · rw [PN.pt_all, PN.heads_eq]
          subst hhd
          simp [PN.h, PN.kids]
        · rw [PN.pt_eq]
          subst hhd
          refine .mk (reg []).1 (fun z hz => ins _ _ z ?_) fun k hk => (by cases hk)
          rw [Pt.all_eq] at hz
          have hz' : z ∈ l.map Rw.pr ++ [] := hz
          rwa [List.append_nil] at hz'
        · rw [PN.heads_eq] at hy
          obtain rfl : y = (hd31, []) := by simpa [PN.h, PN.kids] using hy
          subst hhd
          exact hr
        · rw [PN.heads_eq]
          have := List.length_pos_iff.2 hne
          simp [PN.kids]
          omega
      have inner : leaf < s.n → K28 false w := by
        intro hlt
        refine h28 false w ⟨fun e => (by cases e), fun _ => ?_⟩
        obtain ⟨ubS, hubS⟩ : ∃ ubS : H, ubS = fun c => if c = n11 then w n11 else ub c := ⟨_, rfl⟩
        have uS1 : ubS n11 = w n11 := by rw [hubS]; exact if_pos rfl
        have uS2 : ∀ {c}, c ≠ n11 → ubS c = ub c := fun {c} hc => by rw [hubS]; exact if_neg hc
        have lS : ub.le ubS := fun c o hc => by rw [uS2 (fun e => by rw [e, hub11] at hc; cases hc)]; exact hc
        have lSw : ubS.le w := fun c o hc => by
          by_cases e : c = n11
          · rw [e, uS1] at hc; rw [e]; exact hc
          · rw [uS2 e] at hc; exact hubw c o hc
        have hsS : ∀ b, s.blk = some b → ubS b = none := fun b hb => by
          rw [uS2 (fun e => own_known ho hb (by rw [e]; exact le10.none hn11))]
          exact ho.fresh b hb
        have cS : ubS.cell? ⟨n11, 0, none⟩ = some (.int .i64 wd) := H.cell?_of (uS1.trans hw) 0
        refine spec.slices_SortStableFunc__api_Row_ (ho.mono luw) lSw hsS (cut_cmp cS w0 w1 (fun r hr => (hv r hr).mono lS) hok) (by omega) fun u32 m hp hom he32 => ?_
        have hml := hp.length_eq
        have hubu : ub.le u32 := fun c o hc => he32 c o (hubw c o hc) fun e => by have := ho.fresh c e; rw [hc] at this; cases this
        have hmok : Rok m d := hok.mix hp
        have hmv : ∀ r ∈ m, Ints ub r.s r.v := fun r hr => hv r (hp.mem_iff.1 hr)
        have hin32 := hin.mono hubu
        have hRm : Rws u32 s m := ⟨hom.own.seg, fun r hr => (hmv r hr).mono hubu⟩
        have hcap := Seg.cap hom.own.seg
        obtain ⟨mid, hmid⟩ : ∃ mid : Nat, mid = s.n / 2 := ⟨_, rfl⟩
        have emid : Int.tdiv (s.n : Int) 2 = (mid : Int) := by rw [Int.tdiv_eq_ediv_of_nonneg (by omega)]; omega
        rw [emid]
        have hL : Rws u32 (s.part 0 mid s.c 2) (m.take mid) := by
          have := hRm.part (l := 0) (h := mid) (m := s.c) (by omega) (by omega) (by omega) (Nat.le_refl _)
          simpa using this
        have hRr : Rws u32 (s.part mid s.n s.c 2) (m.drop mid) := by
          have := hRm.part (l := mid) (h := s.n) (m := s.c) (by omega) (Nat.le_refl _) hcap (Nat.le_refl _)
          rwa [List.take_of_length_le (by rw [List.length_drop]; omega)] at this
        have slL : ∀ {z : H} {Q : Sl → H → Prop}, Q (s.part 0 mid s.c 2) z → SemT Tryz.prog (Instr.sliceAt 22 (.slice s.a s.n s.c) none (some (.int .i64 (mid : Int))) none) [.one .slice] z Q := fun hQ =>
          sem_slice (P := Tryz.prog) tRows (l := 0) (h := mid) (m := s.c) (.inl ⟨rfl, rfl⟩) (.inr rfl) (.inl ⟨rfl, rfl⟩) (by omega) (by omega) (Nat.le_refl _) hcap hQ
        have slR : ∀ {z : H} {Q : Sl → H → Prop}, Q (s.part mid s.n s.c 2) z → SemT Tryz.prog (Instr.sliceAt 22 (.slice s.a s.n s.c) (some (.int .i64 (mid : Int))) none none) [.one .slice] z Q := fun hQ =>
          sem_slice (P := Tryz.prog) tRows (l := mid) (h := s.n) (m := s.c) (.inr rfl) (.inl ⟨rfl, rfl⟩) (.inl ⟨rfl, rfl⟩) (by omega) hcap (Nat.le_refl _) hcap hQ
        have hl1 : (m.take mid).length = mid := by rw [List.length_take]; omega
        have hl2 : (m.drop mid).length = m.length - mid := by rw [List.length_drop]
        have hne1 : m.take mid ≠ [] := fun e => by rw [e] at hl1; simp at hl1; omega
        have hne2 : m.drop mid ≠ [] := fun e => by rw [e] at hl2; simp at hl2; omega
        -- a kid is cut
        have recK : ∀ {z z' : H} {t : Sl} {k : List Rw} {Q : Option Addr → H → Prop}, u32.le z → OwnF z z' 43 2 t (k.flatMap encR) → k ≠ [] → k.length ≤ N → k.Sublist m → (∀ u' n, CutR z z' t k d u' n → PtSh 2 n.pt → z.le u' → Q (some ⟨n.b, 0, none⟩) u') →
            ClV Tryz.prog (cutV n0 n1) #[.slice t.a t.n t.c] [.one .ptr] z' Q := fun {z z' t k Q} hz hot hk hkN hkm hQ =>
          ⟨_, _, _, rfl, bodyOf bCut, ih hkN (hin32.mono hz) hot (fun r hr => (hmv r (hkm.mem hr)).mono (hubu.trans hz)) (hmok.sub hkm) (fun e => absurd e hk) fun _ u' n hc hsh => hQ u' n hc hsh fun c o ho' => hc.else' c o (hot.le c o ho') fun e => by have := hot.fresh c e; rw [ho'] at this; cases this⟩
        -- behind the first kid
        have own1 : Own u32 3 1 sl ((boxLo l).flatMap encI) := (h1.mono lw).own.le fun c o hc ho' => he32 c o ho' fun e => own_known ho e (h1.fresh c hc)
        have own2 : Own u32 3 1 sh ((boxHi l).flatMap encI) := (h2.mono lw).own.le fun c o hc ho' => he32 c o ho' fun e => own_known ho e (h2.fresh c hc)
        have second : ∀ {z z1 : H} {t : Sl} {na : PN}, u32.le z → CutR u32 z1 t (m.take mid) d z na → PtSh 2 na.pt → C.slices_Clone__api_Row_ (s.part mid s.n s.c 2) z (fun (s43 : Sl) (u44 : H) => (H.le u32 u44) ∧ (ClV Tryz.prog (cutV n0 n1) #[.slice s43.a s43.n s43.c] [.one .ptr] u44 (fun (p45 : Option Addr) (u46 : H) => (H.le u32 u46) ∧ (SemT Tryz.prog (Instr.buildSlice 92 2 #[(0, .pointer (some ⟨na.b, 0, none⟩)), (1, .pointer p45)]) [.one .slice] u46 (fun (s47 : Sl) (u48 : H) => (H.le u32 u48) ∧ (∀ n49 : Nat, (u48 n49 = none) → K (some ⟨n49, 0, none⟩) (u48.ins n49 (.cells #[.int .i64 2, .slice sl.a sl.n sl.c, .slice sh.a sh.n sh.c, .int .u64 0, .int .u64 0, .slice none 0 0, .slice none 0 0, .slice s47.a s47.n s47.c] 94 (0, 0))))))))) := by
          intro z z1 t na hz hc hsa
          refine spec.slices_Clone__api_Row_ (hRr.1.mono hz) (by show s.n - mid ≤ _; omega) fun s43 u44 ho44 _ => ⟨hz.trans ho44.le, recK hz ho44 hne2 (by omega) (List.drop_sublist _ _) fun u46 nb hb hsb l46 => ⟨hz.trans l46, ?_⟩⟩
          refine sem_build (build_kids na.b nb.b) fun g hg => ?_
          have l48 := H.le_ins (u := u46) (b := g) (.cells [Value.pointer (some ⟨na.b, 0, none⟩), .pointer (some ⟨nb.b, 0, none⟩)].toArray 83 (0, 0)) hg
          have mk := OwnF.make (k := 1) (H.le.refl u46) hg (cells := [Value.pointer (some ⟨na.b, 0, none⟩), .pointer (some ⟨nb.b, 0, none⟩)].toArray) (e := 83) (n := 2) (by omega) rfl
          obtain ⟨u48, hu48⟩ : ∃ u48, u48 = u46.ins g (.cells [Value.pointer (some ⟨na.b, 0, none⟩), .pointer (some ⟨nb.b, 0, none⟩)].toArray 83 (0, 0)) := ⟨_, rfl⟩
          have hg48 : u48 g ≠ none := by rw [hu48, H.ins_same]; simp
          rw [← hu48] at l48 mk ⊢
          refine ⟨(hz.trans l46).trans l48, fun n49 hn49 => ?_⟩
          obtain ⟨hd4, hhd⟩ : ∃ hh : PH, hh = ⟨n49, 2, sl, sh, boxLo l, boxHi l, 0, ⟨none, 0, 0⟩, [], ⟨some ⟨g, 0, none⟩, 2, 2⟩⟩ := ⟨_, rfl⟩
          have hcell : (Obj.cells #[.int .i64 2, .slice sl.a sl.n sl.c, .slice sh.a sh.n sh.c, .int .u64 0, .int .u64 0, .slice none 0 0, .slice none 0 0, .slice (some ⟨g, 0, none⟩) 2 2] 94 (0, 0)) = .cells (partC hd4).toArray 94 (0, 0) := by rw [hhd]; rfl
          show K (some ⟨n49, 0, none⟩) (u48.ins n49 (Obj.cells #[.int .i64 2, .slice sl.a sl.n sl.c, .slice sh.a sh.n sh.c, .int .u64 0, .int .u64 0, .slice none 0 0, .slice none 0 0, .slice (some ⟨g, 0, none⟩) 2 2] 94 (0, 0)))
          rw [hcell]
          have l49 := H.le_ins (u := u48) (b := n49) (.cells (partC hd4).toArray 94 (0, 0)) hn49
          have key := hK (u48.ins n49 (.cells (partC hd4).toArray 94 (0, 0))) (.mk hd4 [na, nb])
          have hb4 : (PN.mk hd4 [na, nb]).b = n49 := by rw [hhd]; rfl
          rw [hb4] at key
          have l3249 : u32.le (u48.ins n49 (.cells (partC hd4).toArray 94 (0, 0))) := ((hz.trans l46).trans l48).trans l49
          have kl : ∀ c, sl.blk = some c → u32 c ≠ none := fun c hc => own_blk own1 hc
          have kg : ∀ c, sh.blk = some c → u32 c ≠ none := fun c hc => own_blk own2 hc
          have kz : ∀ {c}, u32 c ≠ none → z c ≠ none := fun hc e => hc (hz.none e)
          have k46 : ∀ {c}, z c ≠ none → u46 c ≠ none := fun hc e => hc (l46.none e)
          have k48 : ∀ {c}, u46 c ≠ none → u48 c ≠ none := fun hc e => hc (l48.none e)
          have k49 : ∀ {c}, u48 c ≠ none → (u48.ins n49 (.cells (partC hd4).toArray 94 (0, 0))) c ≠ none := fun hc e => hc (l49.none e)
          have hown : (PN.mk hd4 [na, nb]).own = n49 :: ((sl.blk.toList ++ sh.blk.toList ++ [g]) ++ (na.own ++ nb.own)) := by
            rw [PN.own_eq, hhd]
            simp [PN.h, PN.kids, PH.blks, Sl.blk]
          have hheads : (PN.mk hd4 [na, nb]).heads = (hd4, [na.b, nb.b]) :: (na.heads ++ nb.heads) := by
            rw [PN.heads_eq]
            simp [PN.h, PN.kids]
          have kall : ∀ c ∈ (sl.blk.toList ++ sh.blk.toList ++ [g]) ++ (na.own ++ nb.own), ub c = none ∧ u48 c ≠ none := fun c hcm => by
            simp only [List.mem_append, Option.mem_toList, List.mem_singleton] at hcm
            rcases hcm with ((hcm | hcm) | rfl) | hcm | hcm
            · exact ⟨hub.none (h1.fresh c hcm), k48 (k46 (kz (kl c hcm)))⟩
            · exact ⟨hub.none (h2.fresh c hcm), k48 (k46 (kz (kg c hcm)))⟩
            · exact ⟨hubu.none (hz.none (l46.none hg)), hg48⟩
            · exact ⟨hubu.none (hc.out c hcm).1, k48 (k46 (hc.out c hcm).2)⟩
            · exact ⟨hubu.none (hz.none (hb.out c hcm).1), k48 (hb.out c hcm).2⟩
          refine key ⟨fun y hy => ?_, ?_, fun c hcm => ?_, ?_, ?_, fun y hy r hr => ?_, ?_, fun c o hcu hne' => l3249 c o (he32 c o (luw c o hcu) hne')⟩ (by
            rw [PN.pt_eq, hhd]
            refine .mk rfl fun k hk => ?_
            have hk' : k ∈ [na.pt, nb.pt] := hk
            simp only [List.mem_cons, List.not_mem_nil, or_false] at hk'
            rcases hk' with rfl | rfl
            · exact hsa
            · exact hsb)
          · rw [hheads] at hy
            rcases List.mem_cons.1 hy with rfl | hy
            · subst hhd
              exact ⟨H.ins_same _ _ _, own1.le fun c o _ ho' => l3249 c o ho', own2.le fun c o _ ho' => l3249 c o ho', Own.nil _ _ _, fun r hr => (by cases hr), (mk.mono l49).own.seg⟩
            · rcases List.mem_append.1 hy with hy | hy
              · exact (hc.one y hy).keep (fun c o _ ho' => l49 c o (l48 c o (l46 c o ho'))) fun r hr => (hmv r (List.mem_of_mem_take (hc.rows y hy r hr))).mono (hubu.trans l3249)
              · exact (hb.one y hy).keep (fun c o _ ho' => l49 c o (l48 c o ho')) fun r hr => (hmv r (List.mem_of_mem_drop (hb.rows y hy r hr))).mono (hubu.trans l3249)
          · rw [hown, List.nodup_cons]
            refine ⟨fun hm => (kall n49 hm).2 hn49, ?_⟩
            have o1 : ∀ o : Option Nat, o.toList.Nodup := fun o => by cases o <;> simp
            rw [List.nodup_append, List.nodup_append, List.nodup_append, List.nodup_append]
            refine ⟨⟨⟨o1 _, o1 _, fun a ha b hb' e => ?_⟩, by simp, fun a ha b hb' e => ?_⟩, ⟨hc.nodup, hb.nodup, fun a ha b hb' e => ?_⟩, fun a ha b hb' e => ?_⟩
            · rw [Option.mem_toList] at ha hb'
              exact f1 (by rw [ha, hb', e])
            · rw [List.mem_singleton] at hb'
              simp only [List.mem_append, Option.mem_toList] at ha
              rw [← e] at hb'
              subst hb'
              rcases ha with ha | ha
              · exact k46 (kz (kl _ ha)) hg
              · exact k46 (kz (kg _ ha)) hg
            · subst e
              exact (hc.out a ha).2 (hb.out a hb').1
            · subst e
              simp only [List.mem_append, Option.mem_toList, List.mem_singleton] at ha hb'
              rcases ha with (ha | ha) | rfl
              · rcases hb' with hb' | hb'
                · exact kl a ha (hc.out a hb').1
                · exact kz (kl a ha) (hb.out a hb').1
              · rcases hb' with hb' | hb'
                · exact kg a ha (hc.out a hb').1
                · exact kz (kg a ha) (hb.out a hb').1
              · rcases hb' with hb' | hb'
                · exact k46 (hc.out a hb').2 hg
                · exact (hb.out a hb').2 hg
          · rw [hown] at hcm
            rcases List.mem_cons.1 hcm with rfl | hcm
            · exact ⟨hubu.none (((hz.trans l46).trans l48).none hn49), by rw [H.ins_same]; simp⟩
            · exact ⟨(kall c hcm).1, k49 (kall c hcm).2⟩
          · rw [PN.pt_eq, Pt.all_eq, hhd]
            show ([] ++ Pt.allL ([na, nb].map PN.pt)).Perm _
            rw [List.nil_append]
            show (na.pt.all ++ (nb.pt.all ++ [])).Perm _
            rw [List.append_nil]
            refine (hc.all.append hb.all).trans ?_
            rw [← List.map_append, List.take_append_drop]
            exact hp.map _
          · rw [PN.pt_eq]
            have hall : ∀ x, x ∈ (Pt.mk hd4.sh hd4.lo hd4.hi hd4.rad (hd4.rows.map Rw.pr) ([na, nb].map PN.pt)).all → x ∈ l.map Rw.pr := fun x hx => by
              rw [Pt.all_eq] at hx
              subst hhd
              have hx' : x ∈ [] ++ (na.pt.all ++ (nb.pt.all ++ [])) := hx
              rw [List.nil_append, List.append_nil] at hx'
              refine (hp.map Rw.pr).mem_iff.1 ?_
              rcases List.mem_append.1 hx' with hx' | hx'
              · obtain ⟨r, hr, rfl⟩ := List.mem_map.1 (hc.all.mem_iff.1 hx')
                exact List.mem_map_of_mem (List.mem_of_mem_take hr)
              · obtain ⟨r, hr, rfl⟩ := List.mem_map.1 (hb.all.mem_iff.1 hx')
                exact List.mem_map_of_mem (List.mem_of_mem_drop hr)
            subst hhd
            refine .mk ((reg []).2 []) (fun x hx => ins [] [] x (hall x hx)) fun k hk => ?_
            have hk' : k ∈ [na.pt, nb.pt] := hk
            simp only [List.mem_cons, List.not_mem_nil, or_false] at hk'
            rcases hk' with rfl | rfl
            · exact hc.ok
            · exact hb.ok
          · rw [hheads] at hy
            rcases List.mem_cons.1 hy with rfl | hy
            · subst hhd; cases hr
            · rcases List.mem_append.1 hy with hy | hy
              · exact hp.mem_iff.1 (List.mem_of_mem_take (hc.rows y hy r hr))
              · exact hp.mem_iff.1 (List.mem_of_mem_drop (hb.rows y hy r hr))
          · rw [hheads, List.length_cons, List.length_append]
            have e1 := hc.size
            have e2 := hb.size
            omega
        have left : ∀ {z : H} {Q : Sl → H → Prop}, u32.le z → (∀ t z', OwnF z z' 43 2 t ((m.take mid).flatMap encR) → Q t z') → C.slices_Clone__api_Row_ (s.part 0 mid s.c 2) z Q := fun {z Q} hz hQ =>
          spec.slices_Clone__api_Row_ (hL.1.mono hz) (by show mid - 0 ≤ _; omega) fun s' u' ho' _ => hQ s' u' ho'
        have v := H.le.cell hubu hin.c1
        refine ⟨by decide, ⟨by omega, by omega⟩, _, v, _, v, ?_, ?_⟩
        · refine slL ⟨H.le.refl _, left (H.le.refl _) fun t z' hot => ⟨hot.le, ?_, ?_⟩, ?_⟩
          · refine recK (H.le.refl _) hot hne1 (by omega) (List.take_sublist _ _) fun u' na hc hsa hle => ⟨hle, slR ⟨hle, second hle hc hsa⟩⟩
          · refine slR ⟨hot.le, recK (H.le.refl _) hot hne1 (by omega) (List.take_sublist _ _) fun u' na hc hsa hle => ⟨hle, second hle hc hsa⟩⟩
          · refine slR ⟨H.le.refl _, left (H.le.refl _) fun t z' hot => ⟨hot.le, recK (H.le.refl _) hot hne1 (by omega) (List.take_sublist _ _) fun u' na hc hsa hle => ⟨hle, second hle hc hsa⟩⟩⟩
        · refine slR ⟨H.le.refl _, slL ⟨H.le.refl _, left (H.le.refl _) fun t z' hot => ⟨hot.le, recK (H.le.refl _) hot hne1 (by omega) (List.take_sublist _ _) fun u' na hc hsa hle => ⟨hle, second hle hc hsa⟩⟩⟩⟩
      refine ⟨_, H.le.cell hubw hin.c0, _, rfl, leaf, H.le.cell hubw hin.tl, fun hle => leafc, fun hgt => ⟨wd, cw, q1, hq1, ⟨w0, by omega⟩, _, hc1, wd, cw, q2, hq2, ⟨w0, by omega⟩, _, hc2, ?_⟩⟩
      by_cases e : (boxLo l).getD wd.toNat 0 = (boxHi l).getD wd.toNat 0
      · rw [decide_eq_true e]; exact leafc
      · rw [decide_eq_false e]; exact inner (by omega)

end Kd
end Go.Proofs.YtncninpdlpemgaaGreat

/- VcMaps -/
namespace Go.Proofs.YtncninpdlpemgaaGreat

/-- What an entry tells. -/
def MapEntry.kv (e : MapEntry) : Value × Value := (e.key, e.val)
def kvOf (p : Int × Value) : Value × Value := (.int .i64 p.1, p.2)

theorem kvOf_inj {p q : Int × Value} (h : kvOf p = kvOf q) : p = q := by
  cases p; cases q
  simp only [kvOf, Prod.mk.injEq, Value.int.injEq, true_and] at h
  obtain ⟨h1, h2⟩ := h
  subst h1; subst h2; rfl

/-- A map's entries: their keys and values in the order of their births. -/
structure Ents (es : Array MapEntry) (clock : Nat) (l : List (Int × Value)) : Prop where
  kv : es.toList.map MapEntry.kv = l.map kvOf
  born : (es.toList.map (·.born)).Nodup
  lt : ∀ e ∈ es.toList, e.born < clock
  nodup : (l.map (·.1)).Nodup

def MapAt (u : H) (b : Nat) (l : List (Int × Value)) : Prop := ∃ es clock, u b = some (.map es clock) ∧ Ents es clock l

theorem MapAt.mono {u u' : H} {b : Nat} {l : List (Int × Value)} (h : MapAt u b l) (hu : u.le u') : MapAt u' b l := by
  obtain ⟨es, c, h1, h2⟩ := h
  exact ⟨es, c, hu _ _ h1, h2⟩

theorem MapAt.else {u u' : H} {b : Nat} {l : List (Int × Value)} (h : MapAt u b l) (hu : ∀ o, u b = some o → u' b = some o) : MapAt u' b l := by
  obtain ⟨es, c, h1, h2⟩ := h
  exact ⟨es, c, hu _ h1, h2⟩

def getL (l : List (Int × Value)) (x : Int) : Option Value := (l.find? fun p => p.1 == x).map (·.2)

theorem getL_mem {l : List (Int × Value)} {x : Int} {v : Value} (h : getL l x = some v) : (x, v) ∈ l := by
  unfold getL at h
  cases hf : l.find? fun p => p.1 == x with
  | none => rw [hf] at h; cases h
  | some p =>
    rw [hf] at h
    have h1 := List.find?_some hf
    have h2 := List.mem_of_find?_eq_some hf
    simp only [Option.map_some, Option.some.injEq] at h
    have : p.1 = x := by simpa using h1
    rw [← this, ← h]
    exact h2

theorem getL_none {l : List (Int × Value)} {x : Int} : getL l x = none ↔ x ∉ l.map (·.1) := by
  unfold getL
  rw [Option.map_eq_none_iff, List.find?_eq_none]
  simp only [beq_iff_eq, List.mem_map, Prod.exists, exists_and_right, exists_eq_right, not_exists, Prod.forall]
  exact ⟨fun h v hm => h x v hm rfl, fun h a b hm e => h b (e ▸ hm)⟩

theorem getL_some {l : List (Int × Value)} (hn : (l.map (·.1)).Nodup) {x : Int} {v : Value} : getL l x = some v ↔ (x, v) ∈ l := by
  refine ⟨getL_mem, fun h => ?_⟩
  cases hg : getL l x with
  | none => exact absurd (List.mem_map.2 ⟨_, h, rfl⟩) (getL_none.1 hg)
  | some v' =>
    have h' := getL_mem hg
    have : ∀ {l : List (Int × Value)}, (l.map (·.1)).Nodup → (x, v) ∈ l → (x, v') ∈ l → v = v' := by
      intro l
      induction l with
      | nil => intro _ h; cases h
      | cons p l ih =>
        intro hn h1 h2
        have h3 := List.nodup_cons.1 hn
        rcases List.mem_cons.1 h1 with e1 | h1
        · rcases List.mem_cons.1 h2 with e2 | h2
          · rw [← e2] at e1; cases e1; rfl
          · exact (h3.1 (List.mem_map.2 ⟨_, h2, by rw [← e1]⟩)).elim
        · rcases List.mem_cons.1 h2 with e2 | h2
          · exact (h3.1 (List.mem_map.2 ⟨_, h1, by rw [← e2]⟩)).elim
          · exact ih h3.2 h1 h2
    rw [this hn h h']

theorem findNow_get (x : Int) : ∀ (es : List MapEntry) (l : List (Int × Value)) (i : Nat), es.map MapEntry.kv = l.map kvOf →
    (getL l x = none → Instr.findNow (.int .i64) (.int .i64 x) es i = some none) ∧ (∀ v, getL l x = some v → ∃ j, Instr.findNow (.int .i64) (.int .i64 x) es i = some (some (i + j, v)) ∧ l[j]? = some (x, v)) := by
  intro es
  induction es with
  | nil =>
    intro l i h
    have : l = [] := by simpa using h.symm
    subst this
    exact ⟨fun _ => rfl, fun v hv => (by simp [getL] at hv)⟩
  | cons e es ih =>
    intro l i h
    cases l with
    | nil => simp at h
    | cons y l =>
      simp only [List.map_cons, List.cons.injEq, MapEntry.kv, kvOf, Prod.mk.injEq] at h
      obtain ⟨⟨hk, hv⟩, hr⟩ := h
      obtain ⟨i1, i2⟩ := ih l (i + 1) hr
      unfold Instr.findNow
      rw [hk, hv]
      simp only [Instr.sameNow, if_true]
      by_cases hxy : y.1 = x
      · have hb : (x == y.1) = true := by simpa using hxy.symm
        have hg : getL (y :: l) x = some y.2 := by simp [getL, hxy]
        rw [hb, hg]
        refine ⟨fun h => (by cases h), fun v hv => ⟨0, ?_, ?_⟩⟩
        · cases hv; rfl
        · cases hv; simp [← hxy]
      · have hb : (x == y.1) = false := by simpa using fun h => hxy h.symm
        have hg : getL (y :: l) x = getL l x := by
          have : (y.1 == x) = false := by simpa using hxy
          simp [getL, this]
        rw [hb, hg]
        refine ⟨i1, fun v hv => ?_⟩
        obtain ⟨j, h1, h2⟩ := i2 v hv
        exact ⟨j + 1, by rw [h1, show i + 1 + j = i + (j + 1) by omega], by simpa using h2⟩

structure MapTy (P : Program) (t k e : TypeId) (z : Value) : Prop where
  ty : P.underlying t = some (.map k e)
  key : P.underlying k = some (.int .i64)
  zero : ∀ w, (zeroValue e).run P w = .ok z w

theorem MapTy.check {P : Program} {t k e : TypeId} {z : Value} (T : MapTy P t k e z) (b : Bool) (x : Int) (w : World) : (Instr.checkKey b 10000 k (.int .i64 x)).run P w = .ok () w := by
  show (Instr.checkKey b (9999 + 1) k (.int .i64 x)).run P w = .ok () w
  unfold Instr.checkKey
  simp [Sem.run_bind, run_underlying T.key, Result.andThen]

theorem MapTy.find {P : Program} {t k e : TypeId} {z : Value} (T : MapTy P t k e z) {es : Array MapEntry} {l : List (Int × Value)} (h : es.toList.map MapEntry.kv = l.map kvOf) (x : Int) (w : World) :
    (getL l x = none → (Instr.findKey k (.int .i64 x) es.toList).run P w = .ok none w) ∧ (∀ v, getL l x = some v → ∃ j, (Instr.findKey k (.int .i64 x) es.toList).run P w = .ok (some (j, v)) w ∧ l[j]? = some (x, v)) := by
  obtain ⟨h1, h2⟩ := findNow_get x es.toList l 0 h
  constructor
  · intro hx
    simp [Instr.findKey, Sem.run_bind, run_underlying T.key, Result.andThen, h1 hx]
  · intro v hv
    obtain ⟨j, hj, hl⟩ := h2 v hv
    rw [Nat.zero_add] at hj
    exact ⟨j, by simp [Instr.findKey, Sem.run_bind, run_underlying T.key, Result.andThen, hj], hl⟩

theorem SemT.two' {P : Program} {m : Sem Value} {c d : CT} {u : H} {K : c.den → d.den → H → Prop} (x : c.den) (y : d.den) (h : ∀ w, Sub u w → m.run P w = .ok (.tuple #[c.enc x, d.enc y]) w) (hK : K x y u) : SemT P m [.one c, .one d] u K := by
  intro w hw
  exact ⟨_, w, u, h w hw, ⟨[c.enc x, d.enc y], .cons x (.cons y .nil), rfl, (CT.un_enc c x _).2 ((CT.un_enc d y _).2 hK)⟩, Step.refl hw⟩

theorem sem_get2 {P : Program} {t k e : TypeId} {z : Value} (T : MapTy P t k e z) {u : H} {b : Nat} {l : List (Int × Value)} (h : MapAt u b l) {x : Int} {ct : CT} (y : ct.den) (hy : (getL l x).getD z = ct.enc y) {K : ct.den → Bool → H → Prop} (hK : K y (getL l x).isSome u) :
    SemT P (Instr.lookup t (.map (some b)) (.int .i64 x) true) [.one ct, .one .bool] u K := by
  obtain ⟨es, c, hb, hl⟩ := h
  refine SemT.two' (c := ct) (d := .bool) y _ (fun w hw => ?_) hK
  have hg := MapKept.run_getObj_map (P := P) (hw _ _ hb)
  have hc := T.check es.isEmpty x w
  obtain ⟨f1, f2⟩ := T.find hl.kv x w
  cases hx : getL l x with
  | none =>
    rw [hx] at hy
    have hy' : z = ct.enc y := hy
    simp [Instr.lookup, Sem.run_bind, run_underlying T.ty, hg, hc, f1 hx, Result.andThen, T.zero, hy', CT.enc]
  | some v =>
    rw [hx] at hy
    have hy' : v = ct.enc y := hy
    obtain ⟨j, hj, _⟩ := f2 v hx
    simp [Instr.lookup, Sem.run_bind, run_underlying T.ty, hg, hc, hj, Result.andThen, hy', CT.enc]

theorem sem_put {P : Program} {t k e : TypeId} {z : Value} (T : MapTy P t k e z) {u : H} {b : Nat} {l : List (Int × Value)} (h : MapAt u b l) {x : Int} {v : Value} (hx : getL l x = none) {K : H → Prop}
    (hK : ∀ o, MapAt (u.ins b o) b (l ++ [(x, v)]) → K (u.ins b o)) :
    SemT P (unit (Instr.mapUpdate t (.map (some b)) (.int .i64 x) v)) [] u K := by
  obtain ⟨es, c, hb, hl⟩ := h
  intro w hw
  have hg := MapKept.run_getObj_map (P := P) (hw _ _ hb)
  have hj := (T.find hl.kv x w).1 hx
  have hc := T.check false x w
  have hset := MapKept.run_setObj_map (P := P) (.map (es.push { key := .int .i64 x, val := v, born := c }) (c + 1)) (hw _ _ hb)
  refine ⟨_, _, u.ins b (.map (es.push { key := .int .i64 x, val := v, born := c }) (c + 1)), ?_, ⟨[], .nil, rfl, hK _ ⟨_, _, H.ins_same _ _ _, ?_, ?_, ?_, ?_⟩⟩, step_block hw hb _⟩
  · simp [unit, Instr.mapUpdate, Sem.run_bind, run_underlying T.ty, hg, hc, hj, Result.andThen, hset]
    rfl
  · simp [hl.kv, MapEntry.kv, kvOf]
  · rw [Array.toList_push, List.map_append]
    refine List.nodup_append.2 ⟨hl.born, by simp, fun a ha d hd => ?_⟩
    obtain ⟨e', he, rfl⟩ := List.mem_map.1 ha
    have := hl.lt e' he
    simp only [List.map_cons, List.map_nil, List.mem_singleton] at hd
    omega
  · intro e' he
    rw [Array.toList_push] at he
    rcases List.mem_append.1 he with he | he
    · have := hl.lt e' he; omega
    · obtain rfl : e' = _ := by simpa using he
      exact Nat.lt_succ_self c
  · rw [List.map_append]
    refine List.nodup_append.2 ⟨hl.nodup, by simp, fun a ha d hd => ?_⟩
    have := getL_none.1 hx
    simp only [List.map_cons, List.map_nil, List.mem_singleton] at hd
    exact fun e => this (by rw [← hd, ← e]; exact ha)

theorem erase_filter {l : List (Int × Value)} (hn : (l.map (·.1)).Nodup) {j : Nat} {x : Int} {v : Value} (h : l[j]? = some (x, v)) : l.eraseIdx j = l.filter fun p => p.1 != x := by
  induction l generalizing j with
  | nil => simp at h
  | cons p l ih =>
    have h3 := List.nodup_cons.1 hn
    cases j with
    | zero =>
      simp only [List.getElem?_cons_zero, Option.some.injEq] at h
      subst h
      have : l.filter (fun p => p.1 != x) = l := List.filter_eq_self.2 fun q hq => by
        have : q.1 ≠ x := fun e => h3.1 (List.mem_map.2 ⟨q, hq, e⟩)
        simpa using this
      simp [this]
    | succ j =>
      simp only [List.getElem?_cons_succ] at h
      have hp : p.1 ≠ x := fun e => h3.1 (List.mem_map.2 ⟨_, List.mem_of_getElem? h, e.symm⟩)
      rw [List.eraseIdx_cons_succ, ih h3.2 h, List.filter_cons_of_pos (by simpa using hp)]

theorem sem_del {P : Program} {t k e T' kT : TypeId} {z : Value} (T : MapTy P t k e z) {u : H} {b : Nat} {l : List (Int × Value)} (h : MapAt u b l) {x : Int} {K : H → Prop}
    (hK : ∀ o, MapAt (u.ins b o) b (l.filter fun p => p.1 != x) → K (u.ins b o)) :
    SemT P (Builtin.delete_ #[t, kT] T' #[.map (some b), .int .i64 x]) [] u K := by
  obtain ⟨es, c, hb, hl⟩ := h
  intro w hw
  have hg := MapKept.run_getObj_map (P := P) (hw _ _ hb)
  have hc := T.check es.isEmpty x w
  obtain ⟨f1, f2⟩ := T.find hl.kv x w
  cases hx : getL l x with
  | none =>
    have hset := MapKept.run_setObj_map (P := P) (.map es c) (hw _ _ hb)
    have hf : l.filter (fun p => p.1 != x) = l := List.filter_eq_self.2 fun q hq => by
      have : q.1 ≠ x := fun e => getL_none.1 hx (List.mem_map.2 ⟨q, hq, e⟩)
      simpa using this
    refine ⟨_, _, u.ins b (.map es c), ?_, ⟨[], .nil, rfl, hK _ ⟨_, _, H.ins_same _ _ _, by rw [hf]; exact hl⟩⟩, step_block hw hb _⟩
    simp [Builtin.delete_, Sem.run_bind, run_underlying T.ty, hg, hc, f1 hx, Result.andThen, hset]
    rfl
  | some v =>
    obtain ⟨j, hj, hlj⟩ := f2 v hx
    have hset := MapKept.run_setObj_map (P := P) (.map (es.eraseIdxIfInBounds j) c) (hw _ _ hb)
    have het : (es.eraseIdxIfInBounds j).toList = es.toList.eraseIdx j := by simp
    have hsub : (es.toList.eraseIdx j).Sublist es.toList := List.eraseIdx_sublist _ _
    refine ⟨_, _, u.ins b (.map (es.eraseIdxIfInBounds j) c), ?_, ⟨[], .nil, rfl, hK _ ⟨_, _, H.ins_same _ _ _, ?_, ?_, ?_, ?_⟩⟩, step_block hw hb _⟩
    · simp [Builtin.delete_, Sem.run_bind, run_underlying T.ty, hg, hc, hj, Result.andThen, hset]
      rfl
    · have key : ∀ {α β : Type} (f : α → β) (L : List α) (j : Nat), (L.eraseIdx j).map f = (L.map f).eraseIdx j := by
        intro α β f L
        induction L with
        | nil => intro j; rfl
        | cons a L ih => intro j; cases j with
          | zero => rfl
          | succ j => simp [ih j]
      rw [het, key, hl.kv, ← key, erase_filter hl.nodup hlj]
    · rw [het]; exact hl.born.sublist (hsub.map _)
    · intro e' he; rw [het] at he; exact hl.lt e' (hsub.mem he)
    · exact hl.nodup.sublist (List.Sublist.map _ List.filter_sublist)

theorem sem_maplen {P : Program} {t k e T' : TypeId} {z : Value} (T : MapTy P t k e z) {u : H} {b : Nat} {l : List (Int × Value)} (h : MapAt u b l) {K : Int → H → Prop} (hK : K l.length u) :
    SemT P (Builtin.len_ #[t] T' #[.map (some b)]) [.one (.int .i64)] u K := by
  obtain ⟨es, c, hb, hl⟩ := h
  have hlen : es.size = l.length := by have := congrArg List.length hl.kv; simpa using this
  refine .one' (c := .int .i64) (l.length : Int) (fun w hw => ?_) hK
  have hg := MapKept.run_getObj_map (P := P) (hw _ _ hb)
  simp [Builtin.len_, Sem.run_bind, run_underlying T.ty, hg, Result.andThen, hlen]
  rfl

theorem sem_mkmap {P : Program} {t : TypeId} {u : H} {K : Option Nat → H → Prop} (hK : ∀ b o, u b = none → MapAt (u.ins b o) b [] → K (some b) (u.ins b o)) : SemT P (Instr.makeMap t none) [.one .map] u K :=
  .one (c := .map) fun w hw => ⟨some w.heap.size, _, _, Go.RowKit.run_makeMap t w, hK _ _ (hw.none (Nat.le_refl _)) ⟨#[], 0, H.ins_same _ _ _, rfl, by simp, by simp, by simp⟩, Step.newKnown hw _⟩

/-! ### ranges -/

/-- An iterator over a map that stays as it is: what has come. -/
def IterAt (u : H) (r b : Nat) (l dl : List (Int × Value)) : Prop :=
  ∃ es clock seen, u b = some (.map es clock) ∧ Ents es clock l ∧ u r = some (.mapIter (some b) clock seen clock) ∧
    ∃ ds : List MapEntry, seen.toList = ds.map (·.born) ∧ ds.map MapEntry.kv = dl.map kvOf ∧ (∀ d ∈ ds, d ∈ es.toList) ∧ (dl.map (·.1)).Nodup

theorem IterAt.else {u u' : H} {r b : Nat} {l dl : List (Int × Value)} (h : IterAt u r b l dl) (hb : ∀ o, u b = some o → u' b = some o) (hr : ∀ o, u r = some o → u' r = some o) : IterAt u' r b l dl := by
  obtain ⟨es, c, seen, h1, h2, h3, h4⟩ := h
  exact ⟨es, c, seen, hb _ h1, h2, hr _ h3, h4⟩

theorem IterAt.map {u : H} {r b : Nat} {l dl : List (Int × Value)} (h : IterAt u r b l dl) : MapAt u b l := by
  obtain ⟨es, c, seen, h1, h2, _⟩ := h
  exact ⟨es, c, h1, h2⟩

theorem IterAt.sub {u : H} {r b : Nat} {l dl : List (Int × Value)} (h : IterAt u r b l dl) : ∀ p ∈ dl, p ∈ l := by
  obtain ⟨es, c, seen, h1, h2, h3, ds, h4, h5, h6, h7⟩ := h
  intro p hp
  have : kvOf p ∈ ds.map MapEntry.kv := by rw [h5]; exact List.mem_map.2 ⟨p, hp, rfl⟩
  obtain ⟨d, hd, e⟩ := List.mem_map.1 this
  have : kvOf p ∈ l.map kvOf := by rw [← h2.kv, ← e]; exact List.mem_map.2 ⟨d, h6 d hd, rfl⟩
  obtain ⟨q, hq, e⟩ := List.mem_map.1 this
  rw [← kvOf_inj e]; exact hq

theorem IterAt.dn {u : H} {r b : Nat} {l dl : List (Int × Value)} (h : IterAt u r b l dl) : (dl.map (·.1)).Nodup := by
  obtain ⟨es, c, seen, h1, h2, h3, ds, h4, h5, h6, h7⟩ := h
  exact h7

theorem sem_range {P : Program} {t k e : TypeId} {z : Value} (T : MapTy P t k e z) {u : H} {b : Nat} {l : List (Int × Value)} (h : MapAt u b l) {K : Option Addr → H → Prop} (hK : ∀ r o, u r = none → IterAt (u.ins r o) r b l [] → K (some ⟨r, 0, none⟩) (u.ins r o)) :
    SemT P (Instr.range t (.map (some b))) [.one .ptr] u K := by
  obtain ⟨es, c, hb, hl⟩ := h
  refine .one (c := .ptr) fun w hw => ?_
  have hn := hw.none (Nat.le_refl _)
  have hne : b ≠ w.heap.size := fun e => by rw [← e, hb] at hn; cases hn
  refine ⟨some ⟨w.heap.size, 0, none⟩, w.alloc (.mapIter (some b) c #[] c), _, ?_, hK w.heap.size (.mapIter (some b) c #[] c) hn ⟨es, c, #[], by rw [H.ins_other _ _ hne]; exact hb, hl, H.ins_same _ _ _, [], rfl, rfl, fun d hd => (by cases hd), by simp⟩, Step.newKnown hw _⟩
  have hg := MapKept.run_getObj_map (P := P) (hw _ _ hb)
  simp [Instr.range, Sem.run_bind, run_underlying T.ty, hg, Result.andThen, CT.enc]

/-- A visited entry is there, and is that one. -/
theorem ents_find {es : List MapEntry} (hn : (es.map (·.born)).Nodup) {d e : MapEntry} (hd : d ∈ es) (he : e ∈ es) (h : d.born = e.born) : d = e := by
  induction es with
  | nil => cases hd
  | cons x es ih =>
    have h3 := List.nodup_cons.1 hn
    rcases List.mem_cons.1 hd with h1 | h1
    · rcases List.mem_cons.1 he with h2 | h2
      · rw [h1, h2]
      · exact (h3.1 (List.mem_map.2 ⟨e, h2, by rw [← h, h1]⟩)).elim
    · rcases List.mem_cons.1 he with h2 | h2
      · exact (h3.1 (List.mem_map.2 ⟨d, h1, by rw [h, h2]⟩)).elim
      · exact ih h3.2 h1 h2

theorem perm_of_sub {l dl : List (Int × Value)} (hl : (l.map (·.1)).Nodup) (hd : (dl.map (·.1)).Nodup) (h1 : ∀ p ∈ dl, p ∈ l) (h2 : ∀ p ∈ l, p ∈ dl) : dl.Perm l := by
  have nd : ∀ {l : List (Int × Value)}, (l.map (·.1)).Nodup → l.Nodup := fun {l} h => (List.pairwise_map.1 h).imp fun h e => h (by rw [e])
  exact (List.perm_ext_iff_of_nodup (nd hd) (nd hl)).2 fun p => ⟨h1 p, h2 p⟩

theorem nextT_of {P : Program} {u : H} {r b : Nat} {l dl : List (Int × Value)} (h : IterAt u r b l dl) {K0 : H → Prop} {K1 : Value → Value → H → Prop} (h0 : dl.Perm l → K0 u)
    (h1 : ∀ p o, p ∈ l → p.1 ∉ dl.map (·.1) → IterAt (u.ins r o) r b l (dl ++ [p]) → K1 (.int .i64 p.1) p.2 (u.ins r o)) : NextT P (.pointer (some ⟨r, 0, none⟩)) u K0 K1 := by
  have hsub := h.sub
  obtain ⟨es, c, seen, hb, hl, hr, ds, hs1, hs2, hs3, hs4⟩ := h
  intro w hw
  have hne : r ≠ b := fun e => by rw [e, hb] at hr; cases hr
  have hseen : ∀ e ∈ es.toList, seen.contains e.born = true ↔ e ∈ ds := by
    intro e he
    rw [Array.contains_iff_mem, ← Array.mem_toList_iff, hs1, List.mem_map]
    exact ⟨fun ⟨d, hd, e'⟩ => ents_find hl.born (hs3 d hd) he e' ▸ hd, fun hd => ⟨e, hd, rfl⟩⟩
  have hLm : ∀ e ∈ (leftOf es seen).toList, e ∈ es.toList ∧ e ∉ ds := fun e he => by
    unfold leftOf at he
    rw [Array.toList_filter] at he
    have h' := List.mem_filter.1 he
    refine ⟨h'.1, fun hd => ?_⟩
    have := (hseen e h'.1).2 hd
    rw [this] at h'
    simp at h'
  have hLe : ∀ e ∈ es.toList, e ∉ ds → e ∈ (leftOf es seen).toList := fun e he hd => by
    unfold leftOf
    rw [Array.toList_filter]
    refine List.mem_filter.2 ⟨he, ?_⟩
    cases hc : seen.contains e.born with
    | true => exact absurd ((hseen e he).1 hc) hd
    | false => rfl
  rcases run_next_at (P := P) w 0 r b c c seen es c (hw _ _ hr) (hw _ _ hb) hl.lt (Nat.le_refl _) with ⟨hz, hrun⟩ | ⟨e, heL, w1, hst, hrun⟩
  · refine ⟨w, u, .inl ⟨hrun, h0 ?_⟩, Step.refl hw⟩
    have hLnil : leftOf es seen = #[] := Array.eq_empty_of_size_eq_zero hz
    refine perm_of_sub hl.nodup hs4 hsub fun p hp => ?_
    have : kvOf p ∈ es.toList.map MapEntry.kv := by rw [hl.kv]; exact List.mem_map.2 ⟨p, hp, rfl⟩
    obtain ⟨e, he, e1⟩ := List.mem_map.1 this
    have hd : e ∈ ds := Classical.byContradiction fun hn => by
      have := hLe e he hn
      rw [hLnil] at this
      simp at this
    have : kvOf p ∈ dl.map kvOf := by rw [← hs2, ← e1]; exact List.mem_map.2 ⟨e, hd, rfl⟩
    obtain ⟨q, hq, e2⟩ := List.mem_map.1 this
    rw [← kvOf_inj e2]; exact hq
  · have hw1 : Sub u w1 := by rcases hst with rfl | rfl <;> exact hw
    have step1 : Step u [] w u [] w1 := by
      rcases hst with rfl | rfl
      · exact Step.refl hw
      · exact Step.draws hw (Nat.le_succ w.drawn)
    obtain ⟨hes, hnd⟩ := hLm _ heL
    obtain ⟨p, hp, hpk⟩ : ∃ p ∈ l, kvOf p = MapEntry.kv e := by
      have : MapEntry.kv e ∈ l.map kvOf := by rw [← hl.kv]; exact List.mem_map.2 ⟨e, hes, rfl⟩
      obtain ⟨p, hp, e1⟩ := List.mem_map.1 this
      exact ⟨p, hp, e1⟩
    have hk1 : e.key = .int .i64 p.1 := (congrArg Prod.fst hpk).symm
    have hk2 : e.val = p.2 := (congrArg Prod.snd hpk).symm
    have hpd : p.1 ∉ dl.map (·.1) := by
      intro hm
      obtain ⟨q, hq, e1⟩ := List.mem_map.1 hm
      have hql := hsub q hq
      have hqp : q = p := by
        have h1 := (getL_some hl.nodup (x := p.1) (v := q.2)).2 (by rw [← e1]; exact hql)
        have h2 := (getL_some hl.nodup (x := p.1) (v := p.2)).2 hp
        rw [h1] at h2
        cases q; cases p
        simp only [Option.some.injEq] at h2 e1
        rw [h2, e1]
      have : kvOf p ∈ ds.map MapEntry.kv := by rw [hs2, ← hqp]; exact List.mem_map.2 ⟨q, hq, rfl⟩
      obtain ⟨d, hd, e2⟩ := List.mem_map.1 this
      have hde : d = e := by
        have hkd : MapEntry.kv d = MapEntry.kv e := by rw [e2, hpk]
        obtain ⟨m, hm, em⟩ := List.mem_iff_getElem.1 (hs3 d hd)
        obtain ⟨n, hn, en⟩ := List.mem_iff_getElem.1 hes
        have hmn : m = n := by
          have hlen : es.toList.length = l.length := by have := congrArg List.length hl.kv; simpa using this
          have k1 : (l.map kvOf)[m]? = some (MapEntry.kv d) := by rw [← hl.kv, List.getElem?_map, List.getElem?_eq_getElem hm, em]; rfl
          have k2 : (l.map kvOf)[n]? = some (MapEntry.kv e) := by rw [← hl.kv, List.getElem?_map, List.getElem?_eq_getElem hn, en]; rfl
          have k3 : l[m]'(by omega) = l[n]'(by omega) := by
            rw [hkd] at k1
            rw [List.getElem?_map, List.getElem?_eq_getElem (by omega)] at k1 k2
            exact kvOf_inj (Option.some.inj (k1.trans k2.symm))
          rcases Nat.lt_trichotomy m n with h' | h' | h'
          · have := List.pairwise_iff_getElem.1 hl.nodup m n (by simp; omega) (by simp; omega) h'
            simp only [List.getElem_map] at this
            exact absurd (by rw [k3]) this
          · exact h'
          · have := List.pairwise_iff_getElem.1 hl.nodup n m (by simp; omega) (by simp; omega) h'
            simp only [List.getElem_map] at this
            exact absurd (by rw [k3]) this
        subst hmn
        rw [← em, ← en]
      exact hnd (hde ▸ hd)
    refine ⟨_, u.ins r (.mapIter (some b) c (seen.push e.born) c), .inr ⟨_, _, hrun, ?_⟩, step1.trans (step_block hw1 hr _)⟩
    rw [hk1, hk2]
    refine h1 p _ hp hpd ⟨es, c, seen.push e.born, by rw [H.ins_other _ _ (Ne.symm hne)]; exact hb, hl, H.ins_same _ _ _, ds ++ [e], by simp [hs1], ?_, ?_, ?_⟩
    · rw [List.map_append, hs2, List.map_append]; simp [hpk]
    · intro d hd
      rcases List.mem_append.1 hd with hd | hd
      · exact hs3 d hd
      · obtain rfl : d = e := by simpa using hd
        exact hes
    · rw [List.map_append]
      refine List.nodup_append.2 ⟨hs4, by simp, fun a ha d hd => ?_⟩
      simp only [List.map_cons, List.map_nil, List.mem_singleton] at hd
      exact fun e => hpd (by rw [← hd, ← e]; exact ha)

theorem entT_of {P : Program} {u : H} {r b : Nat} {l dl : List (Int × Value)} {p : Int × Value} (h : IterAt u r b l (dl ++ [p])) {K : Value → Value → H → Prop} (hK : K (.int .i64 p.1) p.2 u) : EntT P (.pointer (some ⟨r, 0, none⟩)) u K := by
  obtain ⟨es, c, seen, hb, hl, hr, ds, hs1, hs2, hs3, hs4⟩ := h
  intro w hw
  obtain ⟨ds', e, rfl⟩ : ∃ ds' e, ds = ds' ++ [e] := by
    rcases List.eq_nil_or_concat ds with h | ⟨a, b, h⟩
    · rw [h] at hs2; simp at hs2
    · exact ⟨a, b, by rw [h, List.concat_eq_append]⟩
  have hk : MapEntry.kv e = kvOf p := by
    have := congrArg List.getLast? hs2
    simpa using this
  have hk1 : e.key = .int .i64 p.1 := congrArg Prod.fst hk
  have hk2 : e.val = p.2 := congrArg Prod.snd hk
  have hseen : seen = (ds'.map (·.born)).toArray.push e.born := by
    apply Array.ext'
    rw [hs1]; simp
  rw [hseen] at hr
  have := run_entry_at (P := P) w r b c (ds'.map (·.born)).toArray es c e (hw _ _ hr) (hw _ _ hb) (hs3 e (by simp)) hl.born
  exact ⟨_, _, w, u, this, by rw [hk1, hk2]; exact hK, Step.refl hw⟩

end Go.Proofs.YtncninpdlpemgaaGreat

/- VcOwn -/
namespace Go.Proofs.YtncninpdlpemgaaGreat
open Go.Sort Go.Shelf

/-- Rows of one's own: their block, and each vector's. -/
structure RowsO (u0 u : H) (s : Sl) (ls : List Rw) : Prop where
  own : OwnF u0 u 43 2 s (ls.flatMap encR)
  inner : ∀ r ∈ ls, OwnF u0 u 3 1 r.s (r.v.flatMap encI)
  far : ∀ r ∈ ls, Far s r.s
  apart : ls.Pairwise fun a b => Far a.s b.s

theorem RowsO.rws {u0 u : H} {s : Sl} {ls : List Rw} (h : RowsO u0 u s ls) : Rws u s ls := ⟨h.own.own.seg, fun r hr => (h.inner r hr).ints⟩

theorem RowsO.mono {u0 u u' : H} {s : Sl} {ls : List Rw} (h : RowsO u0 u s ls) (k : u.le u') : RowsO u0 u' s ls :=
  ⟨h.own.mono k, fun r hr => (h.inner r hr).mono k, h.far, h.apart⟩

def Rws1 (r : Rw) : Prop := 1 ≤ r.id ∧ r.id ≤ 1000000000

theorem rowSWO : SWO (ltOf fun a b : { r // Rws1 r } => a.1.id - b.1.id) where
  irrefl x := by unfold ltOf; simp
  trans x y z h1 h2 := by unfold ltOf at *; simp only [decide_eq_true_eq] at *; omega
  ntrans x y z h1 h2 := by unfold ltOf at *; simp only [decide_eq_false_iff_not] at *; omega

instance : Inhabited { r // Rws1 r } := ⟨⟨⟨1, ⟨none, 0, 0⟩, []⟩, by unfold Rws1; decide⟩⟩

theorem spec.flat_Own {s : Sl} {l : List Rw} {u : H} {K : Sl → H → Prop} (hs : Rws u s l) (hid : ∀ r ∈ l, 1 ≤ r.id ∧ r.id ≤ 1000000000) (hn : l.length ≤ 1000000) (hv : ∀ r ∈ l, r.v.length ≤ 1000000)
    (hK : ∀ s' ls u', RowsO u u' s' ls → (ls.map Rw.pr).Perm (l.map Rw.pr) → (ls.Pairwise fun a b => a.id ≤ b.id) → K s' u') : C.flat_Own s u K := by
  have hsn := hs.len
  apply vc.flat_Own
  refine sem_make tRows (by omega) (Int.le_refl _) (by omega) (by omega) fun g hg => ?_
  have hmade : ∀ (n : Nat), (madeCells [Value.int .i64 0, .slice none 0 0].toArray (n * 2)).toList = (List.replicate n (⟨0, ⟨none, 0, 0⟩, []⟩ : Rw)).flatMap encR := fun n => made_flat (enc := encR) encR_len (by decide) ⟨0, ⟨none, 0, 0⟩, []⟩ n
  obtain ⟨cs, hcs⟩ : ∃ cs, madeCells [Value.int .i64 0, .slice none 0 0].toArray ((s.n : Int).toNat * 2) = cs := ⟨_, rfl⟩
  have hcl : cs.toList = (List.replicate l.length (⟨0, ⟨none, 0, 0⟩, []⟩ : Rw)).flatMap encR := by rw [← hcs, ← hmade, show (s.n : Int).toNat = l.length by omega]
  rw [hcs]
  have hcz : cs.size = l.length * 2 := by rw [← Array.length_toList, hcl, flat_len encR_len]; simp
  have ho0 : OwnF u (u.ins g (.cells cs 43 (0, 0))) 43 2 ⟨some ⟨g, 0, none⟩, l.length, l.length⟩ ((List.replicate l.length (⟨0, ⟨none, 0, 0⟩, []⟩ : Rw)).flatMap encR) := by
    have := OwnF.make (k := 2) (H.le.refl u) hg (cells := cs) (e := 43) (n := l.length) (by omega) hcz
    rw [hcl] at this
    exact this
  rw [show (s.n : Int).toNat = l.length by omega]
  have hblk : (⟨some ⟨g, 0, none⟩, l.length, l.length⟩ : Sl).blk = some g := rfl
  refine ⟨fun i w => 0 ≤ i ∧ i ≤ l.length ∧ ∃ D : List Rw, D.map Rw.pr = (l.take i.toNat).map Rw.pr ∧ RowsO u w ⟨some ⟨g, 0, none⟩, l.length, l.length⟩ (D ++ List.replicate (l.length - i.toNat) ⟨0, ⟨none, 0, 0⟩, []⟩),
    fun i _ => l.length - i.toNat, ⟨by omega, by omega, [], by simp, ?_⟩, ?_⟩
  · refine ⟨by simpa using ho0, fun r hr => ?_, fun r hr => ?_, ?_⟩
    · simp at hr
      rw [hr.2]
      exact OwnF.nil (H.le_ins _ hg) _ _
    · simp at hr
      rw [hr.2]
      intro x _ hx; simp [Sl.blk] at hx
    · simp only [List.nil_append]
      rw [List.pairwise_replicate]
      exact .inr fun x hx => by simp [Sl.blk] at hx
  rintro i w ⟨i0, i1, D, hD, hR⟩
  have hDl : D.length = i.toNat := by have := congrArg List.length hD; simp at this; omega
  refine ⟨fun hil => ?_, fun hig => ?_⟩
  · obtain ⟨p, hp, r, hr, c0, c1, c2⟩ := (hs.mono hR.own.le).at i0 hil
    have hrm : r ∈ l := List.mem_of_getElem? hr
    have hrv := c2.len
    have := hv r hrm
    refine ⟨p, hp, ⟨i0, hil⟩, _, c0, _, c1, spec.slices_Clone___int_int_ c2 (by omega) fun s9 u10 ho9 hn9 => ⟨ho9.le, _, rfl, ⟨i0, by show i < ((l.length : Nat) : Int); omega⟩, ?_⟩⟩
    have hR10 := hR.mono ho9.le
    refine OwnF.store (enc := encR) encR_len hR10.own (by decide) (i := i.toNat) (by simp; omega) (y := ⟨r.id, s9, r.v⟩) (encR_one _) rfl fun u12 ho12 he12 _ => ⟨⟨by omega, by omega⟩, ⟨by omega, by omega, D ++ [⟨r.id, s9, r.v⟩], ?_, ?_⟩, by dsimp only; omega⟩
    · rw [show (i + 1).toNat = i.toNat + 1 by omega, List.take_add_one, hr, List.map_append, hD]
      simp [Rw.pr]
    · have hset : (D ++ List.replicate (l.length - i.toNat) (⟨0, ⟨none, 0, 0⟩, []⟩ : Rw)).set i.toNat ⟨r.id, s9, r.v⟩ = D ++ [⟨r.id, s9, r.v⟩] ++ List.replicate (l.length - (i + 1).toNat) ⟨0, ⟨none, 0, 0⟩, []⟩ := by
        rw [show l.length - i.toNat = (l.length - (i + 1).toNat) + 1 by omega, List.replicate_succ, ← hDl, set_mid]
        simp
      rw [hset] at ho12
      -- blocks
      have hold : ∀ x ∈ D, OwnF u w 3 1 x.s (x.v.flatMap encI) := fun x hx => hR.inner x (List.mem_append_left _ hx)
      have hgk : w g ≠ none := own_known hR.own hblk
      have hs9g : s9.blk ≠ some g := fun e => hgk (ho9.fresh g e)
      have hfarD : ∀ x ∈ D, Far x.s s9 := fun x hx c hc hc' => own_known (hold x hx) hc (ho9.fresh c hc')
      have hDg : ∀ x ∈ D, Far ⟨some ⟨g, 0, none⟩, l.length, l.length⟩ x.s := fun x hx => hR.far x (List.mem_append_left _ hx)
      refine ⟨ho12, fun x hx => ?_, fun x hx => ?_, ?_⟩
      · rcases List.mem_append.1 hx with hx | hx
        · rcases List.mem_append.1 hx with hx | hx
          · exact OwnF.else (e := 0) ((hold x hx).mono ho9.le) he12 (fun c hc => hR.own.fresh c hc) fun c hc => hDg x hx c hc
          · simp at hx
            subst hx
            exact OwnF.else (e := 0) (ho9.weaken hR.own.le) he12 (fun c hc => hR.own.fresh c hc) fun c hc => by
              have : c = g := by rw [hblk] at hc; exact (Option.some.inj hc).symm
              rw [this]; exact hs9g
        · rw [(List.mem_replicate.1 hx).2]
          exact OwnF.nil (ho12.le) _ _
      · rcases List.mem_append.1 hx with hx | hx
        · rcases List.mem_append.1 hx with hx | hx
          · exact hDg x hx
          · simp at hx
            subst hx
            intro c hc
            have : c = g := by rw [hblk] at hc; exact (Option.some.inj hc).symm
            rw [this]; exact hs9g
        · rw [(List.mem_replicate.1 hx).2]
          intro c _ hc; simp [Sl.blk] at hc
      · have hap := (List.pairwise_append.1 hR.apart).1
        refine List.pairwise_append.2 ⟨List.pairwise_append.2 ⟨hap, by simp, fun x hx y hy => ?_⟩, ?_, fun x hx y hy => ?_⟩
        · simp at hy; subst hy; exact hfarD x hx
        · rw [List.pairwise_replicate]
          exact .inr fun c hc => by simp [Sl.blk] at hc
        · rw [(List.mem_replicate.1 hy).2]
          intro c _ hc; simp [Sl.blk] at hc
  · have hil : i.toNat = l.length := by
      have : ¬ i < (s.n : Int) := hig
      omega
    rw [hil, Nat.sub_self, List.replicate_zero, List.append_nil] at hR
    rw [hil, List.take_length] at hD
    have hin : ∀ r ∈ D, Rws1 r := fun r hr => by
      have : r.pr ∈ l.map Rw.pr := by rw [← hD]; exact List.mem_map.2 ⟨r, hr, rfl⟩
      obtain ⟨r', hr', e⟩ := List.mem_map.1 this
      have h1 := hid r' hr'
      have : r'.id = r.id := congrArg Prod.fst e
      unfold Rws1; rw [← this]; exact h1
    obtain ⟨E, hE⟩ : ∃ E : List { r // Rws1 r }, E.map (·.1) = D := ⟨D.attachWith _ hin, by simp⟩
    have hown := hR.own
    rw [← hE] at hown
    refine spec.slices_SortFunc__api_Row_ (val := fun r : { r // Rws1 r } => r.1) rowSWO (enters_of Tryz.func82 (by kernel_rfl) rfl) (fun a b v => ?_) hown (by have := congrArg List.length hE; simp at this; omega) fun u2 E' hp hsrt ho2 he2 => hK _ (E'.map (·.1)) _ ?_ ?_ ?_
    · have ha := a.2
      have hb := b.2
      unfold Rws1 at ha hb
      exact vc.flat_Own_1 a.1.id a.1.s b.1.id b.1.s v (fun z' u2 => z' = a.1.id - b.1.id ∧ u2 = v) ⟨⟨by omega, by omega⟩, rfl, rfl⟩
    · have hpm : (E'.map (·.1)).Perm D := by rw [← hE]; exact hp.map _
      have hmem : ∀ x ∈ E'.map (·.1), x ∈ D := fun x hx => hpm.mem_iff.1 hx
      exact ⟨ho2, fun r hr => OwnF.else (e := 0) (hR.inner r (hmem r hr)) he2 (fun c hc => hR.own.fresh c hc) fun c hc => hR.far r (hmem r hr) c hc, fun r hr => hR.far r (hmem r hr), hR.apart.perm hpm.symm fun h => h.symm⟩
    · rw [← hD, ← hE]
      exact ((hp.map (·.1)).map Rw.pr)
    · rw [List.pairwise_map]
      exact hsrt.imp fun h => by omega

/-- The error of a row that is to be put. -/
def mayErr (id : Int) (v : List Int) (d : Int) (there : Bool) (many : Int) : Int :=
  if id < 1 ∨ 1000000000 < id then 50 else if vcheck v d ≠ 0 then vcheck v d else if there = false ∧ 512 ≤ many then 2 else 0

theorem spec.flat_May {id : Int} {s : Sl} {v : List Int} {d : Int} {there : Bool} {many : Int} {u : H} {K : Int → H → Prop} (hs : Ints u s v) (h : K (mayErr id v d there many) u) : C.flat_May id s d there many u K := by
  apply vc.flat_May
  refine spec.vec_Check hs ?_
  intro K2 hK2
  have go : ∀ bb : Bool, (bb = true ↔ (id < 1 ∨ 1000000000 < id)) → K2 bb u := fun bb hb => hK2 bb u ⟨fun e => ?_, fun e => ⟨fun hne => ?_, fun he => ⟨fun ht => ⟨fun hm => ?_, fun hm => ?_⟩, fun ht => ?_⟩⟩⟩
  · exact ⟨fun h1 => go true ⟨fun _ => .inl h1, fun _ => rfl⟩, fun h1 => go _ ⟨fun e => .inr (by simpa using e), fun e => by simp; omega⟩⟩
  · unfold mayErr at h; rw [if_pos (hb.1 e)] at h; exact h
  all_goals
    have hnb : ¬ (id < 1 ∨ 1000000000 < id) := fun e2 => by rw [hb.2 e2] at e; cases e
    unfold mayErr at h
    rw [if_neg hnb] at h
  · rw [if_pos hne] at h; exact h
  · rw [if_neg (by simpa using he), if_pos ⟨by simpa using ht, hm⟩] at h; exact h
  · rw [if_neg (by simpa using he), if_neg (fun h2 => hm h2.2)] at h; exact h
  · rw [if_neg (by simpa using he), if_neg (fun h2 => by rw [ht] at h2; cases h2.1)] at h; exact h

/-- The error of a question. -/
def askErr (q : List Int) (d k b : Int) : Int := if vcheck q d ≠ 0 then vcheck q d else if k < 1 ∨ 64 < k ∨ b < 0 ∨ 1000000 < b then 1 else 0

theorem spec.flat_Asked {t : Sl} {q : List Int} {d k b : Int} {u : H} {K : Int → H → Prop} (ht : Ints u t q) (h : K (askErr q d k b) u) : C.flat_Asked t d k b u K := by
  unfold askErr at h
  apply vc.flat_Asked
  refine spec.vec_Check ht ⟨fun hne => by rw [if_pos hne] at h; exact h, fun he => ?_⟩
  rw [if_neg (by simpa using he)] at h
  by_cases hbad : k < 1 ∨ 64 < k ∨ b < 0 ∨ 1000000 < b
  · rw [if_pos hbad] at h
    exact ⟨fun _ => h, fun k1 => ⟨fun _ => h, fun k2 => ⟨fun _ => h, fun b1 => ⟨fun _ => h, fun b2 => by omega⟩⟩⟩⟩
  · rw [if_neg hbad] at h
    exact ⟨fun k1 => by omega, fun _ => ⟨fun k2 => by omega, fun _ => ⟨fun b1 => by omega, fun _ => ⟨fun b2 => by omega, fun _ => h⟩⟩⟩⟩

theorem spec.theodolitekeep_Rows {s t : Sl} {a c : List Rw} {u : H} {K : Bool → H → Prop} (hs : Rws u s a) (ht : Rws u t c) (h : K (decide (a.map Rw.pr = c.map Rw.pr)) u) : C.theodolitekeep_Rows s t u K := by
  have key : ∀ z, decide (a.map Rw.pr = c.map Rw.pr) = z → K z u := fun z e => e ▸ h
  have hn := hs.len
  have hm := ht.len
  have hx := hs.max
  apply vc.theodolitekeep_Rows
  refine ⟨fun hne => key false ?_, fun heq => ?_⟩
  · refine decide_eq_false fun e => hne ?_
    have := congrArg List.length e
    simp at this
    omega
  refine ⟨fun _ i w => w = u ∧ 0 ≤ i ∧ i ≤ a.length ∧ (a.take i.toNat).map Rw.pr = (c.take i.toNat).map Rw.pr, fun _ i _ => a.length - i.toNat, ⟨rfl, by omega, by omega, by simp⟩, ?_⟩
  rintro bb i w ⟨rfl, i0, i1, hsame⟩
  refine ⟨fun hil => ?_, fun hig => ?_⟩
  · intro K5 hK5
    obtain ⟨p, hp, r, hr, c0, c1, c2⟩ := hs.at i0 hil
    obtain ⟨q, hq, r', hr', d0, d1, d2⟩ := ht.at (x := i) i0 (by omega)
    have bad : r.pr ≠ r'.pr → K false w := fun hne => key false (decide_eq_false fun e => hne (by
      have := congrArg (fun z => z[i.toNat]?) e
      simp only [List.getElem?_map, hr, hr', Option.map_some, Option.some.injEq] at this
      exact this))
    refine ⟨p, hp, ⟨i0, hil⟩, q, hq, ⟨i0, by omega⟩, _, c0, _, d0, fun hne => bad fun e => hne (congrArg Prod.fst e), fun hid => ⟨p, hp, ⟨i0, hil⟩, q, hq, ⟨i0, by omega⟩, _, c1, _, d1, spec.theodolitekeep_Ints c2 d2 ⟨fun hne => bad fun e => hne ?_, fun hv => hK5 _ _ ⟨⟨by omega, by omega⟩, ⟨rfl, by omega, by omega, ?_⟩, by dsimp only; omega⟩⟩⟩⟩
    · rw [decide_eq_true_eq]; exact congrArg Prod.snd e
    · rw [show (i + 1).toNat = i.toNat + 1 by omega, List.take_add_one, List.take_add_one, hr, hr', List.map_append, List.map_append, hsame]
      have : r.pr = r'.pr := by
        unfold Rw.pr
        rw [hid, of_decide_eq_true hv]
      simp [this]
  · have hil : i.toNat = a.length := by
      have : ¬ i < (s.n : Int) := hig
      omega
    rw [List.take_of_length_le (by omega), List.take_of_length_le (by omega)] at hsame
    exact key true (decide_eq_true hsame)

theorem askErr_ok {q : List Int} {d k b : Int} : askErr q d k b = 0 ↔ vcheck q d = 0 ∧ 1 ≤ k ∧ k ≤ 64 ∧ 0 ≤ b ∧ b ≤ 1000000 := by
  unfold askErr
  by_cases h1 : vcheck q d = 0
  · rw [if_neg (by simpa using h1)]
    by_cases h2 : k < 1 ∨ 64 < k ∨ b < 0 ∨ 1000000 < b
    · rw [if_pos h2]; constructor
      · intro h; cases h
      · rintro ⟨_, h3⟩; omega
    · rw [if_neg h2]; exact ⟨fun _ => ⟨h1, by omega⟩, fun _ => rfl⟩
  · rw [if_pos h1]
    exact ⟨fun h => absurd h h1, fun h => absurd h.1 h1⟩

end Go.Proofs.YtncninpdlpemgaaGreat

/- VcKd1 -/
namespace Go.Proofs.YtncninpdlpemgaaGreat.Kd

theorem spec.cut {ub u : H} {tb : Nat} {d leaf : Int} {s : Sl} {l : List Rw} {K : Option Addr → H → Prop} (hlf : 1 ≤ leaf) (td : ub.cell? ⟨tb, 0, none⟩ = some (.int .i64 d)) (tl : ub.cell? ((Addr.mk tb 0 none).add 1) = some (.int .i64 leaf))
    (ho : OwnF ub u 43 2 s (l.flatMap encR)) (hv : ∀ r ∈ l, Ints ub r.s r.v) (hok : Rok l d) (h0 : l = [] → ∀ u', u.le u' → K none u') (hK : l ≠ [] → ∀ u' n, CutR ub u s l d u' n → PtSh 2 n.pt → K (some ⟨n.b, 0, none⟩) u') : C.kdtree_Tree__cut (some ⟨tb, 0, none⟩) s u K := by
  have hub := ho.le
  apply vc.kdtree_Tree__cut
  intro n0 hn0 n1 hn1
  obtain ⟨o0, ho0⟩ : ∃ o0, o0 = (Obj.cells #[Value.pointer (some ⟨tb, 0, none⟩)] 30 (0, 0)) := ⟨_, rfl⟩
  rw [← ho0] at hn1 ⊢
  have hn01 : n0 ≠ n1 := fun e => by rw [← e, H.ins_same] at hn1; cases hn1
  have hn1u : u n1 = none := by rw [H.ins_other _ _ (Ne.symm hn01)] at hn1; exact hn1
  refine st_new (zs := [.nilFunc]) rfl (by simp [Value.oneCell']) ?_
  obtain ⟨o1, ho1⟩ : ∃ o1, o1 = (Obj.cells [cutV n0 n1].toArray 88 (0, 0)) := ⟨_, rfl⟩
  rw [← ho1]
  obtain ⟨u2, hu2⟩ : ∃ u2, u2 = (u.ins n0 o0).ins n1 o1 := ⟨_, rfl⟩
  rw [← hu2]
  have lu2 : u.le u2 := by rw [hu2]; exact (H.le_ins _ hn0).trans (H.le_ins _ hn1)
  have d0 : u2 n0 = some o0 := by rw [hu2, H.ins_other _ _ hn01, H.ins_same]
  have d1 : u2 n1 = some o1 := by rw [hu2, H.ins_same]
  obtain ⟨ub2, hub2⟩ : ∃ ub2 : H, ub2 = fun c => if c = n0 then some o0 else if c = n1 then some o1 else ub c := ⟨_, rfl⟩
  have b0 : ub2 n0 = some o0 := by rw [hub2]; exact if_pos rfl
  have b1 : ub2 n1 = some o1 := by
    rw [hub2]
    show (if n1 = n0 then _ else if n1 = n1 then _ else _) = _
    rw [if_neg (Ne.symm hn01), if_pos rfl]
  have b2 : ∀ {c}, c ≠ n0 → c ≠ n1 → ub2 c = ub c := fun {c} h1 h2 => by
    rw [hub2]
    show (if c = n0 then _ else if c = n1 then _ else _) = _
    rw [if_neg h1, if_neg h2]
  have lb : ub.le ub2 := fun c o hc => by
    rw [b2 (fun e => by rw [e, hub.none hn0] at hc; cases hc) (fun e => by rw [e, hub.none hn1u] at hc; cases hc)]
    exact hc
  have lb2 : ub2.le u2 := fun c o hc => by
    by_cases e0 : c = n0
    · rw [e0, b0] at hc; rw [e0, d0]; exact hc
    · by_cases e1 : c = n1
      · rw [e1, b1] at hc; rw [e1, d1]; exact hc
      · rw [b2 e0 e1] at hc; exact lu2 c o (hub c o hc)
  have ho2 : OwnF ub2 u2 43 2 s (l.flatMap encR) := ⟨(ho.mono lu2).own, lb2, fun g hg => by
    rw [b2 (fun e => own_known ho hg (by rw [e]; exact hn0)) (fun e => own_known ho hg (by rw [e]; exact hn1u))]
    exact ho.fresh g hg⟩
  have hin : CutIn ub2 n0 n1 tb d leaf := ⟨by rw [ho0] at b0; exact H.cell?_of b0 0, by rw [ho1] at b1; exact H.cell?_of b1 0, H.le.cell lb td, H.le.cell lb tl⟩
  refine ⟨_, H.le.cell lb2 hin.c1, .inl ⟨_, _, _, rfl, bodyOf bCut, ?_⟩⟩
  exact spec.cut1 hlf l.length (Nat.le_refl _) hin ho2 (fun r hr => (hv r hr).mono lb) hok (fun e => h0 e u2 lu2) fun hne u' n hc hsh => hK hne u' n ⟨hc.one, hc.nodup, fun c hm => ⟨lb.none (hc.out c hm).1, (hc.out c hm).2⟩, hc.all, hc.ok, hc.rows, hc.size, fun c o h1 h2 => hc.else' c o (lu2 c o h1) h2⟩ hsh

/-! ### the tree -/
inductive Tg where
  | tree | map | node | vec

structure Tr where
  dim : Int
  leaf : Int
  root : Option PN
  m : Nat
  w : List (Int × (Sl × List Int))
  gas : Nat

def Tr.links (T : Tr) : Int := T.leaf
def treeC (T : Tr) : List Value := [.int .i64 T.dim, .int .i64 T.leaf, .pointer (T.root.map fun n => ⟨n.b, 0, none⟩), .map (some T.m)]
def entL (w : List (Int × (Sl × List Int))) : List (Int × Value) := w.map fun e => (e.1, .slice e.2.1.a e.2.1.n e.2.1.c)

structure TrAt (fp : Nat → Option Tg) (u : H) (b : Nat) (T : Tr) : Prop where
  cell : u b = some (.cells (treeC T).toArray 86 (0, 0))
  btag : fp b = some .tree
  map : MapAt u T.m (entL T.w)
  mtag : fp T.m = some .map
  vec : ∀ e ∈ T.w, Ints u e.2.1 e.2.2 ∧ ∀ g, e.2.1.blk = some g → fp g = some .vec
  one : ∀ n, T.root = some n → (∀ x ∈ n.heads, PhAt u x) ∧ n.own.Nodup ∧ (∀ c ∈ n.own, fp c = some .node) ∧ ∀ x ∈ n.heads, ∀ r ∈ x.1.rows, ∀ g, r.s.blk = some g → fp g = some .vec

theorem TrAt.keep {fp fp' : Nat → Option Tg} {u u' : H} {b : Nat} {T : Tr} (h : TrAt fp u b T) (hf : ∀ c, fp c ≠ none → fp' c = fp c) (hu : ∀ c o, u c = some o → fp c ≠ none → u' c = some o) : TrAt fp' u' b T where
  cell := hu _ _ h.cell (by rw [h.btag]; simp)
  btag := by rw [hf _ (by rw [h.btag]; simp)]; exact h.btag
  map := h.map.else fun o ho => hu _ _ ho (by rw [h.mtag]; simp)
  mtag := by rw [hf _ (by rw [h.mtag]; simp)]; exact h.mtag
  vec e he := by
    obtain ⟨h1, h2⟩ := h.vec e he
    exact ⟨Seg.else h1 fun g o hg ho => hu g o ho (by rw [h2 g hg]; simp), fun g hg => by rw [hf g (by rw [h2 g hg]; simp)]; exact h2 g hg⟩
  one n hn := by
    obtain ⟨h1, h2, h3, h4⟩ := h.one n hn
    refine ⟨fun x hx => (h1 x hx).keep (fun c o hc ho => hu c o ho (by rw [h3 c (List.mem_flatMap.2 ⟨x, hx, hc⟩)]; simp)) fun r hr => Seg.else ((h1 x hx).vec r hr) fun g o hg ho => hu g o ho (by rw [h4 x hx r hr g hg]; simp), h2, fun c hc => by rw [hf c (by rw [h3 c hc]; simp)]; exact h3 c hc, fun x hx r hr g hg => by rw [hf g (by rw [h4 x hx r hr g hg]; simp)]; exact h4 x hx r hr g hg⟩

theorem keep : KeepG TrAt := ⟨fun h hf hu => h.keep hf hu⟩
abbrev In := InG TrAt

def rootAll (T : Tr) : List Prw := match T.root with
  | none => []
  | some n => n.pt.all

def ixRows (X : Tr) : List (Int × List Int) := X.w.map fun e => (e.1, e.2.2)

structure TOk (T : Tr) : Prop where
  dm : 1 ≤ T.dim ∧ T.dim ≤ 64
  lf : 1 ≤ T.leaf ∧ T.leaf ≤ 64
  ids : ∀ e ∈ T.w, 1 ≤ e.1 ∧ e.1 ≤ 1000000000
  vec : ∀ e ∈ T.w, (e.2.2.length : Int) = T.dim ∧ vok e.2.2
  small : T.w.length ≤ 512
  rows : (rootAll T).Perm (ixRows T)
  ok : ∀ n, T.root = some n → PtOk T.dim n.pt
  shp : ∀ n, T.root = some n → PtSh 2 n.pt
  size : ∀ n, T.root = some n → n.heads.length ≤ 1100 * T.gas + 2000

theorem mapTy : MapTy Tryz.prog 84 3 41 (.slice none 0 0) := ⟨by kernel_rfl, by kernel_rfl, fun _ => by kernel_rfl⟩
theorem ent_len (T : Tr) : (entL T.w).length = (ixRows T).length := by simp [entL, ixRows]

theorem TrAt.wnodup {fp : Nat → Option Tg} {u : H} {b : Nat} {T : Tr} (h : TrAt fp u b T) : ((ixRows T).map (·.1)).Nodup := by
  obtain ⟨es, cl, _, he⟩ := h.map
  have := he.nodup
  unfold entL at this
  rw [List.map_map] at this
  unfold ixRows
  rw [List.map_map]
  exact this

theorem spec.Len {u0 u : H} {fp : Nat → Option Tg} {b : Nat} {T : Tr} {K : Int → H → Prop} (h : In u0 u fp b T) (hK : K (ixRows T).length u) : C.kdtree_Tree__Len (some ⟨b, 0, none⟩) u K := by
  apply vc.kdtree_Tree__Len
  refine ⟨fun e => (by cases e), fun _ => ⟨_, rfl, _, H.cell?_of h.tr.cell 3, sem_maplen mapTy h.tr.map ?_⟩⟩
  rw [ent_len]
  exact hK

end Go.Proofs.YtncninpdlpemgaaGreat.Kd

/- VcKd2 -/
namespace Go.Proofs.YtncninpdlpemgaaGreat.Kd

structure DelRes (u0 u : H) (fp : Nat → Option Tg) (b : Nat) (T : Tr) (id : Int) (u' : H) (fp' : Nat → Option Tg) (T' : Tr) : Prop where
  is : In u0 u' fp' b T'
  turn : TurnG u fp u' fp'
  ok : TOk T'
  rows : ixRows T' = (ixRows T).filter fun x => x.1 != id
  dim : T'.dim = T.dim
  leaf : T'.leaf = T.leaf
  gas : T'.gas = T.gas

theorem getE (w : List (Int × (Sl × List Int))) (x : Int) : (getL (entL w) x = none ∧ x ∉ w.map (·.1)) ∨ ∃ e, e ∈ w ∧ e.1 = x ∧ getL (entL w) x = some (.slice e.2.1.a e.2.1.n e.2.1.c) := by
  cases h : getL (entL w) x with
  | none =>
    left
    have := getL_none.1 h
    unfold entL at this
    rw [List.map_map] at this
    exact ⟨rfl, this⟩
  | some v =>
    right
    have := getL_mem h
    obtain ⟨e, he, e2⟩ := List.mem_map.1 this
    have e3 : e.1 = x := congrArg Prod.fst e2
    have e4 : Value.slice e.2.1.a e.2.1.n e.2.1.c = v := congrArg Prod.snd e2
    exact ⟨e, he, e3, by rw [e4]⟩

theorem keys_ix (T : Tr) : (ixRows T).map (·.1) = T.w.map (·.1) := by unfold ixRows; rw [List.map_map]; rfl

theorem ent_filter (w : List (Int × (Sl × List Int))) (id : Int) : (entL w).filter (fun p => p.1 != id) = entL (w.filter fun e => e.1 != id) := by
  unfold entL
  rw [List.filter_map]
  rfl

theorem spec.Delete {u0 u : H} {fp : Nat → Option Tg} {b : Nat} {T : Tr} {id : Int} {K : Bool → Int → H → Prop} (h : In u0 u fp b T) (hT : TOk T) (hgas : T.gas ≤ 4000) (hno : id ∉ T.w.map (·.1) → ∀ u', u.le u' → K false 0 u')
    (hyes : id ∈ T.w.map (·.1) → ∀ u' fp' T', DelRes u0 u fp b T id u' fp' T' → K true 0 u') : C.kdtree_Tree__Delete (some ⟨b, 0, none⟩) id u K := by
  apply vc.kdtree_Tree__Delete
  intro n0 hn0
  obtain ⟨u1, hu1⟩ : ∃ u1, u1 = u.ins n0 (.cells #[.int .i64 id] 3 (0, 0)) := ⟨_, rfl⟩
  have l1 : u.le u1 := by rw [hu1]; exact H.le_ins _ hn0
  have d0 : u1 n0 = some (.cells #[.int .i64 id] 3 (0, 0)) := by rw [hu1]; exact H.ins_same _ _ _
  rw [← hu1]
  have i1 := InG.mono keep h l1
  have tr := i1.tr
  refine ⟨fun e => (by cases e), fun _ => ⟨_, rfl, _, H.cell?_of tr.cell 3, id, H.cell?_of d0 0, ?_⟩⟩
  rcases getE T.w id with ⟨hg, hm⟩ | ⟨e, he, hid, hg⟩
  · refine sem_get2 mapTy tr.map (ct := .slice) (⟨none, 0, 0⟩ : Sl) (by rw [hg]; rfl) ⟨fun _ => hno hm u1 l1, fun hx => ?_⟩
    rw [hg] at hx; cases hx
  · have hin : id ∈ T.w.map (·.1) := List.mem_map.2 ⟨e, he, hid⟩
    refine sem_get2 mapTy tr.map (ct := .slice) e.2.1 (by rw [hg]; rfl) ⟨fun hx => ?_, fun _ => ?_⟩
    · rw [hg] at hx; exact absurd rfl hx
    refine ⟨_, rfl, _, H.cell?_of tr.cell 3, id, H.cell?_of d0 0, ?_⟩
    refine sem_del mapTy tr.map fun o hmap => ?_
    obtain ⟨u10, hu10⟩ : ∃ u10, u10 = u1.ins T.m o := ⟨_, rfl⟩
    rw [← hu10] at hmap ⊢
    have mb : ∀ {c}, fp c ≠ some .map → c ≠ T.m := fun hc e => hc (by rw [e]; exact tr.mtag)
    have e10 : ∀ c o, u1 c = some o → c ≠ T.m → u10 c = some o := fun c o' hc hne => by rw [hu10, H.ins_other _ _ hne]; exact hc
    have m10 : u10 T.m = some o := by rw [hu10]; exact H.ins_same _ _ _
    have n0m : n0 ≠ T.m := fun e => by
      have := h.known T.m (by rw [h.tr.mtag]; simp)
      rw [← e] at this; exact this hn0
    intro n11 hn11
    refine st_new (zs := [.nilFunc]) rfl (by simp [Value.oneCell']) ?_
    obtain ⟨o11, ho11⟩ : ∃ o11, o11 = (Obj.cells [Value.func (.func 50) #[] #[.pointer (some ⟨n0, 0, none⟩), .pointer (some ⟨n11, 0, none⟩)]].toArray 98 (0, 0)) := ⟨_, rfl⟩
    rw [← ho11]
    obtain ⟨u12, hu12⟩ : ∃ u12, u12 = u10.ins n11 o11 := ⟨_, rfl⟩
    rw [← hu12]
    have l12 : u10.le u12 := by rw [hu12]; exact H.le_ins _ hn11
    have d11 : u12 n11 = some o11 := by rw [hu12]; exact H.ins_same _ _ _
    have e12 : ∀ c o', u1 c = some o' → c ≠ T.m → u12 c = some o' := fun c o' hc hne => l12 c o' (e10 c o' hc hne)
    have c12 : u12 b = some (.cells (treeC T).toArray 86 (0, 0)) := e12 b _ tr.cell (mb (by rw [tr.btag]; simp))
    -- there is a root
    obtain ⟨n, hn⟩ : ∃ n, T.root = some n := by
      cases hr : T.root with
      | some n => exact ⟨n, rfl⟩
      | none =>
        have h1 := hT.rows.length_eq
        unfold rootAll at h1
        rw [hr] at h1
        have h2 := List.length_pos_of_mem he
        simp [ixRows] at h1
        omega
    obtain ⟨q1, q2, q3, q4⟩ := tr.one n hn
    have hcr : u12.cell? ((Addr.mk b 0 none).add 2) = some (.pointer (some ⟨n.b, 0, none⟩)) := by
      have hx : treeC T = [.int .i64 T.dim, .int .i64 T.leaf, .pointer (some ⟨n.b, 0, none⟩), .map (some T.m)] := by simp [treeC, hn]
      rw [hx] at c12
      exact H.cell?_of c12 2
    refine ⟨_, rfl, _, by rw [ho11] at d11; exact H.cell?_of d11 0, _, hcr, _, _, _, rfl, bodyOf bDrop, ?_⟩
    -- what the drop leaves alone
    obtain ⟨ub, hub⟩ : ∃ ub : H, ub = fun c => open Classical in if c ∈ n.own then none else u12 c := ⟨_, rfl⟩
    have ub1 : ∀ {c}, c ∈ n.own → ub c = none := fun hc => by rw [hub]; exact if_pos hc
    have ub2 : ∀ {c}, c ∉ n.own → ub c = u12 c := fun hc => by rw [hub]; exact if_neg hc
    have lub : ub.le u12 := fun c o' hc => by
      by_cases e : c ∈ n.own
      · rw [ub1 e] at hc; cases hc
      · rw [ub2 e] at hc; exact hc
    have notown : ∀ {c}, fp c ≠ some .node → c ∉ n.own := fun hc e => hc (q3 _ e)
    have n0own : n0 ∉ n.own := fun e => h.known n0 (by rw [q3 n0 e]; simp) hn0
    have n11own : n11 ∉ n.own := fun e => by
      have h1 := i1.known n11 (by rw [q3 n11 e]; simp)
      obtain ⟨o', ho'⟩ := Option.ne_none_iff_exists'.1 h1
      have := e10 n11 o' ho' (mb (by rw [q3 n11 e]; simp))
      rw [hn11] at this; cases this
    have hc0 : ub.cell? ⟨n0, 0, none⟩ = some (.int .i64 id) := by
      have z0 : ub n0 = some (.cells #[.int .i64 id] 3 (0, 0)) := by rw [ub2 n0own]; exact e12 _ _ d0 n0m
      exact H.cell?_of z0 0
    have hc1 : ub.cell? ⟨n11, 0, none⟩ = some (.func (.func 50) #[] #[.pointer (some ⟨n0, 0, none⟩), .pointer (some ⟨n11, 0, none⟩)]) := by
      have z1 : ub n11 = some o11 := by rw [ub2 n11own]; exact d11
      rw [ho11] at z1
      exact H.cell?_of z1 0
    have hph : ∀ x ∈ n.heads, PhAt u12 x := fun x hx => (q1 x hx).keep (fun c o' hc ho' => e12 c o' ho' (mb (by rw [q3 c (List.mem_flatMap.2 ⟨x, hx, hc⟩)]; simp))) fun r hr => Seg.else ((q1 x hx).vec r hr) fun g o' hg ho' => e12 g o' ho' (mb (by rw [q4 x hx r hr g hg]; simp))
    have hvec : ∀ x ∈ n.heads, ∀ r ∈ x.1.rows, Ints ub r.s r.v := fun x hx r hr => Seg.else ((q1 x hx).vec r hr) fun g o' hg ho' => by
      rw [ub2 (notown (by rw [q4 x hx r hr g hg]; simp))]
      exact e12 g o' ho' (mb (by rw [q4 x hx r hr g hg]; simp))
    have hsz := hT.size n hn
    refine spec.drop hc0 hc1 n lub hph q2 (fun c hc => ub1 hc) hvec (by omega) fun u16 n' hd hel hkn => ?_
    have e16 : ∀ c o', u1 c = some o' → c ≠ T.m → c ∉ n.own → u16 c = some o' := fun c o' hc hne hno' => hel c o' (e12 c o' hc hne) hno'
    have b16 : u16 b = some (.cells (treeC T).toArray 86 (0, 0)) := e16 b _ tr.cell (mb (by rw [tr.btag]; simp)) (notown (by rw [tr.btag]; simp))
    have hmap16 : MapAt u16 T.m (entL (T.w.filter fun e => e.1 != id)) := by
      rw [← ent_filter]
      exact hmap.else fun o' ho' => hel _ _ (l12 _ _ ho') (notown (by rw [tr.mtag]; simp))
    have vec16 : ∀ {s : Sl} {v : List Int}, Ints u1 s v → (∀ g, s.blk = some g → fp g = some .vec) → Ints u16 s v := fun hi hg => Seg.else hi fun g o' hg' ho' => e16 g o' ho' (mb (by rw [hg g hg']; simp)) (notown (by rw [hg g hg']; simp))
    obtain ⟨T', hT'⟩ : ∃ T' : Tr, T' = { T with root := some n', w := T.w.filter fun e => e.1 != id } := ⟨_, rfl⟩
    have hfil : ixRows T' = (ixRows T).filter fun x => x.1 != id := by
      rw [hT']
      unfold ixRows
      rw [List.filter_map]
      rfl
    have k16 : ∀ c, u1 c ≠ none → u16 c ≠ none := fun c hc => hkn c fun e => by
      by_cases e2 : c = T.m
      · rw [e2, l12 _ _ m10] at e; cases e
      · obtain ⟨o', ho'⟩ := Option.ne_none_iff_exists'.1 hc
        rw [e12 c o' ho' e2] at e; cases e
    refine hyes hin u16 fp T' ⟨⟨?_, fun c o' hc => ?_, h.out, fun c hc => k16 c (i1.known c hc)⟩, ⟨fun c o' hc hf => e16 c o' (l1 c o' hc) (mb (by rw [hf]; simp)) (notown (by rw [hf]; simp)), fun c hc => .inl hc⟩, ?_, hfil, by rw [hT'], by rw [hT'], by rw [hT']⟩
    · subst hT'
      refine ⟨?_, tr.btag, hmap16, tr.mtag, fun e' he' => ?_, fun n2 hn2 => ?_⟩
      · rw [b16]
        simp [treeC, hn, hd.b]
      · obtain ⟨v1, v2⟩ := tr.vec e' (List.mem_filter.1 he').1
        exact ⟨vec16 v1 v2, v2⟩
      · obtain rfl := Option.some.inj (show some n' = some n2 from hn2)
        exact ⟨hd.one, by rw [hd.own]; exact q2, fun c hc => q3 c (by rw [← hd.own]; exact hc), fun x hx r hr g hg => by
          obtain ⟨y, hy, hry⟩ := hd.rows x hx r hr
          exact q4 y hy r hry g hg⟩
    · have hf0 := h.out
      have h1 := h.le c o' hc
      have hf : fp c = none := by
        cases e : fp c with
        | none => rfl
        | some t => have := h.out c (by rw [e]; simp); rw [hc] at this; cases this
      exact e16 c o' (l1 c o' h1) (mb (by rw [hf]; simp)) (notown (by rw [hf]; simp))
    · have hpt := hT.ok n hn
      refine ⟨by rw [hT']; exact hT.dm, by rw [hT']; exact hT.lf, fun e' he' => ?_, fun e' he' => ?_, ?_, ?_, fun n2 hn2 => ?_, fun n2 hn2 => ?_, fun n2 hn2 => ?_⟩
      · rw [hT'] at he'; exact hT.ids e' (List.mem_filter.1 he').1
      · rw [hT'] at he' ⊢; exact hT.vec e' (List.mem_filter.1 he').1
      · rw [hT']; exact Nat.le_trans (List.length_filter_le _ _) hT.small
      · rw [hfil]
        have hr := hT.rows
        rw [hT']
        unfold rootAll at hr ⊢
        rw [hn] at hr
        show n'.pt.all.Perm _
        rw [hd.pt, Pt.del_all]
        exact hr.filter _
      · rw [hT'] at hn2 ⊢
        obtain rfl := Option.some.inj (show some n' = some n2 from hn2)
        rw [hd.pt]
        exact Pt.del_ok hpt
      · rw [hT'] at hn2
        obtain rfl := Option.some.inj (show some n' = some n2 from hn2)
        rw [hd.pt]
        exact (hT.shp n hn).del
      · rw [hT'] at hn2 ⊢
        obtain rfl := Option.some.inj (show some n' = some n2 from hn2)
        rw [← PN.pt_size, hd.pt, Pt.del_size, PN.pt_size]
        exact hsz

end Go.Proofs.YtncninpdlpemgaaGreat.Kd
