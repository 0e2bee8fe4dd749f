/- topk: New, Offer, List; slices.Clone. -/
import Derived.Test.YtgfafpiinencpaaGreatVcTopk
namespace Go.Proofs.YtgfafpiinencpaaGreat

theorem sem_clone {P : Program} {t e : TypeId} {size bytes : Nat} {zs : List Value} (hT : elemT P t = some (e, size, bytes, zs)) (hB : buildOf P t 0 #[] = some (e, [])) (hsz : 0 < size) {u : H} {s : Sl} {xs : List Value}
    (hs : Seg u s size xs) (h1 : ∀ y ∈ xs, y.oneCell' = true) (hb : s.n * bytes ≤ 140737488355328) {K : Sl → H → Prop} (hK : ∀ s' u', OwnF u u' e size s' xs → s'.n = s.n → K s' u') :
    SemT P (Instr.buildSlice t 0 #[]) [.one .slice] u fun s0 u1 => SemT P (Builtin.append_ #[t, t] t #[.slice s0.a s0.n s0.c, .slice s.a s.n s.c]) [.one .slice] u1 K := by
  refine sem_build hB fun g hg => ?_
  have h0 := OwnF.make (k := size) (H.le.refl u) hg (cells := #[]) (e := e) (n := 0) (by omega) (by simp)
  have hmx := Nat.le_trans hs.cap hs.max
  refine sem_append hT hsz h0.own (hs.mono (H.le_ins _ hg)) h1 (by simp only [Nat.zero_add]; exact hmx) (by simpa using hb) fun s' u' ho hn hgr _ => hK s' u' ⟨by simpa using ho, hgr.le h0.le h0.fresh, fun g' hg' => hgr.out h0.le h0.fresh g' hg'⟩ (by simpa using hn)

theorem seg_nil {u : H} {s : Sl} {size : Nat} {xs : List Value} (h : Seg u s size xs) (hn : s.a = none) : xs = [] := by
  rcases h.at' with h | ⟨p, hp, _⟩
  · exact h
  · rw [hn] at hp; cases hp

theorem build_hits0 : buildOf Tryz.prog 29 0 #[] = some (62, []) := by kernel_rfl
theorem build_ints0 : buildOf Tryz.prog 23 0 #[] = some (3, []) := by kernel_rfl

theorem spec.slices_Clone__api_Hit_ {s : Sl} {l : List Hit} {u : H} {K : Sl → H → Prop} (hs : Hts u s l) (hb : s.n ≤ 1099511627776) (hK : ∀ s' u', OwnF u u' 62 3 s' (l.flatMap encH) → s'.n = s.n → K s' u') : C.slices_Clone__api_Hit_ s u K := by
  apply vc.slices_Clone__api_Hit_
  refine ⟨fun hn => ?_, fun _ => sem_clone tHits build_hits0 (by decide) hs ?_ (by omega) hK⟩
  · have hl := seg_nil hs hn
    have hl2 : s.n = 0 := by have := Seg.len hs; rw [hl] at this; simp at this; omega
    refine hK _ _ ?_ hl2.symm
    rw [hl]
    exact OwnF.nil (H.le.refl u) _ _
  · intro y hy
    obtain ⟨h, _, hy⟩ := List.mem_flatMap.1 hy
    exact encH_one h y hy

theorem spec.slices_Clone___int_int_ {s : Sl} {l : List Int} {u : H} {K : Sl → H → Prop} (hs : Ints u s l) (hb : s.n ≤ 1099511627776) (hK : ∀ s' u', OwnF u u' 3 1 s' (l.flatMap encI) → s'.n = s.n → K s' u') : C.slices_Clone___int_int_ s u K := by
  have hs' : Seg u s 1 (l.flatMap encI) := by rw [flatI]; exact hs
  apply vc.slices_Clone___int_int_
  refine ⟨fun hn => ?_, fun _ => sem_clone tInts build_ints0 (by decide) hs' ?_ (by omega) hK⟩
  · have hl := seg_nil hs' hn
    have hl2 : s.n = 0 := by have := Seg.len hs'; rw [hl] at this; simp at this; omega
    refine hK _ _ ?_ hl2.symm
    rw [hl]
    exact OwnF.nil (H.le.refl u) _ _
  · intro y hy
    obtain ⟨h, _, hy⟩ := List.mem_flatMap.1 hy
    exact encI_one h y hy

/-- A heap that holds the first k of what it was offered. -/
def TopAt (u0 : H) (n : Nat) (k : Int) (u : H) (S : List Hit) : Prop := ∃ l, TopSt u0 n k u l ∧ Hp (fun a b => hlt b a) l.length l ∧ l.Perm (topk k.toNat S)

theorem TopAt.le {u0 u : H} {n : Nat} {k : Int} {S : List Hit} (h : TopAt u0 n k u S) : u0.le u := by
  obtain ⟨l, h, _, _⟩ := h
  obtain ⟨s, _, ho, _⟩ := h.ex
  exact ho.le

theorem TopAt.mono {u0 u u' : H} {n : Nat} {k : Int} {S : List Hit} (h : TopAt u0 n k u S) (hu : u.le u') : TopAt u0 n k u' S := by
  obtain ⟨l, h, h2, h3⟩ := h
  obtain ⟨s, hn, ho, hne⟩ := h.ex
  exact ⟨l, ⟨⟨s, hu _ _ hn, ho.mono hu, hne⟩, h.out, h.small⟩, h2, h3⟩

theorem TopAt.rebase {u0 u : H} {n : Nat} {k : Int} {S : List Hit} (h : TopAt u0 n k u S) {m : Nat} (hm : u m = none) (o : Obj) : TopAt (u0.ins m o) n k (u.ins m o) S := by
  obtain ⟨l, h, h2, h3⟩ := h
  obtain ⟨s, hn, ho, hne⟩ := h.ex
  have hmn : n ≠ m := fun e => by rw [e, hm] at hn; cases hn
  exact ⟨l, ⟨⟨s, by rw [H.ins_other _ _ hmn]; exact hn, ho.rebase hm o, hne⟩, by rw [H.ins_other _ _ hmn]; exact h.out, h.small⟩, h2, h3⟩

theorem OwnF.insOut {u0 u : H} {e k : Nat} {s : Sl} {xs : List Value} (h : OwnF u0 u e k s xs) {D : Nat} (hD : u0 D = none) (hb : s.blk ≠ some D) (o : Obj) : OwnF u0 (u.ins D o) e k s xs := by
  refine ⟨h.own.le fun b x hx hux => ?_, fun b x hx => ?_, h.fresh⟩
  · rw [H.ins_other _ _ (fun e => hb (by rw [hx, e]))]; exact hux
  · rw [H.ins_other _ _ (fun e => by rw [e, hD] at hx; cases hx)]; exact h.le b x hx

theorem TopAt.perm {u0 u : H} {n : Nat} {k : Int} {S T : List Hit} (h : TopAt u0 n k u S) (hp : S.Perm T) : TopAt u0 n k u T := by
  obtain ⟨l, h1, h2, h3⟩ := h
  exact ⟨l, h1, h2, by rw [← topk_eq hp]; exact h3⟩

theorem spec.topk_New {k : Int} {u : H} {K : Option Addr → Int → H → Prop} (hbad : k < 1 ∨ 64 < k → K none 1 u) (hok : 1 ≤ k → k ≤ 64 → ∀ n u', u.le u' → u n = none → TopAt u n k u' [] → K (some ⟨n, 0, none⟩) 0 u') : C.topk_New k u K := by
  apply vc.topk_New
  refine ⟨fun h => hbad (.inl h), fun h => ⟨fun h2 => hbad (.inr h2), fun h2 n hn => hok (by omega) (by omega) n _ (H.le_ins _ hn) hn ?_⟩⟩
  refine ⟨[], ⟨⟨⟨none, 0, 0⟩, H.ins_same _ _ _, OwnF.nil (H.le_ins _ hn) _ _, by simp [Sl.blk]⟩, hn, by simp⟩, fun i _ hi => by simp at hi, ?_⟩
  simp [topk, sortH]

theorem spec.topk_Heap__Offer {u0 u : H} {n : Nat} {k : Int} {S : List Hit} {x : Hit} {K : Bool → H → Prop} (h : TopAt u0 n k u S) (k1 : 1 ≤ k) (k2 : k ≤ 64) (hK : ∀ b u', TopAt u0 n k u' (x :: S) → K b u') :
    C.topk_Heap__Offer (some ⟨n, 0, none⟩) x.1 (hiW x.2) (loW x.2) u K := by
  obtain ⟨l, hst, hh, hp⟩ := h
  obtain ⟨s, hn, ho, hne⟩ := hst.ex
  have hlen := hp.length_eq
  rw [topk_len] at hlen
  have hsn := ho.hts.len
  apply vc.topk_Heap__Offer
  have hc1 : u.cell? ((Addr.mk n 0 none).add 1) = some (.slice s.a s.n s.c) := by rw [add1]; exact H.cell?_of hn 1
  refine ⟨fun hx => (by cases hx), fun _ => ⟨_, rfl, _, rfl, s, hc1, k, H.cell?_of hn 0, fun hlt' => ⟨_, rfl, ?_⟩, fun hge => ?_⟩⟩
  · refine spec.heap_Push (topHeap u0 n k) heapLt (y := x) hh (fun hK' => heap_push hst (by omega) hK') fun u' l' hs' hp' hh' => hK true u' ⟨l', hs', hh', ?_⟩
    have hS : S.length < k.toNat := by omega
    obtain ⟨t1, t2⟩ := topk_room (x := x) hS
    exact hp'.trans (List.perm_append_singleton _ _ |>.trans ((List.Perm.cons x (hp.trans t2)).trans t1.symm))
  · have hk : l.length = k.toNat := by omega
    have hS : k.toNat ≤ S.length := by omega
    obtain ⟨p, hp1, r, hr, c0, c1, c2⟩ := ho.hts.at (x := 0) (by omega) (by omega)
    obtain ⟨t, rfl⟩ : ∃ t, l = r :: t := by
      cases l with
      | nil => simp at hr
      | cons a t => simp at hr; subst hr; exact ⟨t, rfl⟩
    have hroot : ∀ y ∈ r :: t, hlt r y = false := by
      intro y hy
      obtain ⟨i, hi, rfl⟩ := List.mem_iff_getElem.1 hy
      have := Hp.root heapLt hh i hi
      simpa [List.getD_eq_getElem?_getD, List.getElem?_eq_getElem hi] using this
    refine ⟨_, rfl, s, hc1, p, hp1, ⟨by omega, by omega⟩, _, c0, _, c1, _, c2, spec.topk_Less ⟨fun hb => hK false u ⟨r :: t, hst, hh, ?_⟩, fun hb => ⟨_, rfl, s, hc1, p, hp1, ⟨by omega, by omega⟩, ?_⟩⟩⟩
    · rw [topk_worse hS fun y hy => hlt_le_trans (hroot y (hp.mem_iff.2 hy)) (by simpa using hb)]
      exact hp
    · refine OwnF.store (enc := encH) encH_len ho (by decide) (i := 0) (by simp) (y := x) (encH_one x) hp1 fun u1 ho1 he1 _ => ⟨_, rfl, ?_⟩
      have hst1 : TopSt u0 n k u1 ((r :: t).set 0 x) := hst.set hn hne ho1 he1 (by simp)
      refine spec.heap_Fix (topHeap u0 n k) heapLt hst1 (by simp) (by simpa using hh.downI (Nat.le_refl _) x) fun u' l' hs' hp' hh' => hK true u' ⟨l', hs', hh', ?_⟩
      exact hp'.trans (topk_better hp hroot hb (by rw [topk_len]; omega))

theorem spec.topk_Heap__List {u0 u : H} {n : Nat} {k : Int} {S : List Hit} {K : Sl → H → Prop} (h : TopAt u0 n k u S) (hK : ∀ s' u', OwnF u u' 62 3 s' ((topk k.toNat S).flatMap encH) → K s' u') :
    C.topk_Heap__List (some ⟨n, 0, none⟩) u K := by
  obtain ⟨l, hst, hh, hp⟩ := h
  obtain ⟨s, hn, ho, hne⟩ := hst.ex
  have hsm := hst.small
  have hsn := ho.hts.len
  apply vc.topk_Heap__List
  have hc1 : u.cell? ((Addr.mk n 0 none).add 1) = some (.slice s.a s.n s.c) := by rw [add1]; exact H.cell?_of hn 1
  refine ⟨fun hx => (by cases hx), fun _ => ⟨_, rfl, s, hc1, spec.slices_Clone__api_Hit_ ho.hts (by omega) fun s' u' ho' _ => ?_⟩⟩
  refine spec.slices_SortFunc__api_Hit_ (cf := cmpH) cmpH_lt (enters_of Tryz.func50 (by kernel_rfl) rfl) compare_eq ho' (by omega) fun u2 ho2 _ => hK s' u2 ?_
  rw [sortH_eq hp] at ho2
  rw [← sortH_of (.refl _) (topk_srt _ _)] at ho2
  exact ho2

end Go.Proofs.YtgfafpiinencpaaGreat
