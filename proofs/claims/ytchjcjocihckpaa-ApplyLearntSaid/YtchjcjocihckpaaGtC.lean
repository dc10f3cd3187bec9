/- Contracts: the changes of a ledger, rising. -/
import Derived.Test.YtchjcjocihckpaaGsC
import Derived.Test.YtchjcjocihckpaaHpC
namespace Go.Proofs.Ytchjcjocihckpaa.G
open Go Go.RowKit Go.Shelf Go.Lib Go.Sort
/-- A pair and by how much more often it is there. -/
abbrev Ch := Pr × Int
def chE (x : Ch) : List Value := [.int .i64 x.1.1, .int .i64 x.1.2, .int .i64 x.2]
theorem chE_len (x : Ch) : (chE x).length = 3 := rfl
theorem grown_of {w w' : World} (x : Ext w w') (hd : w.drawn ≤ w'.drawn) : ∃ q os', w' = grow (w.drewN q) os' := by
  refine ⟨w'.drawn - w.drawn, w'.heap.extract w.heap.size w'.heap.size, ?_⟩
  have hh : w.heap ++ w'.heap.extract w.heap.size w'.heap.size = w'.heap := by
    apply Array.ext_getElem?
    intro i
    by_cases h : i < w.heap.size
    · rw [Array.getElem?_append_left h]; exact (x.blk i h id).symm
    · rw [Array.getElem?_append_right (by omega), Array.getElem?_extract]
      by_cases h2 : i < w'.heap.size
      · rw [if_pos (by have := x.size; omega)]; congr 1; omega
      · rw [if_neg (by omega), Array.getElem?_eq_none (by omega)]
  have e1 := x.os; have e2 := x.tape; have e3 := x.output
  rcases w with ⟨h, t, d, o, u⟩
  rcases w' with ⟨h', t', d', o', u'⟩
  simp only at e1 e2 e3 hh hd
  subst e1 e2 e3
  simp only [grow, World.drewN, World.mk.injEq, true_and, and_true]
  exact ⟨hh.symm, by omega⟩
theorem q_listcmp (x y : Ch) (W : World) : Calls PP 91 #[.agg #[.int .i64 x.1.1, .int .i64 x.1.2, .int .i64 x.2], .agg #[.int .i64 y.1.1, .int .i64 y.1.2, .int .i64 y.2]] W fun e w' => e = .returned (.int .i64 (cfP x.1 y.1)) ∧ ∃ q os', w' = grow (W.drewN q) os' := by
  refine (vc_seq_ledger_list_c1 (a0_0 := x.1.1) (a0_1 := x.1.2) (a0_2 := x.2) (a1_0 := y.1.1) (a1_1 := y.1.2) (a1_2 := y.2) (R := fun r w' => r = cfP x.1 y.1 ∧ Ext W w' ∧ W.drawn ≤ w'.drawn) ?_).mono ?_
  · unfold VC_seq_ledger_list_c1
    intro b1 w2 h1 d1 b5 w6 h5 d5 w10 x10 d10
    refine (q_Compare _ _ w10).mono ?_
    rintro e w14 ⟨rfl, rfl⟩
    refine ⟨_, rfl, rfl, rfl, (q_Compare _ _ w14).mono ?_⟩
    rintro e w21 ⟨rfl, rfl⟩
    refine ⟨_, rfl, rfl, rfl, fun b27 w28 h27 => (q_Or _ _ w28 h27.here).mono ?_⟩
    rintro e w31 ⟨rfl, rfl⟩
    exact ⟨_, rfl, rfl, rfl, rfl, ((h1.ext.tr h5.ext).tr x10).tr h27.ext, by have := h27.dr; omega⟩
  · rintro e w' ⟨r, rfl, rfl, x, hd⟩
    exact ⟨rfl, grown_of x hd⟩
theorem changes_lay (blk off size : Nat) (w : World) : CmpLays Try.prog 91 #[] chE 3 (fun x y : Ch => cfP x.1 y.1) blk off size w :=
  fun _ _ _ _ x y => q_listcmp x y _
theorem agg_Change (w : World) : (isAgg 131).run Try.prog w = .ok true w := run_isAgg Try.underlying131
theorem size_Change (w : World) : (Go.sizeOf 131).run Try.prog w = .ok 3 w := by
  obtain ⟨i, hi, hz, hs, _⟩ := i_seq_Change.get
  simp [Go.sizeOf, typeInfo, hi, hs]
/-- Rising, each pair once. -/
def Ris (L : List Ch) : Prop := L.Pairwise fun a b => plt a.1 b.1
theorem ris_of {L : List Ch} {d : Array Ch} (hp : PermIn 0 d.size L.toArray d) (hs : SortedIn (ltOf fun x y : Ch => cfP x.1 y.1) 0 d.size d) (hn : (L.map (·.1)).Nodup) : d.toList.Perm L ∧ Ris d.toList := by
  obtain ⟨h1, _, h3⟩ := hp
  have hperm : d.toList.Perm L := by
    have e1 : (d.extract 0 d.size).toList = d.toList := by simp
    have e2 : (L.toArray.extract 0 d.size).toList = L := by rw [h1]; simp
    rw [e1, e2] at h3; exact h3
  refine ⟨hperm, List.pairwise_iff_getElem.2 fun i j hi hj hij => ?_⟩
  have hnd : (d.toList.map (·.1)).Nodup := (hperm.map (·.1)).nodup_iff.2 hn
  have hi' : i < d.size := by simpa using hi
  have hj' : j < d.size := by simpa using hj
  have h4 := hs i j (Nat.zero_le _) hij hj'
  rw [getElem!_pos d i hi', getElem!_pos d j hj'] at h4
  have hne : d.toList[i].1 ≠ d.toList[j].1 := by
    have := List.pairwise_iff_getElem.1 hnd i j (by simpa using hi) (by simpa using hj) hij
    simpa using this
  unfold ltOf at h4
  rw [decide_eq_false_iff_not, cfP_lt] at h4
  have e1 : d.toList[i] = d[i] := by simp
  have e2 : d.toList[j] = d[j] := by simp
  rw [e1, e2] at hne ⊢
  unfold plt at h4 ⊢
  have : ¬ (d[i].1.1 = d[j].1.1 ∧ d[i].1.2 = d[j].1.2) := fun ⟨h5, h6⟩ => hne (Prod.ext h5 h6)
  omega
section
variable {w : World}
theorem k_SortChanges {s : Sl} {L : List Ch} {R : World → Prop} (ho : OwnL w t_seq_Change 3 chE s L) (hl : L.length ≤ 1099511627776) (hn : (L.map (·.1)).Nodup)
    (h : ∀ w' L', Chg (fun c => s.blk = some c) w w' → OwnL w' t_seq_Change 3 chE s L' → L'.Perm L → Ris L' → R w') :
    Calls PP n_slices_SortFunc_seq_Change_seq_Change #[s.v, .func (.func 91) #[] #[]] w fun e w' => e = .returned (.tuple #[]) ∧ R w' := by
  have hlen := ho.len chE_len (by decide)
  by_cases h0 : s.n = 0
  · have hL : L = [] := List.length_eq_zero_iff.1 (by omega)
    subst hL
    have hc := AnyF.slices_SortFunc_none Try.sortF90 s.b s.c (.func (.func 91) #[] #[]) w
    have e : s.v = .slice s.b 0 s.c := by rw [← h0]
    rw [e]
    refine Calls.mono hc ?_
    rintro e w' ⟨rfl, rfl⟩
    exact ⟨rfl, h w' [] (Chg.refl _) ho (List.Perm.refl _) List.Pairwise.nil⟩
  · have hb : s.b ≠ none := fun e => by
      obtain ⟨h1, ⟨h2, h3⟩ | ⟨g, cap, cur, h2, _⟩⟩ := ho
      · exact h0 h3
      · rcases s with ⟨b, n, c⟩; simp only [Sl.v, Value.slice.injEq] at h2; rw [h2.1] at e; cases e
    obtain ⟨g, cur, hb, hg, _⟩ := ho.blk hb
    have eg : ∀ args w, (callFunc 91 args).run Try.prog w = .ok (.enter 91 args) w := enters_of Try.func91 (by kernel_rfl) rfl
    have hc := AnyQ.slices_SortFunc Try.sortF90 3 agg_Change size_Change chE chE_len (fun x v hv => by simp [chE] at hv; rcases hv with rfl | rfl | rfl <;> rfl) (fun x y : Ch => cfP x.1 y.1) (swoP (fun x : Ch => x.1)) 91 #[] g 0 s.c L.toArray w eg (changes_lay g 0 L.toArray.size w) (holds_own chE_len (by decide) ho hb) (lt_of_blk hg) (by simp; omega)
    have e : s.v = .slice (some ⟨g, 0, none⟩) L.toArray.size s.c := by
      rcases s with ⟨b, n, c⟩
      simp only at hb hlen
      subst hb; subst hlen; simp
    rw [e]
    refine Calls.mono hc ?_
    rintro e w' ⟨rfl, d, n, os, hp, hs, rfl⟩
    have hd : d.size = L.length := by have := hp.1; simpa using this
    obtain ⟨h1, h2⟩ := sort_own chE_len (by decide) ho hb d hd n os
    have hp' : PermIn 0 d.size L.toArray d := by rw [hd]; simpa using hp
    have hs' : SortedIn (ltOf fun x y : Ch => cfP x.1 y.1) 0 d.size d := by rw [hd]; simpa using hs
    obtain ⟨h3, h4⟩ := ris_of hp' hs' hn
    exact ⟨rfl, h _ _ h1 h2 h3 h4⟩
/-- The changes of a ledger, rising. -/
structure Chgs (d : Pr → Int) (L : List Ch) : Prop where
  ris : Ris L
  mem : ∀ p v, (p, v) ∈ L ↔ d p = v ∧ v ≠ 0
theorem k_ledger_list {g n : Nat} {d : Pr → Int} {R : Sl → World → Prop} (hL : Led w g n d) (hn : n ≤ 1099511627776)
    (h : ∀ r w' L, Ext w w' → OwnL w' t_seq_Change 3 chE r L → Chgs d L → L.length ≤ n → (∀ c, r.blk = some c → w.heap.size ≤ c) → R r w') :
    Calls PP n_seq_ledger_list #[.map (some g)] w fun e w' => ∃ r : Sl, e = .returned r.v ∧ R r w' := by
  refine vc_seq_ledger_list ?_
  unfold VC_seq_ledger_list
  have hmax : maxLen = 9223372036854775807 := rfl
  obtain ⟨es, hM, hd, hz, hln⟩ := hL
  refine ⟨es, hM, fun r0 w4 x4 hr0 hI => ⟨fun r W => ∃ lf la L, Itr pairV intV W r0 (some g) es lf la ∧ OwnL W t_seq_Change 3 chE r L ∧ (L ++ lf).Perm es ∧ Ext w W ∧ (∀ c, r.blk = some c → w.heap.size ≤ c ∧ c ≠ r0), fun r _ => es.length - r.n, ⟨es, none, [], hI, OwnL.nil, List.Perm.refl _, x4, fun c hc => nomatch hc⟩, ?_⟩⟩
  rintro r W ⟨lf, la, L, hI, ho, hp, x, hf⟩
  have hrn := ho.len chE_len (by decide)
  have hpl := hp.length_eq
  rw [List.length_append] at hpl
  refine ⟨some g, es, lf, la, hI, fun hl => ?_, fun l1 k0 k1 v l2 w22 hl hI2 c22 b w36 hP w39 c39 => ?_⟩
  · subst hl
    rw [List.append_nil] at hp
    have hnd : (L.map (·.1)).Nodup := (hp.map (·.1)).nodup_iff.2 hM.nd
    refine k_SortChanges ho (by simp at hpl; omega) hnd fun w' L' c' ho' hp' hr' => h r w' L' (Chg.of_new x c' fun c hc => (hf c hc).1) ho' ⟨hr', fun p v => ?_⟩ (by rw [hp'.length_eq]; simp at hpl; omega) fun c hc => (hf c hc).1
    rw [hp'.mem_iff, hp.mem_iff]
    constructor
    · intro hm
      have := mget_mem hM.nd hm
      exact ⟨by rw [← hd, this]; rfl, hz _ hm⟩
    · rintro ⟨h1, h2⟩
      rw [← hd] at h1
      cases e : mget p es with
      | none => rw [e] at h1; exact absurd h1.symm h2
      | some y => rw [e] at h1; simp at h1; subst h1; exact mget_some e
  · have hr0W : r0 < W.heap.size := hI.lt
    have x39 : Ext w22 w39 := hP.then c39
    have ho22 := ho.chg c22 fun c hc e => (hf c hc).2 e
    have ho39 := ho22.ext x39
    have hll : lf.length = l1.length + l2.length + 1 := by rw [hl]; simp; omega
    refine ⟨_, ho39, by omega, fun e => ?_, fun s' w46 hA => ⟨⟨l1 ++ l2, _, _, (hI2.ext x39).chg hA.chg (fun e => (hf r0 e).2 rfl) (fun c hc e => ?_), hA.ownL (x := ((k0, k1), v)), ?_, ?_, ?_⟩, ?_⟩⟩
    · have := hf b e
      have h1 := ho22.lt e
      have := hP.fresh; omega
    · cases hc
      have := (hf g e).1
      have := hM.lt; omega
    · refine List.Perm.trans ?_ (hl ▸ hp)
      rw [List.append_assoc, List.singleton_append]
      exact List.Perm.append_left _ List.perm_middle.symm
    · refine Chg.of_new (Chg.of_new x (c22.ext x39) fun c hc => hc ▸ Nat.le_trans (Nat.le_refl _) hr0) hA.chg fun c hc => (hf c hc).1
    · intro c hc
      rcases hA.lt hc with h | h
      · exact hf c h
      · have := x.size; have := c22.size; have := x39.size; exact ⟨by omega, by omega⟩
    · have := hA.len
      dsimp only
      omega
end
end Go.Proofs.Ytchjcjocihckpaa.G
