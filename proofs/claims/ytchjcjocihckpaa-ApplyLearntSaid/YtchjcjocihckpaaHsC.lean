/- Contracts: a coder. -/
import Derived.Test.YtchjcjocihckpaaHdC
import Derived.Test.YtchjcjocihckpaaHrC
import Derived.Test.YtchjcjocihckpaaPmC
namespace Go.Proofs.Ytchjcjocihckpaa.G
open Go Go.RowKit
/-- By which number a pair was joined. -/
def byM (js : List Jd) (p : Pr) : Option Int := (js.findIdx? fun j => decide ((j.1, j.2.1) = p)).map fun i => ((256 + i : Nat) : Int)
theorem byM_snoc (js : List Jd) (j : Jd) (p : Pr) : byM (js ++ [j]) p = (byM js p).or (if (j.1, j.2.1) = p then some ((256 + js.length : Nat) : Int) else none) := by
  unfold byM
  rw [List.findIdx?_append]
  cases js.findIdx? fun j => decide ((j.1, j.2.1) = p) with
  | some i => rfl
  | none =>
    by_cases h : (j.1, j.2.1) = p
    · simp [h]
    · simp [h]
theorem byM_none {js : List Jd} {p : Pr} (h : ∀ j ∈ js, (j.1, j.2.1) ≠ p) : byM js p = none := by
  unfold byM
  rw [Option.map_eq_none_iff, List.findIdx?_eq_none_iff]
  intro j hj
  simpa using h j hj
theorem byM_at {ms : List Mg} {js : List Jd} (h : Cod ms js) {i : Nat} {j : Jd} (hj : js[i]? = some j) : byM js (j.1, j.2.1) = some ((256 + i : Nat) : Int) := by
  unfold byM
  cases e : js.findIdx? fun k => decide ((k.1, k.2.1) = (j.1, j.2.1)) with
  | none =>
    rw [List.findIdx?_eq_none_iff] at e
    have := e j (gm hj); simp at this
  | some i' =>
    rw [List.findIdx?_eq_some_iff_getElem] at e
    obtain ⟨hi, hd, _⟩ := e
    have hd := of_decide_eq_true hd
    have hl := h.len
    have hil : i < ms.length := by have := gl hj; omega
    have hil' : i' < ms.length := by omega
    have hm : ms[i]? = some ms[i] := List.getElem?_eq_getElem hil
    have hm' : ms[i']? = some ms[i'] := List.getElem?_eq_getElem hil'
    obtain ⟨a, b, h1, h2, h3⟩ := h.get i _ hm
    obtain ⟨a', b', h1', h2', h3'⟩ := h.get i' _ hm'
    rw [hj] at h1; cases h1
    rw [List.getElem?_eq_getElem hi] at h1'
    have h1' := Option.some.inj h1'
    rw [h1'] at hd
    cases hd
    rw [h2] at h2'; rw [h3] at h3'
    have e1 := Option.some.inj h2'
    have e2 := Option.some.inj h3'
    have : ms[i].tx = ms[i'].tx := by unfold Mg.tx; rw [e1, e2]
    have hnd : (ms.map Mg.tx).Nodup := h.made.tx ▸ h.nd
    have := nodup_at hnd (i := i) (j := i') (x := ms[i].tx) (by rw [List.getElem?_map, hm]; rfl) (by rw [List.getElem?_map, hm', this]; rfl)
    subst this; rfl
theorem byM_some {js : List Jd} {p : Pr} {z : Int} (h : byM js p = some z) : ∃ (i : Nat) (j : Jd), js[i]? = some j ∧ (j.1, j.2.1) = p ∧ z = ((256 + i : Nat) : Int) := by
  unfold byM at h
  rw [Option.map_eq_some_iff] at h
  obtain ⟨i, hi, rfl⟩ := h
  rw [List.findIdx?_eq_some_iff_getElem] at hi
  obtain ⟨hl, hd, _⟩ := hi
  exact ⟨i, _, List.getElem?_eq_getElem hl, of_decide_eq_true hd, rfl⟩
theorem joinS_ok {js : List Jd} {a b : Int} (h : (joinS js a b).2.2 = 0) : (joinS js a b).2.1 = ((256 + js.length : Nat) : Int) := by
  unfold joinS at h ⊢
  split at h
  · split at h
    · simp at h
    · split at h
      · simp at h
      · rename_i h1 h2; rw [if_neg h1, if_neg h2]
  · simp at h
structure CdrD (w : World) (b tb : Nat) (S : Nat → Prop) (js : List Jd) (m : Nat) (es : List (Pr × Int)) : Prop where
  blk : w.heap[b]? = some (.cells #[.pointer (some ⟨tb, 0, none⟩), .map (some m)] t_apply_Coder (0, 0))
  tab : Tab w tb S js
  map : Mp pairV intV w (some m) es
  get : ∀ p, mget p es = byM js p
  nb : ¬ S b
  nm : ¬ S m
  bm : b ≠ m
/-- A coder in memory. -/
def Cdr (w : World) (b : Nat) (ms : List Mg) (js : List Jd) : Prop := ∃ tb S m es, CdrD w b tb S js m es ∧ Cod ms js
section
variable {w w1 : World} {b tb m : Nat} {S : Nat → Prop} {js : List Jd} {es : List (Pr × Int)} {ms : List Mg}
theorem CdrD.ext (h : CdrD w b tb S js m es) (x : Ext w w1) : CdrD w1 b tb S js m es :=
  { h with blk := x.get h.blk, tab := h.tab.ext x, map := h.map.ext x }
theorem Cdr.ext (h : Cdr w b ms js) (x : Ext w w1) : Cdr w1 b ms js := by
  obtain ⟨tb, S, m, es, h1, h2⟩ := h
  exact ⟨tb, S, m, es, h1.ext x, h2⟩
theorem Cdr.cod (h : Cdr w b ms js) : Cod ms js := by obtain ⟨tb, S, m, es, h1, h2⟩ := h; exact h2
theorem k_apply_New {s : Sl} {R : Option Addr → Int → World → Prop} (hx : Rows w 2 mgE s ms) (hlen : ms.length ≤ 1099511627776)
    (h1 : (check ms).2 ≠ 0 → ∀ w', Ext w w' → R none (check ms).2 w') (h2 : (check ms).2 = 0 → ∀ b js w', Ext w w' → w.heap.size ≤ b → Cdr w' b ms js → R (some ⟨b, 0, none⟩) 0 w') :
    Calls PP n_apply_New #[s.v] w fun e w' => ∃ (r : Option Addr) (q : Int), e = .returned (.tuple #[.pointer r, .int .i64 q]) ∧ R r q w' := by
  refine vc_apply_New ?_
  unfold VC_apply_New
  have l1 := hx.len
  have l3 := hx.lim
  refine k_file_Check hx hlen fun w2 x2 => ⟨fun hc => h1 (by omega) w2 x2, fun hc => ?_⟩
  have hc0 : (check ms).2 = 0 := by have := Decidable.not_not.1 hc; omega
  have hg := good_of_check hc0
  replace h2 := h2 hc0
  refine k_sym_New fun tb w8 x8 htb hT m w13 nm b w16 nb => ?_
  have hw2 := x2.size
  have hw8 := x8.size
  have hw13 := nm.ext.size
  have tbl : tb < w8.heap.size := hT.lt tb rfl
  have mf : w8.heap.size ≤ m := nm.fresh
  have ml : m < w13.heap.size := nm.lt
  have bf : w13.heap.size ≤ b := nb.fresh
  have hD0 : CdrD w16 b tb (fun c => c = tb) [] m [] := { blk := nb.here, tab := (hT.ext nm.ext).ext nb.ext, map := (Mp.new nm).ext nb.ext, get := fun p => rfl, nb := by show ¬ b = tb; omega, nm := by show ¬ m = tb; omega, bm := by omega }
  have X16 : Ext w w16 := ((x2.tr x8).tr nm.ext).tr nb.ext
  refine ⟨fun i W => ∃ (k : Nat) (S : Nat → Prop) (js : List Jd) (es : List (Pr × Int)), i = k ∧ k ≤ ms.length ∧ CdrD W b tb S js m es ∧ Cod (ms.take k) js ∧ Ext w W ∧ ∀ c, S c → w.heap.size ≤ c, fun i _ => (ms.length - i).toNat,
    ⟨0, _, [], [], rfl, by omega, hD0, Cod.nil, X16, fun c hc => by have : c = tb := hc; omega⟩, ?_⟩
  rintro _ W ⟨k, S, js, es, rfl, hk, hD, hC, X, hS⟩
  refine ⟨fun hl => ?_, fun hl => ?_⟩
  · obtain ⟨g, o, q, hgb, hme, hc1, hc2⟩ := (hx.ext X).mg (i := k) (by omega)
    obtain ⟨sd1, sd2, sz, hdis⟩ := hg.sd hme
    obtain ⟨j1, j2, j3⟩ := made_join hC.made q
    have hbad : bad (ms.take k) q = 0 := hg k q hme
    obtain ⟨x, y, e1, e2, e3, hM'⟩ := j2 (by rw [j1, hbad])
    have hj0 : (joinS js x y).2.2 = 0 := by
      have := j1
      unfold fileJoin at this
      rw [e1, e2] at this; simp only at this; rw [this, hbad]
    have hj1 : (joinS js x y).1 = js ++ [(x, y, q.tx)] := by
      unfold fileJoin at e3
      rw [e1, e2] at e3; exact e3
    have hjl := hC.len
    have hjl2 : js.length ≤ 1099511627776 := by rw [hjl]; simp; omega
    refine ⟨k, rfl, by omega, g, o, hgb, q.1, q.2, ⟨hc1, hc2, trivial⟩, fun c w34 hP w37 c37 => ?_⟩
    have x37 : Ext W w37 := hP.then c37
    have cl : c < w37.heap.size := Nat.lt_of_lt_of_le hP.lt c37.size
    have hD37 := hD.ext x37
    refine ⟨_, cell_blk hD37.blk rfl, fun w41 x41 => ?_⟩
    have hD41 := hD37.ext x41
    have cl41 := Nat.lt_of_lt_of_le cl x41.size
    refine k_sym_Find hD41.tab ⟨rfl, cell_blk hD41.blk rfl, _, cell_blk hD41.blk rfl, fun w53 x53 => ?_⟩
    have hD53 := hD41.ext x53
    have cl53 := Nat.lt_of_lt_of_le cl41 x53.size
    refine k_sym_Find hD53.tab ⟨rfl, cell_blk hD53.blk rfl, _, cell_blk hD53.blk rfl, ?_⟩
    rw [e1, e2]
    simp only [Option.getD_some]
    have X53 : Ext W w53 := (x37.tr x41).tr x53
    have hcW : W.heap.size ≤ c := hP.fresh
    refine k_sym_Join hD53.tab hjl2 fun w66 S' cJ hS' hT' => ⟨cJ.keep cl53 fun e => by have := hD.tab.lt c e; omega, fun hn => absurd (by rw [hj0]; rfl) hn, fun _ => ?_⟩
    have hb66 := cJ.get hD53.blk hD53.nb
    have hm66 := hD53.map.chg cJ fun c hc => by cases hc; exact hD53.nm
    have ml53 : m < w53.heap.size := hD53.map.lt
    have bl53 : b < w53.heap.size := lt_of_blk hD53.blk
    have hnS' : ∀ c, c < w53.heap.size → ¬ S c → ¬ S' c := fun c hc hn e => (hS' c e).elim hn fun h => by omega
    refine ⟨_, cell_blk hb66 rfl, m, rfl, es, hm66, fun e => by have := hD.map.lt; omega, fun w74 hM74 c74 => ?_⟩
    rw [joinS_ok hj0] at hM74
    rw [hj1] at hT'
    have hmS' : ¬ S' m := hnS' m ml53 hD53.nm
    have hbS' : ¬ S' b := hnS' b bl53 hD53.nb
    have hnew : ∀ j ∈ js, (j.1, j.2.1) ≠ (x, y) := by
      intro j hj he
      obtain ⟨i, hi⟩ := List.mem_iff_getElem?.1 hj
      have hil := gl hi
      have hmi : (ms.take k)[i]? = some (ms.take k)[i] := List.getElem?_eq_getElem (by rw [← hjl]; exact hil)
      obtain ⟨a', b', g1, g2, g3⟩ := hC.get i _ hmi
      rw [hi] at g1; cases g1
      have he1 : a' = x := congrArg Prod.fst he
      have he2 : b' = y := congrArg Prod.snd he
      rw [he1, fnd_txOf e1] at g2; rw [he2, fnd_txOf e2] at g3
      refine hdis _ (gm hmi) ?_
      unfold Mg.tx
      rw [← Option.some.inj g2, ← Option.some.inj g3]
    refine ⟨_, rfl, ⟨k + 1, S', _, _, by rw [wr64 (by omega)]; simp, by omega, ⟨c74.get hb66 hD53.bm, hT'.chg c74 fun c hc e => hmS' (e ▸ hc), hM74, fun p => ?_, hbS', hmS', hD53.bm⟩, ?_, ?_, fun c hc => ?_⟩, by rw [wr64 (by omega)]; omega⟩
    · rw [mget_mput, byM_snoc, hD53.get]
      by_cases e : (x, y) = p
      · rw [if_pos e, if_pos e, ← e, byM_none hnew]; rfl
      · rw [if_neg e, if_neg e, Option.or_none]
    · rw [tk hme]; exact hC.snoc hM' hdis e1 e2
    · refine Chg.of_new (X.tr X53) (cJ.trans c74 (S'' := fun c => S c ∨ c = m) (fun _ _ h => .inl h) fun _ _ h => .inr h) ?_
      rintro c (h | h)
      · exact hS c h
      · omega
    · rcases hS' c hc with h | h
      · exact hS c h
      · have := X.size; have := X53.size; omega
  · have : k = ms.length := by omega
    subst this
    rw [List.take_length] at hC
    exact h2 b js W X (by omega) ⟨tb, S, m, es, hD, hC⟩
end
end Go.Proofs.Ytchjcjocihckpaa.G
