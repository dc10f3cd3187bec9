/- Contracts: the vocabulary. -/
import Derived.Test.YtchjcjocihckpaaHe
namespace Go.Proofs.Ytchjcjocihckpaa.G
open Go Go.RowKit
def ones : List BA := (List.range 256).map fun i => one (UInt8.ofNat i)
structure VocS (w0 w : World) (b d u : Nat) (es us : List (BA × Int)) (most : Int) : Prop where
  ext : Ext w0 w
  blk : w.heap[b]? = some (.cells #[.map (some d), .map (some u), .int .i64 most] t_vocab_Vocab (0, 0))
  dm : Mp strV intV w (some d) es
  um : Mp strV intV w (some u) us
  fb : w0.heap.size ≤ b
  fd : w0.heap.size ≤ d
  fu : w0.heap.size ≤ u
  bd : b ≠ d
  bu : b ≠ u
  du : d ≠ u
/-- A vocabulary in memory. -/
def Voc (w : World) (b : Nat) (ms : List Mg) : Prop := ∃ w0 d u es us, VocS w0 w b d u es us (mostM ms) ∧ (∀ s, mget s es = depM ms s) ∧ es.map (·.1) = ones ++ ms.map Mg.tx ∧ ∀ s, (mget s us).getD 0 = usesM ms s
section
variable {w0 w w1 : World} {b d u : Nat} {es us es' us' : List (BA × Int)} {most : Int} {ms : List Mg}
theorem VocS.ex (h : VocS w0 w b d u es us most) (x : Ext w w1) : VocS w0 w1 b d u es us most :=
  { h with ext := h.ext.tr x, blk := x.get h.blk, dm := h.dm.ext x, um := h.um.ext x }
theorem VocS.putD (h : VocS w0 w b d u es us most) (m : Mp strV intV w1 (some d) es') (x : Chg (fun c => c = d) w w1) : VocS w0 w1 b d u es' us most :=
  { h with ext := Chg.of_new h.ext x fun c hc => hc ▸ h.fd, blk := x.get h.blk h.bd, dm := m, um := h.um.chg x fun c hc e => h.du (by cases hc; exact e.symm) }
theorem VocS.putU (h : VocS w0 w b d u es us most) (m : Mp strV intV w1 (some u) us') (x : Chg (fun c => c = u) w w1) : VocS w0 w1 b d u es us' most :=
  { h with ext := Chg.of_new h.ext x fun c hc => hc ▸ h.fu, blk := x.get h.blk h.bu, um := m, dm := h.dm.chg x fun c hc e => h.du (by cases hc; exact e) }
theorem VocS.putB {most' : Int} (h : VocS w0 w b d u es us most) (e : w1 = setCells w b 2 [.int .i64 most']) : VocS w0 w1 b d u es us most' :=
  { h with ext := Chg.of_new h.ext (sto_chg e) fun c hc => hc ▸ h.fb, blk := sto_blk e h.blk, um := h.um.chg (sto_chg e) fun c hc e => h.bu (by cases hc; exact e.symm), dm := h.dm.chg (sto_chg e) fun c hc e => h.bd (by cases hc; exact e.symm) }
theorem Voc.ext (h : Voc w b ms) (x : Ext w w1) : Voc w1 b ms := by
  obtain ⟨w0, d, u, es, us, h, h2⟩ := h
  exact ⟨w0, d, u, es, us, h.ex x, h2⟩
theorem k_vocab_Depth {s : BA} {R : Int → World → Prop} (hV : Voc w b ms) (h : R ((depM ms s).getD (-1)) w) :
    Calls PP n_vocab_Vocab_Depth #[.pointer (some ⟨b, 0, none⟩), .string s] w fun e w' => ∃ r : Int, e = .returned (.int .i64 r) ∧ R r w' := by
  refine vc_vocab_Vocab_Depth ?_
  unfold VC_vocab_Vocab_Depth
  obtain ⟨w0, d, u, es, us, hS, hd, hk, hu⟩ := hV
  refine ⟨fun h => (nomatch h), fun _ => ⟨b, 0, rfl, some d, cell_blk hS.blk rfl, es, hS.dm, _, rfl, fun h1 => ?_, fun h1 => ?_⟩⟩
  · rw [hd] at h1 ⊢
    obtain ⟨v, hv⟩ := Option.isSome_iff_exists.1 h1
    rw [hv] at h ⊢; exact h
  · rw [hd] at h1
    have : depM ms s = none := by simpa using h1
    rw [this] at h; exact h
theorem k_vocab_Depth_none {s : BA} {R : Int → World → Prop} (h : R (-1) w) :
    Calls PP n_vocab_Vocab_Depth #[.pointer none, .string s] w fun e w' => ∃ r : Int, e = .returned (.int .i64 r) ∧ R r w' := by
  refine vc_vocab_Vocab_Depth ?_
  unfold VC_vocab_Vocab_Depth
  exact ⟨fun _ => h, fun h => absurd rfl h⟩
theorem depM_pos (ms : List Mg) (s : BA) : decide (0 ≤ (depM ms s).getD (-1)) = side s ms := by
  rw [← depM_some]
  cases e : depM ms s with
  | none => rfl
  | some v => have := (depM_le ms s v e).1; simpa using this
theorem k_vocab_Has {s : BA} {R : Bool → World → Prop} (hV : Voc w b ms) (h : R (side s ms) w) :
    Calls PP n_vocab_Vocab_Has #[.pointer (some ⟨b, 0, none⟩), .string s] w fun e w' => ∃ r : Bool, e = .returned (.bool r) ∧ R r w' := by
  refine vc_vocab_Vocab_Has ?_
  unfold VC_vocab_Vocab_Has
  refine k_vocab_Depth hV ?_
  rw [depM_pos]; exact h
theorem k_vocab_Has_none {s : BA} {R : Bool → World → Prop} (h : R false w) :
    Calls PP n_vocab_Vocab_Has #[.pointer none, .string s] w fun e w' => ∃ r : Bool, e = .returned (.bool r) ∧ R r w' := by
  refine vc_vocab_Vocab_Has ?_
  unfold VC_vocab_Vocab_Has
  exact k_vocab_Depth_none h
theorem k_vocab_Uses {s : BA} {R : Int → World → Prop} (hV : Voc w b ms) (h : R (usesM ms s) w) :
    Calls PP n_vocab_Vocab_Uses #[.pointer (some ⟨b, 0, none⟩), .string s] w fun e w' => ∃ r : Int, e = .returned (.int .i64 r) ∧ R r w' := by
  refine vc_vocab_Vocab_Uses ?_
  unfold VC_vocab_Vocab_Uses
  obtain ⟨w0, d, u, es, us, hS, hd, hk, hu⟩ := hV
  exact ⟨fun h => (nomatch h), fun _ => ⟨b, 0, rfl, some u, cell_blk hS.blk rfl, us, hS.um, _, rfl, by rw [hu]; exact h⟩⟩
theorem k_vocab_Uses_none {s : BA} {R : Int → World → Prop} (h : R 0 w) :
    Calls PP n_vocab_Vocab_Uses #[.pointer none, .string s] w fun e w' => ∃ r : Int, e = .returned (.int .i64 r) ∧ R r w' := by
  refine vc_vocab_Vocab_Uses ?_
  unfold VC_vocab_Vocab_Uses
  exact ⟨fun _ => h, fun h => absurd rfl h⟩
theorem k_vocab_Len {R : Int → World → Prop} (hV : Voc w b ms) (h : R ((256 + ms.length : Nat) : Int) w) :
    Calls PP n_vocab_Vocab_Len #[.pointer (some ⟨b, 0, none⟩)] w fun e w' => ∃ r : Int, e = .returned (.int .i64 r) ∧ R r w' := by
  refine vc_vocab_Vocab_Len ?_
  unfold VC_vocab_Vocab_Len
  obtain ⟨w0, d, u, es, us, hS, hd, hk, hu⟩ := hV
  have : es.length = 256 + ms.length := by have := congrArg List.length hk; simpa [ones] using this
  exact ⟨fun h => (nomatch h), fun _ => ⟨b, 0, rfl, some d, cell_blk hS.blk rfl, es, hS.dm, by rw [this]; exact h⟩⟩
theorem k_vocab_Len_none {R : Int → World → Prop} (h : R 0 w) :
    Calls PP n_vocab_Vocab_Len #[.pointer none] w fun e w' => ∃ r : Int, e = .returned (.int .i64 r) ∧ R r w' := by
  refine vc_vocab_Vocab_Len ?_
  unfold VC_vocab_Vocab_Len
  exact ⟨fun _ => h, fun h => absurd rfl h⟩
theorem k_vocab_Longest_none {s : BA} {R : Sl → World → Prop} (h : R ⟨none, 0, 0⟩ w) :
    Calls PP n_vocab_Vocab_Longest #[.pointer none, .string s] w fun e w' => ∃ r : Sl, e = .returned r.v ∧ R r w' := by
  refine vc_vocab_Vocab_Longest ?_
  unfold VC_vocab_Vocab_Longest
  exact ⟨fun _ => h, fun h => absurd rfl h⟩
theorem k_vocab_Longest {t : BA} {R : Sl → World → Prop} (hV : Voc w b ms) (ht : t.size ≤ 1099511627776)
    (h : ∀ r w', Ext w w' → OwnL w' t_string 1 strE r (longest (fun u => side u ms) t) → (∀ c, r.blk = some c → w.heap.size ≤ c) → R r w') :
    Calls PP n_vocab_Vocab_Longest #[.pointer (some ⟨b, 0, none⟩), .string t] w fun e w' => ∃ r : Sl, e = .returned r.v ∧ R r w' := by
  refine vc_vocab_Vocab_Longest ?_
  unfold VC_vocab_Vocab_Longest
  obtain ⟨hM1, hM2, -⟩ := mostM_ge ms
  refine ⟨fun h => (nomatch h), fun _ => ⟨fun u r w' => ∃ acc, acc ++ longest (fun u => side u ms) u = longest (fun u => side u ms) t ∧ acc.length + u.size ≤ t.size ∧ Ext w w' ∧ OwnL w' t_string 1 strE r acc ∧ (∀ c, r.blk = some c → w.heap.size ≤ c), fun u _ _ => u.size,
    ⟨[], rfl, by simp, Chg.refl w, OwnL.nil, fun c hc => (nomatch hc)⟩, ?_⟩⟩
  rintro u r w1 ⟨acc, ha, hu, x1, ho, hf⟩
  have hn := ho.len strE_len (by decide)
  refine ⟨fun hz => ?_, fun hz => ?_⟩
  · have hz := size_ne.1 hz
    have hV1 := hV.ext x1
    have hV2 := hV1
    obtain ⟨w0, d, v, es, us, hS, hd, hk, hus⟩ := hV2
    have hmin : cutn (fun n => side (u.extract 0 n) ms) u.size = cutn (fun n => side (u.extract 0 n) ms) (min u.size (mostM ms).toNat) := by
      refine cutn_min (by omega) _ fun i h1 h2 => ?_
      unfold side
      have e1 : (u.extract 0 i).size = i := by rw [ext_size h2]; omega
      rw [e1, decide_eq_false (by omega), Bool.false_or, List.any_eq_false]
      intro m hm he
      have := hM2 m hm
      rw [of_decide_eq_true he, e1] at this; omega
    refine ⟨b, 0, rfl, mostM ms, cell_blk hS.blk rfl, fun l w2 => ∃ k : Nat, l = k ∧ 1 ≤ k ∧ k ≤ u.size ∧ w2 = w1 ∧ cutn (fun n => side (u.extract 0 n) ms) k = cutn (fun n => side (u.extract 0 n) ms) u.size, fun l _ => l.toNat,
      ⟨min u.size (mostM ms).toNat, by omega, by omega, by omega, rfl, hmin.symm⟩, ?_⟩
    rintro _ w2 ⟨k, rfl, hk1, hk2, rfl, hcut⟩
    refine ⟨k, rfl, ⟨by omega, by omega⟩, k_vocab_Has hV1 ⟨fun h2 => ?_, fun h2 => ?_⟩⟩
    · have hcc := hcut
      rw [cutn_hit (p := fun n => side (u.extract 0 n) ms) (.inr h2)] at hcc
      have hlc := longest_cons (fun u => side u ms) (s := u) hz
      rw [← hcc] at hlc
      refine ⟨⟨by omega, by omega⟩, _, ho, ⟨by omega, by show _ ≤ 9223372036854775807; omega⟩, fun r2 w3 hA => ⟨⟨by omega, by omega⟩, ⟨acc ++ [u.extract 0 k], ?_, ?_, ?_, hA.ownL, ?_⟩, ?_⟩⟩
      · rw [List.append_assoc, List.singleton_append, ← hlc]; exact ha
      · rw [List.length_append, ext_size (Nat.le_refl _), List.length_singleton]; omega
      · exact Chg.of_new x1 hA.chg fun c hc => hf c hc
      · intro c hc
        rcases hA.lt hc with h | h
        · exact hf c h
        · exact Nat.le_trans x1.size h
      · dsimp only; rw [ext_size (Nat.le_refl _)]; omega
    · have hk3 : 1 < k := by
        rcases Nat.lt_or_ge 1 k with h | h
        · exact h
        · have : (u.extract 0 k).size = 1 := by rw [ext_size hk2]; omega
          unfold side at h2; rw [this] at h2; simp at h2
      refine ⟨k - 1, by rw [wr64 (by omega)], ⟨k - 1, by omega, by omega, by omega, rfl, ?_⟩, by dsimp only; omega⟩
      rw [← hcut, cutn_step (p := fun n => side (u.extract 0 n) ms) hk3 h2]
  · have : u.size = 0 := Decidable.not_not.1 fun e => hz (size_ne.2 e)
    rw [longest_nil _ this, List.append_nil] at ha
    exact h r w1 x1 (ha ▸ ho) hf
theorem mput_new {α β : Type} [DecidableEq α] {a : α} {c : β} : ∀ {l : List (α × β)}, a ∉ l.map (·.1) → mput a c l = l ++ [(a, c)]
  | [], _ => rfl
  | p :: l, h => by
    simp only [List.map_cons, List.mem_cons, not_or] at h
    rw [mput, if_neg (fun e => h.1 e.symm), mput_new h.2]; rfl
theorem one_inj {i j : Nat} (hi : i < 256) (hj : j < 256) (h : one (UInt8.ofNat i) = one (UInt8.ofNat j)) : i = j := by
  have : UInt8.ofNat i = UInt8.ofNat j := by
    simp only [one, ByteArray.mk.injEq, Array.mk.injEq, List.cons.injEq, and_true] at h; exact h
  have := congrArg UInt8.toNat this
  simpa [Nat.mod_eq_of_lt hi, Nat.mod_eq_of_lt hj] using this
theorem mget_ones (s : BA) : mget s (ones.map fun t => (t, (0 : Int))) = if s.size = 1 then some 0 else none := by
  by_cases h : s.size = 1
  · rw [if_pos h]
    have hm : (s, (0 : Int)) ∈ ones.map fun t => (t, (0 : Int)) := by
      rw [List.mem_map]
      refine ⟨s, ?_, rfl⟩
      unfold ones
      rw [List.mem_map]
      refine ⟨(s.data.toList.getD 0 0).toNat, by rw [List.mem_range]; exact UInt8.toNat_lt _, ?_⟩
      rw [UInt8.ofNat_toNat]; exact (one_of_size h).symm
    cases e : mget s (ones.map fun t => (t, (0 : Int))) with
    | none => rw [mget_none] at e; exact absurd (List.mem_map.2 ⟨_, hm, rfl⟩) e
    | some v =>
      have := mget_some e
      rw [List.mem_map] at this
      obtain ⟨t, _, ht⟩ := this
      cases ht; rfl
  · rw [if_neg h, mget_none]
    intro hm
    rw [List.map_map, List.mem_map] at hm
    obtain ⟨t, ht, rfl⟩ := hm
    unfold ones at ht
    rw [List.mem_map] at ht
    obtain ⟨i, _, rfl⟩ := ht
    exact h rfl
theorem k_vocab_New {s : Sl} {R : Option Addr → Int → World → Prop} (hx : Rows w 2 mgE s ms) (hlen : ms.length ≤ 1099511627776)
    (h1 : (check ms).2 ≠ 0 → ∀ w', Ext w w' → R none (check ms).2 w') (h2 : (check ms).2 = 0 → ∀ b w', Ext w w' → Voc w' b ms → R (some ⟨b, 0, none⟩) 0 w') :
    Calls PP n_vocab_New #[s.v] w fun e w' => ∃ (r : Option Addr) (q : Int), e = .returned (.tuple #[.pointer r, .int .i64 q]) ∧ R r q w' := by
  refine vc_vocab_New ?_
  unfold VC_vocab_New
  have l1 := hx.len
  refine k_file_Check hx hlen fun w1 x1 => ⟨fun hc => h1 (by omega) w1 x1, fun hc => ?_⟩
  have hc0 : (check ms).2 = 0 := by have := Decidable.not_not.1 hc; omega
  have hg := good_of_check hc0
  replace h2 := h2 hc0
  intro d w2 nd u w3 nu b w4 nb
  have hS0 : VocS w w4 b d u [] [] 1 := { ext := ((x1.tr nd.ext).tr nu.ext).tr nb.ext, blk := nb.here, dm := ((Mp.new nd).ext nu.ext).ext nb.ext, um := (Mp.new nu).ext nb.ext
                                          fb := by have := x1.size; have := nd.ext.size; have := nu.ext.size; have := nb.fresh; omega
                                          fd := by have := x1.size; have := nd.fresh; omega
                                          fu := by have := x1.size; have := nd.ext.size; have := nu.fresh; omega
                                          bd := by have := nd.lt; have := nu.ext.size; have := nb.fresh; omega
                                          bu := by have := nu.lt; have := nb.fresh; omega
                                          du := by have := nd.lt; have := nu.fresh; omega }
  refine ⟨fun l w' => ∃ k : Nat, l = k ∧ k ≤ 256 ∧ VocS w w' b d u ((ones.take k).map fun t => (t, (0 : Int))) [] 1, fun l _ => (256 - l).toNat, ⟨0, rfl, by omega, hS0⟩, ?_⟩
  rintro _ w5 ⟨k, rfl, hk, hS⟩
  refine ⟨fun hl => ?_, fun hl => ?_⟩
  · have hk' : k < 256 := by omega
    have ho : ones[k]? = some (one (UInt8.ofNat k)) := by unfold ones; rw [List.getElem?_map, List.getElem?_range hk']; rfl
    refine ⟨_, cell_blk hS.blk rfl, _, rfl, UInt8.ofNat k, ?_, fun w6 x6 => ⟨d, rfl, _, (hS.ex x6).dm, fun w7 hM x7 => ?_⟩⟩
    · rw [wr8 (by omega), UInt8.toNat_ofNat', Nat.mod_eq_of_lt (by omega)]
    · have hS7 := (hS.ex x6).putD hM x7
      refine ⟨cell_blk hS7.blk rfl, k + 1, (wr64 (by omega)).symm, ⟨k + 1, by simp, by omega, ?_⟩, by dsimp only; omega⟩
      rw [tk ho, List.map_append]
      have hnew : one (UInt8.ofNat k) ∉ ((ones.take k).map fun t => (t, (0 : Int))).map (·.1) := by
        rw [List.map_map]
        intro hm
        rw [List.mem_map] at hm
        obtain ⟨t, ht, e⟩ := hm
        obtain ⟨i, hi⟩ := List.mem_iff_getElem?.1 ht
        have hik : i < k := by have := gl hi; simp at this; omega
        rw [List.getElem?_take_of_lt hik] at hi
        unfold ones at hi
        rw [List.getElem?_map, List.getElem?_range (by omega)] at hi
        simp only [Option.map_some, Option.some.injEq] at hi
        subst hi
        have := one_inj (by omega) hk' e
        omega
      have := mput_new (c := (0 : Int)) hnew
      unfold one at this ⊢
      rw [this] at hS7
      exact hS7
  · have e256 : k = 256 := by omega
    have hfull : ones.take k = ones := by rw [e256]; exact List.take_of_length_le (by simp [ones])
    rw [hfull] at hS
    refine ⟨fun l w' => ∃ (k : Nat) (es us : List (BA × Int)), l = k ∧ k ≤ ms.length ∧ VocS w w' b d u es us (mostM (ms.take k)) ∧ (∀ s, mget s es = depM (ms.take k) s) ∧ es.map (·.1) = ones ++ (ms.take k).map Mg.tx ∧ ∀ s, (mget s us).getD 0 = usesM (ms.take k) s, fun l _ => (ms.length - l).toNat,
      ⟨0, _, [], rfl, by omega, hS, fun s => mget_ones s, by simp [List.map_map, Function.comp_def], fun s => rfl⟩, ?_⟩
    rintro _ w6 ⟨k, es, us, rfl, hk, hS, hd, hks, hu⟩
    refine ⟨fun hl => ?_, fun hl => ?_⟩
    · obtain ⟨g, o, m, hgb, hme, hc, hc2⟩ := (hx.ext hS.ext).mg (i := k) (by omega)
      obtain ⟨sd1, sd2, sz, hdis⟩ := hg.sd hme
      obtain ⟨p1, p2⟩ := hg.pos k m hme
      have zt := ba_append_size m.1 m.2
      refine ⟨k, rfl, by omega, g, o, hgb, m.1, m.2, ⟨hc, hc2, trivial⟩, fun c w7 hP w8 x8 => ?_⟩
      have hcl : c < w8.heap.size := Nat.lt_of_lt_of_le hP.lt x8.size
      have hcd : c ≠ d := by have := hS.dm.lt; have := hP.fresh; omega
      have hcu : c ≠ u := by have := hS.um.lt; have := hP.fresh; omega
      have hcb : c ≠ b := by have := lt_of_blk hS.blk; have := hP.fresh; omega
      replace hS := hS.ex (hP.then x8)
      have hlt : (ms.take k).length = k := by simp; omega
      have g0 : ∀ t, 0 ≤ (depM (ms.take k) t).getD 0 ∧ (depM (ms.take k) t).getD 0 ≤ k := fun t => by
        cases e : depM (ms.take k) t with
        | none => simp
        | some v => have := depM_le _ t v e; rw [hlt] at this; simp; omega
      have g1 := g0 m.1
      have g2 := g0 m.2
      have u1 := usesM_le (ms.take k) m.1
      have u2 := usesM_le (ms.take k) m.2
      rw [hlt] at u1 u2
      refine ⟨by omega, some d, cell_blk hS.blk rfl, es, hS.dm, _, rfl, _, rfl, _, rfl, fun w9 x9 => ⟨d, rfl, es, hS.dm.ext x9, hcd, fun w10 hM10 x10 => ?_⟩⟩
      rw [hd, hd, wr64 (by omega)] at hM10
      have hS10 := (hS.ex x9).putD hM10 x10
      refine ⟨some u, cell_blk hS10.blk rfl, us, hS10.um, _, rfl, _, rfl, fun w11 x11 => ⟨u, rfl, us, hS10.um.ext x11, hcu, fun w12 hM12 x12 => ?_⟩⟩
      rw [hu, wr64 (by omega)] at hM12
      have hS12 := (hS10.ex x11).putU hM12 x12
      have h0 : ∀ (c : Prop) [Decidable c], 0 ≤ (if c then (1 : Int) else 0) ∧ (if c then (1 : Int) else 0) ≤ 1 := fun c _ => by split <;> omega
      have hu2 : (mget m.2 (mput m.1 (usesM (ms.take k) m.1 + 1) us)).getD 0 = usesM (ms.take k) m.2 + if m.1 = m.2 then 1 else 0 := by
        rw [mget_mput]
        by_cases e : m.1 = m.2
        · rw [if_pos e, if_pos e, e]; rfl
        · rw [if_neg e, if_neg e, hu, Int.add_zero]
      have hi2 := h0 (m.1 = m.2)
      refine ⟨some u, cell_blk hS12.blk rfl, _, hS12.um, _, rfl, _, rfl, fun w13 x13 => ⟨u, rfl, _, hS12.um.ext x13, hcu, fun w14 hM14 x14 => ?_⟩⟩
      rw [hu2, wr64 (by omega)] at hM14
      have hS14 := (hS12.ex x13).putU hM14 x14
      refine ⟨_, cell_blk hS14.blk rfl, ⟨_, _, hS14.blk, Nat.le_of_ble_eq_true rfl⟩, hcb, fun w15 e15 => ?_⟩
      have hmost : mostM (ms.take (k + 1)) = max (mostM (ms.take k)) (m.tx.size : Int) := by rw [tk hme, mostM_snoc]
      have hS15 := hS14.putB e15
      have hS16 := hmost ▸ hS15
      refine ⟨k + 1, ?_, ⟨k + 1, _, _, by simp, by omega, hS16, fun s => ?_, ?_, fun s => ?_⟩, by dsimp only; omega⟩
      · have := hx.lim; exact (wr64 (by omega)).symm
      · rw [tk hme, depM_snoc, mget_mput, hd]; rfl
      · have hnew : m.1 ++ m.2 ∉ es.map (·.1) := by
          rw [hks, List.mem_append, not_or]
          constructor
          · intro hm
            unfold ones at hm
            rw [List.mem_map] at hm
            obtain ⟨i, _, e⟩ := hm
            have := congrArg ByteArray.size e
            rw [one_size] at this; omega
          · intro hm
            rw [List.mem_map] at hm
            obtain ⟨q, hq, e⟩ := hm
            exact hdis q hq e
        rw [mput_new hnew, List.map_append, hks, tk hme, List.map_append, List.append_assoc]; rfl
      · rw [tk hme, usesM_snoc, mget_mput]; unfold stepU
        by_cases e2 : m.2 = s
        · rw [if_pos e2, if_pos e2, ← e2]; rfl
        · rw [if_neg e2, if_neg e2, Int.add_zero, mget_mput]
          by_cases e1 : m.1 = s
          · rw [if_pos e1, if_pos e1, ← e1]; rfl
          · rw [if_neg e1, if_neg e1, hu, Int.add_zero]
    · rw [List.take_of_length_le (by omega)] at hS hd hks hu
      exact h2 b w6 hS.ext ⟨w, d, u, es, us, hS, hd, hks, hu⟩
end
end Go.Proofs.Ytchjcjocihckpaa.G
