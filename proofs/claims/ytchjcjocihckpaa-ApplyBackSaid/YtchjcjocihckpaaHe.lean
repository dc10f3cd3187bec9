/- Contracts: the document's answers for a vocabulary. -/
import Derived.Test.YtchjcjocihckpaaHd
import Derived.Test.YtchjcjocihckpaaPm
namespace Go.Proofs.Ytchjcjocihckpaa.G
open Go Go.RowKit
/-- The place of the first merge that makes a text; -1: none. -/
def madeAt (ms : List Mg) (s : BA) : Int := match ms.findIdx? fun m => decide (m.tx = s) with | some i => i | none => -1
theorem madeAt_some {ms : List Mg} {s : BA} {k : Nat} {m : Mg} (hm : ms[k]? = some m) (he : m.tx = s) (hn : ((ms.take k).any fun q => decide (q.tx = s)) = false) : madeAt ms s = k := by
  unfold madeAt
  have hk := gl hm
  have : ms.findIdx? (fun m => decide (m.tx = s)) = some k := by
    rw [List.findIdx?_eq_some_iff_getElem]
    refine ⟨hk, ?_, fun j hj => ?_⟩
    · rw [List.getElem?_eq_getElem hk] at hm; cases hm; exact decide_eq_true he
    · rw [List.any_eq_false] at hn
      exact hn _ (List.mem_of_getElem? (i := j) (by rw [List.getElem?_take_of_lt hj, List.getElem?_eq_getElem (by omega)]))
  rw [this]
theorem madeAt_none {ms : List Mg} {s : BA} (hn : (ms.any fun q => decide (q.tx = s)) = false) : madeAt ms s = -1 := by
  unfold madeAt
  have : ms.findIdx? (fun m => decide (m.tx = s)) = none := by
    rw [List.findIdx?_eq_none_iff]
    rw [List.any_eq_false] at hn
    intro x hx
    simpa using hn x hx
  rw [this]
theorem madeAt_cases (ms : List Mg) (s : BA) : (madeAt ms s = -1 ∧ (ms.any fun q => decide (q.tx = s)) = false) ∨ ∃ (k : Nat) (m : Mg), madeAt ms s = k ∧ ms[k]? = some m ∧ m.tx = s := by
  unfold madeAt
  cases e : ms.findIdx? fun m => decide (m.tx = s) with
  | none =>
    rw [List.findIdx?_eq_none_iff] at e
    exact .inl ⟨rfl, by rw [List.any_eq_false]; intro x hx; simpa using e x hx⟩
  | some k =>
    rw [List.findIdx?_eq_some_iff_getElem] at e
    obtain ⟨h1, h2, _⟩ := e
    exact .inr ⟨k, ms[k], rfl, List.getElem?_eq_getElem h1, of_decide_eq_true h2⟩
theorem madeAt_side (ms : List Mg) (s : BA) : (decide (s.size = 1) || decide (0 ≤ madeAt ms s)) = side s ms := by
  unfold side
  rcases madeAt_cases ms s with ⟨h1, h2⟩ | ⟨k, m, h1, h2, h3⟩
  · rw [h1, h2]; rfl
  · rw [h1, List.any_eq_true.2 ⟨m, gm h2, decide_eq_true h3⟩]; simp
section
variable {w : World}
theorem k_ref21_made {s : Sl} {t : BA} {ms : List Mg} {R : Int → World → Prop} (hx : Rows w 2 mgE s ms) (hm : Sm ms) (h : ∀ w', Ext w w' → R (madeAt ms t) w') :
    Calls PP n_ref21_made #[s.v, .string t] w fun e w' => ∃ r : Int, e = .returned (.int .i64 r) ∧ R r w' := by
  refine vc_ref21_made ?_
  unfold VC_ref21_made
  have l1 := hx.len
  have l3 := hx.lim
  refine ⟨fun l w' => ∃ k : Nat, l = k ∧ k ≤ ms.length ∧ Ext w w' ∧ ((ms.take k).any fun m => decide (m.tx = t)) = false, fun l _ => (ms.length - l).toNat, ⟨0, rfl, by omega, Chg.refl w, by simp⟩, ?_⟩
  rintro _ w' ⟨k, rfl, hk, x, ht⟩
  refine ⟨fun hl => ?_, fun hl => ?_⟩
  · obtain ⟨b, o, m, hb, hme, hc, hc2⟩ := (hx.ext x).mg (i := k) (by omega)
    have hin := hm m (gm hme)
    refine ⟨k, rfl, by omega, b, o, hb, m.1, hc, m.2, hc2, by omega, fun h3 w2 x2 => ?_, fun h3 => ⟨k + 1, (wr64 (by omega)).symm, fun w2 x2 => ⟨⟨k + 1, by simp, by omega, x.tr x2, ?_⟩, by dsimp only; omega⟩⟩⟩
    · exact madeAt_some hme h3 ht ▸ h w2 (x.tr x2)
    · rw [tk hme, List.any_append, ht]; simpa using h3
  · rw [List.take_of_length_le (by omega)] at ht
    exact madeAt_none ht ▸ h w' x
theorem k_ref21_Has {s : Sl} {t : BA} {ms : List Mg} {R : Bool → World → Prop} (hx : Rows w 2 mgE s ms) (hm : Sm ms) (h : ∀ w', Ext w w' → R (side t ms) w') :
    Calls PP n_ref21_Has #[s.v, .string t] w fun e w' => ∃ r : Bool, e = .returned (.bool r) ∧ R r w' := by
  refine vc_ref21_Has ?_
  unfold VC_ref21_Has
  rw [← madeAt_side] at h
  refine ⟨fun h1 => ?_, fun h1 => k_ref21_made hx hm fun w' x => ?_⟩
  · have := h w (Chg.refl w)
    rw [decide_eq_true (by omega : t.size = 1), Bool.true_or] at this; exact this
  · have := h w' x
    rw [decide_eq_false (by omega : ¬ t.size = 1), Bool.false_or] at this; exact this
theorem k_ref21_Depth : ∀ (n : Nat) {w : World} {s : Sl} {t : BA} {ms : List Mg} {R : Int → World → Prop}, ms.length = n → Rows w 2 mgE s ms → Sm ms → good ms → (∀ w', Ext w w' → R ((depM ms t).getD (-1)) w') → n ≤ 1099511627776 →
    Calls PP n_ref21_Depth #[s.v, .string t] w fun e w' => ∃ r : Int, e = .returned (.int .i64 r) ∧ R r w' := by
  intro n
  induction n using Nat.strongRecOn with
  | ind n ih =>
    intro w s t ms R hn hx hm hg h hB
    refine vc_ref21_Depth ?_
    unfold VC_ref21_Depth
    have l1 := hx.len
    have l4 := hx.cap
    refine ⟨fun h1 => ?_, fun h1 => k_ref21_made hx hm fun w2 x2 => ⟨fun h2 => ?_, fun h2 => ?_⟩⟩
    · have : depM ms t = some 0 := by
        have hs : ∀ l : List Mg, good l → depM l t = some 0 := by
          intro l
          induction l using snoc_ind with
          | h0 => intro _; rw [depM_nil, if_pos (by omega)]
          | h1 l m ihl =>
            intro hg
            have hgm : good l := by have := hg.take l.length; rwa [List.take_left] at this
            have hp := hg.pos l.length m (by simp)
            rw [depM_snoc]; unfold stepD
            rw [if_neg, ihl hgm]
            intro e
            rw [← e, ba_append_size] at h1; omega
        exact hs ms hg
      have := h w (Chg.refl w)
      rw [‹depM ms t = _›] at this; exact this
    · rcases madeAt_cases ms t with ⟨e1, e2⟩ | ⟨k, m, e1, e2, e3⟩
      · have : depM ms t = none := by
          have := depM_some ms t
          unfold side at this
          rw [e2, decide_eq_false (by omega)] at this
          simpa using this
        have := h w2 x2
        rw [‹depM ms t = _›] at this; exact this
      · omega
    · rcases madeAt_cases ms t with ⟨e1, e2⟩ | ⟨k, m, e1, e2, e3⟩
      · omega
      · have hk := gl e2
        obtain ⟨b, o, m', hb, hme, hc, hc2⟩ := (hx.ext x2).mg (i := k) (by omega)
        rw [e2] at hme; cases hme
        have hlt : (ms.take k).length = k := by simp; omega
        refine ⟨k, e1, ⟨by omega, by omega⟩, by omega, b, o, hb, m.1, hc, ⟨by omega, by omega⟩, m.2, hc2, fun w3 x3 => ?_⟩
        have hr : Rows w3 2 mgE (s.sub 0 k 2) (ms.take k) := ((hx.ext x2).ext x3).take (by omega)
        refine ih k (by omega) hlt hr (hm.take k) (hg.take k) (fun w4 x4 => ⟨(x3.tr x4).cell hc, (x3.tr x4).cell hc2, ?_⟩) (by omega)
        refine ih k (by omega) hlt (hr.ext x4) (hm.take k) (hg.take k) (fun w5 x5 => ⟨((x3.tr x4).tr x5).cell hc, ((x3.tr x4).tr x5).cell hc2, _, rfl, ?_⟩) (by omega)
        have hd := depM_at hg e2
        rw [e3] at hd
        have g : ∀ u, -1 ≤ (depM (ms.take k) u).getD (-1) ∧ (depM (ms.take k) u).getD (-1) ≤ k := fun u => by
          cases e : depM (ms.take k) u with
          | none => simp
          | some v => have := depM_le _ u v e; rw [hlt] at this; simp; omega
        have g1 := g m.1
        have g2 := g m.2
        have := h w5 (((x2.tr x3).tr x4).tr x5)
        rw [hd, Option.getD_some] at this
        rw [wr64 (by omega)]; exact this
theorem k_ref21_Uses {s : Sl} {t : BA} {ms : List Mg} {R : Int → World → Prop} (hx : Rows w 2 mgE s ms) (hl : ms.length ≤ 1099511627776) (h : R (usesM ms t) w) :
    Calls PP n_ref21_Uses #[s.v, .string t] w fun e w' => ∃ r : Int, e = .returned (.int .i64 r) ∧ R r w' := by
  refine vc_ref21_Uses ?_
  unfold VC_ref21_Uses
  have l1 := hx.len
  refine ⟨fun n l w' => ∃ k : Nat, l = k ∧ k ≤ ms.length ∧ w' = w ∧ n = usesM (ms.take k) t, fun _ l _ => (ms.length - l).toNat, ⟨0, rfl, by omega, rfl, by simp [usesM]⟩, ?_⟩
  rintro _ _ w' ⟨k, rfl, hk, rfl, rfl⟩
  refine ⟨fun hl => ?_, fun hl => ?_⟩
  · obtain ⟨b, o, m, hb, hme, hc, hc2⟩ := hx.mg (i := k) (by omega)
    have hu := usesM_le (ms.take k) t
    have hlt : (ms.take k).length = k := by simp; omega
    have hs : usesM (ms.take (k + 1)) t = usesM (ms.take k) t + (if m.1 = t then 1 else 0) + (if m.2 = t then 1 else 0) := by rw [tk hme, usesM_snoc]; rfl
    refine ⟨fun j w2 => w2 = w' ∧ j = usesM (ms.take k) t + (if m.1 = t then 1 else 0), ?_, k, rfl, by omega, b, o, hb, m.1, hc, fun h1 => ⟨_, rfl, rfl, ?_⟩, fun h1 => ⟨rfl, ?_⟩⟩
    · rintro j w2 ⟨rfl, rfl⟩
      have h0 : ∀ (c : Prop) [Decidable c], 0 ≤ (if c then (1 : Int) else 0) ∧ (if c then (1 : Int) else 0) ≤ 1 := fun c _ => by split <;> omega
      have h01 := h0 (m.1 = t)
      refine ⟨k, rfl, by omega, b, o, hb, m.2, hc2, fun h2 => ⟨_, rfl, k + 1, (wr64 (by omega)).symm, ⟨k + 1, by simp, by omega, rfl, ?_⟩, by dsimp only; omega⟩, fun h2 => ⟨k + 1, (wr64 (by omega)).symm, ⟨k + 1, by simp, by omega, rfl, ?_⟩, by dsimp only; omega⟩⟩
      · rw [wr64 (by omega), hs, if_pos h2]
      · rw [hs, if_neg h2, Int.add_zero]
    · rw [wr64 (by omega), if_pos h1]
    · rw [if_neg h1, Int.add_zero]
  · rw [List.take_of_length_le (by omega)]; exact h
theorem k_ref21_Longest {s : Sl} {t : BA} {ms : List Mg} {R : Sl → World → Prop} (hx : Rows w 2 mgE s ms) (hm : Sm ms) (ht : t.size ≤ 1099511627776)
    (h : ∀ r w', Ext w w' → OwnL w' t_string 1 strE r (longest (fun u => side u ms) t) → (∀ c, r.blk = some c → w.heap.size ≤ c) → R r w') :
    Calls PP n_ref21_Longest #[s.v, .string t] w fun e w' => ∃ r : Sl, e = .returned r.v ∧ R r w' := by
  refine vc_ref21_Longest ?_
  unfold VC_ref21_Longest
  refine ⟨fun u r w' => ∃ acc, acc ++ longest (fun u => side u ms) u = longest (fun u => side u ms) t ∧ acc.length + u.size ≤ t.size ∧ Ext w w' ∧ OwnL w' t_string 1 strE r acc ∧ (∀ c, r.blk = some c → w.heap.size ≤ c), fun u _ _ => u.size,
    ⟨[], rfl, by simp, Chg.refl w, OwnL.nil, fun c hc => (nomatch hc)⟩, ?_⟩
  rintro u r w1 ⟨acc, ha, hu, x1, ho, hf⟩
  have hn := ho.len strE_len (by decide)
  refine ⟨fun hz => ?_, fun hz => ?_⟩
  · have hcp := cutn_pos (fun n => side (u.extract 0 n) ms) u.size (by omega)
    refine ⟨fun j w2 => j = (cutn (fun n => side (u.extract 0 n) ms) u.size : Int) ∧ Ext w1 w2, ?_, fun l w2 => ∃ k : Nat, l = k ∧ 1 ≤ k ∧ k ≤ u.size ∧ Ext w1 w2 ∧ cutn (fun n => side (u.extract 0 n) ms) k = cutn (fun n => side (u.extract 0 n) ms) u.size, fun l _ => l.toNat,
      ⟨u.size, rfl, by omega, by omega, Chg.refl w1, rfl⟩, ?_⟩
    · rintro _ w2 ⟨rfl, x2⟩
      have hlc := longest_cons (fun u => side u ms) (s := u) (by omega)
      refine ⟨_, rfl, ⟨by omega, by omega⟩, _, ho.ext x2, ⟨by omega, by show _ ≤ 9223372036854775807; omega⟩, fun r2 w3 hA => ⟨⟨by omega, by omega⟩, ⟨acc ++ [u.extract 0 (cutn (fun n => side (u.extract 0 n) ms) u.size)], ?_, ?_, ?_, hA.ownL, ?_⟩, ?_⟩⟩
      · rw [List.append_assoc, List.singleton_append, ← hlc]; exact ha
      · rw [List.length_append, ext_size (Nat.le_refl _), List.length_singleton]; omega
      · exact Chg.of_new (x1.tr x2) hA.chg fun c hc => hf c hc
      · intro c hc
        rcases hA.lt hc with h | h
        · exact hf c h
        · exact Nat.le_trans (x1.tr x2).size h
      · dsimp only; rw [ext_size (Nat.le_refl _)]; omega
    · rintro _ w2 ⟨k, rfl, hk1, hk, x2, hcut⟩
      refine ⟨fun h1 => ⟨k, rfl, ⟨by omega, by omega⟩, k_ref21_Has ((hx.ext x1).ext x2) hm fun w3 x3 => ⟨fun h2 => ⟨?_, x2.tr x3⟩, fun h2 => ⟨k - 1, ?_, ⟨k - 1, by omega, by omega, by omega, x2.tr x3, ?_⟩, by dsimp only; omega⟩⟩⟩, fun h1 => ⟨?_, x2⟩⟩
      · rw [← hcut, cutn_hit (p := fun n => side (u.extract 0 n) ms) (.inr h2)]
      · rw [wr64 (by omega)]
      · rw [← hcut, cutn_step (p := fun n => side (u.extract 0 n) ms) (by omega) h2]
      · rw [← hcut, cutn_hit (.inl (by omega))]
  · have : u.size = 0 := by omega
    rw [longest_nil _ this, List.append_nil] at ha
    exact h r w1 x1 (ha ▸ ho) hf
end
end Go.Proofs.Ytchjcjocihckpaa.G
