/- The laws on vocabularies, walked. -/
import Derived.Test.YtchjcjocihckpaaHn
import Derived.Test.YtchjcjocihckpaaPm
namespace Go.Proofs.Ytchjcjocihckpaa.G
open Go Go.RowKit
/-- What changed no more than some blocks is as good behind a turn of the book-keeping. -/
theorem own_chg {β : Type} {w0 : World} {S : Nat → Prop} {p : β → Prop} : OwnFrom w0.heap.size fun (s : β) (W : World) => Chg S w0 W ∧ p s :=
  fun _ _ _ _ ⟨x, hp⟩ hg hr => ⟨x.trans (Chg.of_grown hg) (fun _ _ h => h) fun b hb e => absurd (hr b e.symm).1 (by omega), hp⟩
theorem great_no {ms : List Mg} {n : Int} (h : great ms n = false) : (∀ m ∈ ms, m.1.size ≤ 300 ∧ m.2.size ≤ 300) ∧ (ms.length : Int) ≤ n := by
  unfold great at h
  rw [Bool.or_eq_false_iff, List.any_eq_false] at h
  obtain ⟨h1, h2⟩ := h
  refine ⟨fun m hm => ?_, ?_⟩
  · have := h1 m hm; simp at this; omega
  · have := of_decide_eq_false h2; omega
theorem cutn_ok {p : Nat → Bool} : ∀ n, 1 ≤ n → cutn p n = 1 ∨ p (cutn p n) = true
  | n + 1, _ => by
    unfold cutn
    by_cases h : n = 0
    · rw [if_pos h]; exact .inl rfl
    · rw [if_neg h]
      by_cases h2 : p (n + 1) = true
      · rw [if_pos h2]; exact .inr h2
      · rw [if_neg h2]; exact cutn_ok n (by omega)
theorem longest_ok (ms : List Mg) : ∀ (n : Nat) (t : BA), t.size = n → (∀ u ∈ longest (fun u => side u ms) t, side u ms = true ∧ u.size ≠ 0) ∧ flatB (longest (fun u => side u ms) t) = t := by
  intro n
  induction n using Nat.strongRecOn with
  | ind n ih =>
    intro t ht
    by_cases h : t.size = 0
    · rw [longest_nil _ h]
      refine ⟨fun u hu => (nomatch hu), ?_⟩
      exact (Decidable.not_not.1 fun e => size_ne.1 (fun e2 => e e2.symm) h)
    · rw [longest_cons _ h]
      have hc := cutn_pos (fun n => side (t.extract 0 n) ms) t.size (by omega)
      have hz := ext_size (s := t) (l := cutn (fun n => side (t.extract 0 n) ms) t.size) (Nat.le_refl _)
      obtain ⟨i1, i2⟩ := ih _ (by omega) _ hz
      have hz0 := ext_size (s := t) (l := 0) (h := cutn (fun n => side (t.extract 0 n) ms) t.size) hc.2
      refine ⟨fun u hu => ?_, ?_⟩
      · rcases List.mem_cons.1 hu with rfl | hu
        · refine ⟨?_, by omega⟩
          rcases cutn_ok (p := fun n => side (t.extract 0 n) ms) t.size (by omega) with e | e
          · have e1 : (t.extract 0 (cutn (fun n => side (t.extract 0 n) ms) t.size)).size = 1 := by rw [hz0, e]
            show (decide _ || _) = true
            rw [decide_eq_true e1]; rfl
          · exact e
        · exact i1 u hu
      · rw [flatB_cons, i2, ByteArray.extract_append_extract, Nat.min_eq_left (by omega), Nat.max_eq_right (by omega), ByteArray.extract_zero_size]
def msA : List Mg := [(⟨#[97]⟩, ⟨#[98]⟩), (⟨#[98]⟩, ⟨#[99]⟩), (⟨#[97, 98]⟩, ⟨#[99]⟩)]
section
variable {w w1 : World}
theorem k_law21_awake {R : Bool → World → Prop} (h : ∀ w', Ext w w' → R true w') : Calls PP n_law21_awake #[] w fun e w' => ∃ r : Bool, e = .returned (.bool r) ∧ R r w' := by
  refine vc_law21_awake ?_
  unfold VC_law21_awake
  intro b w2 nb
  have hx : Rows w2 2 mgE ⟨some ⟨b, 0, none⟩, 3, 3⟩ msA := Rows.lit nb.here mgE_len
  have hc0 : (check msA).2 = 0 := by decide +kernel
  refine k_vocab_New (s := ⟨some ⟨b, 0, none⟩, 3, 3⟩) (ms := msA) hx (by decide) (fun hne => absurd hc0 hne) fun _ v w3 x3 hV => ⟨fun _ => ?_, fun h => absurd rfl h⟩
  refine k_vocab_Longest hV (by decide) fun r w4 x4 ho hf => ?_
  intro b' w5 nb'
  refine k_ref01_Texts (s := r) (t := ⟨some ⟨b', 0, none⟩, 2, 2⟩) (ys := [⟨#[97, 98, 99]⟩, ⟨#[98]⟩]) ((ho.ext nb'.ext).rows strE_len (by decide)) (Rows.lit nb'.here strE_len) fun w6 x6 => ⟨fun _ => ?_, fun hf => ?_⟩
  · refine k_vocab_Depth (hV.ext ((x4.tr nb'.ext).tr x6)) ?_
    have e : (decide ((depM msA ⟨#[97, 98, 99]⟩).getD (-1) = (2 : Int))) = true := by decide +kernel
    rw [e]
    exact h w6 ((((nb.ext.tr x3).tr x4).tr nb'.ext).tr x6)
  · have e : (decide (longest (fun u => side u msA) ⟨#[97, 98, 99, 98]⟩ = [⟨#[97, 98, 99]⟩, ⟨#[98]⟩])) = true := by decide +kernel
    rw [e] at hf; cases hf
theorem k_law21_VocabTells {s : Sl} {ms : List Mg} {t u : BA} {R : Bool → World → Prop} (hx : Rows w 2 mgE s ms) (h : ∀ w', Ext w w' → R true w') :
    Calls PP n_law21_VocabTells #[s.v, .string t, .string u] w fun e w' => ∃ r : Bool, e = .returned (.bool r) ∧ R r w' := by
  refine vc_law21_VocabTells ?_
  unfold VC_law21_VocabTells
  have l1 := hx.len
  have l3 := hx.lim
  intro g w2 hP
  have fin : ∀ {wa wb : World}, Ext w wa → Chg (fun c => c = g) wa wb → R true wb := fun x c => h _ (Chg.of_new x c fun b hb => hb ▸ hP.fresh)
  have kp : ∀ {wa wb : World}, Ext w2 wa → Ext wa wb → wb.heap[g]? = wa.heap[g]? := fun x y => y.keep (Nat.lt_of_lt_of_le hP.lt x.size)
  refine k_law21_awake fun w6 x6 => ⟨kp (Chg.refl _) x6, fun _ => ?_, fun h => nomatch h⟩
  have hx6 := hx.ext (hP.ext.tr x6)
  refine k_ref18_Great hx6 fun w13 x13 => ⟨kp x6 x13, fun _ w19 c => fin ((hP.ext.tr x6).tr x13) c, fun hgr => ⟨fun _ w22 c => fin ((hP.ext.tr x6).tr x13) c, fun ht => ⟨fun _ w25 c => fin ((hP.ext.tr x6).tr x13) c, fun hu => ?_⟩⟩⟩
  obtain ⟨hsz, hlen⟩ := great_no hgr
  have hm : Sm ms := fun m hm => by have := hsz m hm; omega
  have X13 : Ext w2 w13 := x6.tr x13
  have hx13 := hx6.ext x13
  refine k_vocab_New hx13 (by omega) (fun hne w28 x28 => ?_) fun hc0 v w28 x28 hV => ?_
  · refine ⟨kp X13 x28, k_ref18_Check (hx13.ext x28) hm fun w34 x34 => ⟨kp (X13.tr x28) x34, fun hn => absurd rfl hn, fun _ => ⟨fun hd => absurd ?_ hd, fun _ => ⟨fun _ w46 c => fin (((hP.ext.tr X13).tr x28).tr x34) c, fun hn => absurd (fun e => hne (by omega)) hn⟩⟩⟩⟩
    rw [decide_eq_true (p := (none : Option Addr) = none) rfl, decide_eq_true (p := ((check ms).2 : Int) ≠ 0) (by omega)]
  · have hg := good_of_check hc0
    refine ⟨kp X13 x28, k_ref18_Check (hx13.ext x28) hm fun w34 x34 => ?_⟩
    rw [hc0]
    refine ⟨kp (X13.tr x28) x34, fun hn => absurd rfl hn, fun _ => ⟨fun hd => absurd ?_ hd, fun _ => ⟨fun hn => absurd rfl hn, fun _ => ⟨fun hn => (nomatch hn), fun _ => ?_⟩⟩⟩⟩
    · rw [decide_eq_false (p := some (⟨v, 0, none⟩ : Addr) = none) (by simp), decide_eq_false (p := ((0 : Nat) : Int) ≠ 0) (by simp)]
    have X34 := (X13.tr x28).tr x34
    have hx34 := (hx13.ext x28).ext x34
    have hV34 := hV.ext x34
    refine k_vocab_Has hV34 ⟨rfl, k_ref21_Has hx34 hm fun w58 x58 => ⟨kp X34 x58, fun hn => absurd rfl hn, fun _ => ?_⟩⟩
    have X58 := X34.tr x58
    have hx58 := hx34.ext x58
    refine k_vocab_Depth (hV34.ext x58) ⟨rfl, k_ref21_Depth ms.length rfl hx58 hm hg (fun w73 x73 => ⟨kp X58 x73, fun hn => absurd rfl hn, fun _ => ?_⟩) (by omega)⟩
    have X73 := X58.tr x73
    have hx73 := hx58.ext x73
    have hV73 := (hV34.ext x58).ext x73
    refine k_vocab_Uses hV73 ⟨rfl, k_ref21_Uses hx73 (by omega) ⟨rfl, fun hn => absurd rfl hn, fun _ => k_vocab_Len hV73 ⟨rfl, _, rfl, fun hn => absurd ?_ hn, fun _ => ?_⟩⟩⟩
    · rw [wr64 (by omega), l1]; omega
    refine k_vocab_Longest hV73 (by omega) fun r w107 x107 ho hf => ⟨kp X73 x107, ?_⟩
    have X107 := X73.tr x107
    refine k_ref21_Longest (hx73.ext x107) hm (by omega) fun r' w113 x113 ho' hf' => ⟨kp X107 x113, ?_⟩
    have X113 := X107.tr x113
    refine k_ref01_Texts ((ho.ext x113).rows strE_len (by decide)) (ho'.rows strE_len (by decide)) fun w119 x119 => ⟨kp X113 x119, fun _ => ?_, fun hf => ?_⟩
    · have X119 := X113.tr x119
      have hx119 := ((hx73.ext x107).ext x113).ext x119
      refine k_ref21_Texts hx119 hg (by omega) fun q w126 L x126 hoL hsL hmL hlL hfL => ⟨kp X119 x126, ?_⟩
      have X126 := X119.tr x126
      intro g2 w132 hP2 w136 c136
      have X136 : Ext w2 w136 := X126.tr (hP2.then c136)
      have hV136 := ((((hV73.ext x107).ext x113).ext x119).ext x126).ext (hP2.then c136)
      have hg136 : w136.heap.size = w136.heap.size := rfl
      refine k_vocab_Texts hV136 (by omega) (fun m hm' => by have := hsz m hm'; have e : m.tx.size = m.1.size + m.2.size := ba_append_size m.1 m.2; omega) fun fv w139 L2 x139 hI hs2 hm2 => ?_
      have hLL : L2 = L := srt_unique hs2 hsL fun a => by rw [hm2, hmL]
      have g2lt : g2 < w136.heap.size := by have := hP2.lt; have := c136.size; omega
      refine ⟨kp X136 x139, x139.keep g2lt, ?_⟩
      obtain ⟨bi, si, rfl, hI'⟩ := id hI
      have hI2 : IterS w136.heap.size w139 _ L2 := ⟨bi, si, rfl, hI'⟩
      refine ⟨_, _, _, rfl, fun g3 w149 hP3 w154 c154 => ?_⟩
      have x154 : Ext w139 w154 := hP3.then c154
      have X154 := (X136.tr x139).tr x154
      obtain ⟨Fp, hFp, hseq⟩ := hI2.seq2 x154
      have hoq := ((hoL.ext (hP2.then c136)).ext x139).ext x154
      have hlq := hoq.len strE_len (by decide)
      have hqlt : ∀ c, q.blk = some c → c < w126.heap.size := fun c hc => hoL.lt hc
      have hggL : g < w126.heap.size := Nat.lt_of_lt_of_le hP.lt X126.size
      have hg2 : w126.heap.size ≤ g2 := hP2.fresh
      have hg3 : w139.heap.size ≤ g3 := hP3.fresh
      have hs139 := x139.size
      have hqg : q.blk ≠ some g := by
        intro e
        have := hfL g e
        have := Nat.lt_of_lt_of_le hP.lt X119.size
        omega
      refine ⟨Fp, _, _, _, hseq, fun pre l l' W => Chg (fun c => c = g ∨ c = g2 ∨ c = g3) w154 W ∧ (l' = (pre.length : Int) ∧ pre <+: L), fun pre l l' W => Chg (fun c => c = g ∨ c = g2 ∨ c = g3) w154 W ∧ ¬ pre <+: L, fun _ _ => own_chg, fun _ _ => own_chg, ⟨Chg.refl _, rfl, List.nil_prefix⟩, ?_, ?_, ?_⟩
      · rintro pre x l l' W ⟨cW, rfl, hpre⟩ hpl
        have hoW : OwnL W t_string 1 strE q L := hoq.chg cW fun c hc => by
          have := hqlt c hc
          rintro (rfl | rfl | rfl)
          · exact hqg hc
          · omega
          · have := hP2.then c136 |>.size; omega
        refine ⟨fun hge w181 c181 => ⟨KO.of_chg c181 fun b _ hb => by simp [hb], cW.then (c181.mono fun b _ hb => .inl hb), fun hp => ?_⟩, fun hlt => ?_⟩
        · have := hp.length_le; simp at this; omega
        · obtain ⟨b, o, v, hb, hv, hc⟩ := (hoW.rows strE_len (by decide)).str (i := pre.length) (by omega)
          refine ⟨pre.length, rfl, by omega, b, o, hb, v, hc, fun hne w191 c191 => ⟨KO.of_chg c191 fun b _ hb => by simp [hb], cW.then (c191.mono fun b _ hb => .inl hb), fun hp => ?_⟩, fun he => ⟨_, rfl, fun w194 c194 => ⟨KO.of_chg c194 fun b _ hb => by simp [hb], fun b hb => c194.blk b ?_ ?_, cW.then (c194.mono fun b _ hb => .inr (.inr hb)), ?_, ?_⟩⟩⟩
          · obtain ⟨tl, htl⟩ := hp
            have := congrArg (·[pre.length]?) htl
            rw [List.append_assoc] at this
            simp only [List.getElem?_append_right (Nat.le_refl _), Nat.sub_self, List.singleton_append, List.getElem?_cons_zero] at this
            rw [hv] at this
            exact hne (Option.some.inj this)
          · exact Nat.lt_of_lt_of_le (hFp b hb).2 (Nat.le_trans x154.size cW.size)
          · have := hFp b hb; omega
          · rw [wr64 (by omega)]; simp
          · have he := Decidable.not_not.1 he
            subst he
            have h1 : pre = L.take pre.length := List.prefix_iff_eq_take.1 hpre
            have := tk hv
            rw [← h1] at this
            rw [← this]; exact List.take_prefix _ _
      · rintro xs l l' W D hD hDl rfl ⟨cW, rfl, hp⟩ w197 c197 w199 c199
        have : (decide ((xs.length : Int) = ((q.n : Nat) : Int))) = true := decide_eq_true (by rw [hlq, hLL])
        rw [this]
        refine h _ (Chg.of_new (hP.ext.tr X154) ((cW.trans c197 (S'' := fun c => c = g ∨ c = g2 ∨ c = g3 ∨ c = D) (fun b _ hb => by rcases hb with h | h | h <;> simp [h]) fun b _ hb => .inl hb).trans c199 (S'' := fun c => c = g ∨ c = g2 ∨ c = g3 ∨ c = D) (fun b _ hb => hb) fun b _ hb => .inr (.inr (.inr hb))) ?_)
        have := hP.fresh
        have := hP.ext.size
        have := X126.size
        have := X136.size
        have := X154.size
        rintro b (rfl | rfl | rfl | rfl) <;> omega
      · rintro pre l l' W D hD hDl hSp ⟨cW, hn⟩
        exact absurd (hLL ▸ hSp.1) hn
    · rw [decide_eq_true rfl] at hf; cases hf
end
end Go.Proofs.Ytchjcjocihckpaa.G
