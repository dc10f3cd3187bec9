/- The second law on vocabularies, walked. -/
import Derived.Test.YtchjcjocihckpaaHo
namespace Go.Proofs.Ytchjcjocihckpaa.G
open Go Go.RowKit
theorem cals_c1 : Cal PP n_vocab_Vocab_Texts_c1 := ⟨_, Try.func44, by kernel_rfl, by kernel_rfl⟩
section
variable {w w1 : World}
theorem seq_none (w : World) : SeqC PP (.func (.func n_vocab_Vocab_Texts_c1) #[] #[]) (fun x : BA => #[(fun (x : ByteArray) => Value.string x) x]) (fun _ => False) (fun ys => ys = []) (fun _ => False) 0 w := by
  refine ⟨n_vocab_Vocab_Texts_c1, _, rfl, cals_c1, fun b h => h.elim, ?_⟩
  intro l J Jx W hbel _ _ hy h0
  refine callsIn_wide.2 ((vc_vocab_Vocab_Texts_c1 (a0 := .func (.yield l) #[] #[]) (R := fun W' => J [] W') ?_).mono fun e W' ⟨he, hr⟩ => ⟨⟨_, he⟩, .inl ⟨[], rfl, hr⟩⟩)
  unfold VC_vocab_Vocab_Texts_c1
  exact h0
theorem k_vocab_Texts_none {R : Value → World → Prop} (h : R (.func (.func n_vocab_Vocab_Texts_c1) #[] #[]) w) : Calls PP n_vocab_Vocab_Texts #[.pointer none] w fun e w' => ∃ r : Value, e = .returned r ∧ R r w' := by
  refine vc_vocab_Vocab_Texts ?_
  unfold VC_vocab_Vocab_Texts
  exact ⟨fun _ => h, fun h => absurd rfl h⟩
theorem Voc.nd {b : Nat} {ms : List Mg} (h : Voc w b ms) : (ones ++ ms.map Mg.tx).Nodup := by
  obtain ⟨w0, d, u, es, us, hS, hd, hk, hu⟩ := h
  rw [← hk]; exact hS.dm.nd
theorem Srt.nd {L : List BA} (h : Srt L) : L.Nodup := h.imp fun {a b} hab e => by
  subst e
  have : bless a a = false := by
    cases hb : bless a a with
    | false => rfl
    | true => exact absurd hb (by unfold bless; rw [← bl_lt]; exact List.lt_irrefl _)
  rw [this] at hab; cases hab
theorem len_of_mem {L M : List BA} (h1 : L.Nodup) (h2 : M.Nodup) (h : ∀ t, t ∈ L ↔ t ∈ M) : L.length = M.length :=
  ((List.perm_ext_iff_of_nodup h1 h2).2 h).length_eq
theorem k_law21_VocabWhole {s : Sl} {ms : List Mg} {t : BA} {few : Int} {R : Bool → World → Prop} (hx : Rows w 2 mgE s ms) (hfew : 0 ≤ few ∧ few < 256) (h : ∀ w', Ext w w' → R true w') :
    Calls PP n_law21_VocabWhole #[s.v, .string t, .int .u8 few] w fun e w' => ∃ r : Bool, e = .returned (.bool r) ∧ R r w' := by
  refine vc_law21_VocabWhole ?_
  unfold VC_law21_VocabWhole
  have l1 := hx.len
  have l3 := hx.lim
  intro g w2 hP g' w6 hP'
  have hX : Ext w w6 := hP.ext.tr hP'.ext
  have gl : g < w6.heap.size := by have := hP.lt; have := hP'.ext.size; omega
  have gl' : g' < w6.heap.size := hP'.lt
  have gf : w.heap.size ≤ g := hP.fresh
  have gf' : w.heap.size ≤ g' := by have := hP'.fresh; have := hP.ext.size; omega
  have fin : ∀ {wa wb : World}, Ext w6 wa → Chg (fun c => c = g') wa wb → R true wb := fun x c => h _ (Chg.of_new (hX.tr x) c fun b hb => hb ▸ gf')
  have kp : ∀ {wa wb : World}, Ext w6 wa → Ext wa wb → wb.heap[g]? = wa.heap[g]? := fun x y => y.keep (Nat.lt_of_lt_of_le gl x.size)
  have kp' : ∀ {wa wb : World}, Ext w6 wa → Ext wa wb → wb.heap[g']? = wa.heap[g']? := fun x y => y.keep (Nat.lt_of_lt_of_le gl' x.size)
  refine k_law21_awake fun w11 x11 => ⟨kp (Chg.refl _) x11, kp' (Chg.refl _) x11, fun _ => ?_, fun h => nomatch h⟩
  have hx11 := hx.ext (hX.tr x11)
  refine k_ref18_Great hx11 fun w19 x19 => ⟨kp x11 x19, kp' x11 x19, fun _ w26 c => fin (x11.tr x19) c, fun hgr => ⟨fun _ w29 c => fin (x11.tr x19) c, fun ht => ?_⟩⟩
  obtain ⟨hsz, hlen⟩ := great_no hgr
  have X19 : Ext w6 w19 := x11.tr x19
  have hx19 := hx11.ext x19
  refine k_vocab_Has_none ⟨rfl, rfl, fun h => (nomatch h), fun _ => k_vocab_Depth_none ⟨rfl, rfl, fun h => absurd rfl h, fun _ => k_vocab_Longest_none ⟨rfl, rfl, fun h => absurd rfl h, fun _ => k_vocab_Uses_none ⟨rfl, rfl, fun h => absurd rfl h, fun _ =>
    k_vocab_Texts_none ⟨rfl, rfl, _, _, _, rfl, k_vocab_Len_none ⟨rfl, rfl, fun h => absurd rfl h, fun _ => k_vocab_Texts_none ⟨rfl, rfl, ?_⟩⟩⟩⟩⟩⟩⟩
  refine ⟨_, _, _, _, seq_none w19, fun pre _ W => Ext w19 W ∧ True, fun pre _ W => False ∧ True, fun _ => own_ext, fun _ _ _ _ _ h => h.1.elim, ⟨Chg.refl _, trivial⟩, fun pre x l W _ hl => absurd hl (by omega), ?_, fun pre l W D _ _ hf => hf.elim⟩
  rintro _ l W D hD hDl rfl ⟨xW, -⟩
  have XW := X19.tr xW
  have hxW := hx19.ext xW
  have Dl : D < W.heap.size := hDl
  have df : w.heap.size ≤ D := by have := hX.size; have := X19.size; omega
  refine k_vocab_New hxW (by omega) (fun hne w124 x124 => ?_) fun hc0 v w124 x124 hV => ?_
  · refine ⟨kp XW x124, kp' XW x124, x124.keep Dl, fun j w' => w' = w124 ∧ j = true, ?_, fun _ => ⟨rfl, rfl⟩, fun hn => absurd (fun e => hne (by omega)) hn⟩
    rintro j w' ⟨rfl, rfl⟩
    refine ⟨fun _ w142 c142 w144 c144 => ?_, fun h => nomatch h⟩
    rw [decide_eq_true (p := ((check ms).2 : Int) ≠ 0) (by omega)]
    refine h _ (Chg.of_new (hX.tr (XW.tr x124)) (c142.trans c144 (S'' := fun c => c = g' ∨ c = D) (fun b _ hb => .inl hb) fun b _ hb => .inr hb) ?_)
    rintro b (rfl | rfl) <;> omega
  · have X124 := XW.tr x124
    refine ⟨kp XW x124, kp' XW x124, x124.keep Dl, fun j w' => w' = w124 ∧ j = false, ?_, fun hn => absurd rfl hn, fun _ => ⟨rfl, by simp⟩⟩
    rintro j w' ⟨rfl, rfl⟩
    refine ⟨fun h => (nomatch h), fun _ => ?_⟩
    have Dl2 : D < w'.heap.size := Nat.lt_of_lt_of_le Dl x124.size
    refine k_vocab_Longest hV (by omega) fun r w147 x147 ho hf => ⟨kp X124 x147, kp' X124 x147, x147.keep Dl2, ?_⟩
    have X147 := X124.tr x147
    have Dl3 : D < w147.heap.size := Nat.lt_of_lt_of_le Dl2 x147.size
    have hV147 := hV.ext x147
    obtain ⟨hall, hflat⟩ := longest_ok ms t.size t rfl
    have hLl := longest_len (fun u => side u ms) t
    generalize longest (fun u => side u ms) t = L at ho hall hflat hLl
    have hrn := ho.len strE_len (by decide)
    refine ⟨fun u _ W => Ext w147 W ∧ u = t, ?_, fun u i _ W => Ext w147 W ∧ ∃ k : Nat, i = k ∧ k ≤ L.length ∧ u = flatB (L.take k), fun _ i _ _ => (L.length - i).toNat, ⟨Chg.refl _, 0, rfl, by omega, rfl⟩, ?_⟩
    · rintro _ lb w158 ⟨x158, rfl⟩ g3 w223 hP3 w229 c229
      have X158 := X147.tr x158
      have x229 : Ext w158 w229 := hP3.then c229
      have X229 := X158.tr x229
      have hV229 := (hV147.ext x158).ext x229
      have g3l : g3 < w229.heap.size := by have := hP3.lt; have := c229.size; omega
      have g3f : w158.heap.size ≤ g3 := hP3.fresh
      have Dl4 : D < w229.heap.size := Nat.lt_of_lt_of_le Dl3 (x158.tr x229).size
      refine k_vocab_Texts hV229 (by omega) (fun m hm' => by have := hsz m hm'; have e : m.tx.size = m.1.size + m.2.size := ba_append_size m.1 m.2; omega) fun fv w232 L2 x232 hI hs2 hm2 => ⟨kp X229 x232, kp' X229 x232, x232.keep Dl4, x232.keep g3l, ?_⟩
      have X232 := X229.tr x232
      have hV232 := hV229.ext x232
      have hL2 : L2.length = 256 + ms.length := by
        rw [len_of_mem hs2.nd hV.nd hm2]; simp [ones_len]
      obtain ⟨bi, si, rfl, hI'⟩ := id hI
      have hI2 : IterS w229.heap.size w232 _ L2 := ⟨bi, si, rfl, hI'⟩
      obtain ⟨Fp, hFp, hseq⟩ := hI2.seq
      have hs232 := X232.size
      have hs158 := (x158.tr x229).size
      have hs147 := X147.size
      have hs0 := hX.size
      have h232 := x232.size
      have h229 := x229.size
      refine ⟨_, _, _, rfl, fun j D2 W' => Chg (fun c => c = g3) w232 W' ∧ w232.heap.size ≤ D2 ∧ D2 < W'.heap.size ∧ j = min ((256 + ms.length : Nat) : Int) (few + 1), ?_, ?_⟩
      · rintro j D2 w246 ⟨c246, hD2, hD2l, rfl⟩
        refine ⟨fun _ => ⟨_, rfl, _, rfl, fun w293 x293 => ?_⟩, fun hn => absurd rfl hn⟩
        have E246 : Ext w158 w246 := Chg.of_new (x229.tr x232) c246 fun b hb => hb ▸ g3f
        have hVf : Voc w293 v ms := (hV147.ext x158).ext (E246.tr x293)
        refine k_vocab_Len hVf ⟨rfl, rfl, rfl, rfl, rfl, fun w306 c306 w308 c308 w310 c310 => ?_⟩
        have e2 : IntKind.wrap .i64 (IntKind.wrap .i64 few + 1) = few + 1 := by
          have e0 : IntKind.wrap .i64 few = few := wr64 (by omega)
          rw [e0, wr64 (by omega)]
        rw [decide_eq_true (by rw [e2])]
        have c1 := c306.trans c308 (S'' := fun c => c = g' ∨ c = D2 ∨ c = D) (fun b _ hb => .inl hb) fun b _ hb => .inr (.inl hb)
        have c2 := c1.trans c310 (S'' := fun c => c = g' ∨ c = D2 ∨ c = D) (fun b _ hb => hb) fun b _ hb => .inr (.inr hb)
        refine h _ (Chg.of_new (hX.tr (((X147.tr x158).tr E246).tr x293)) c2 ?_)
        rintro b (rfl | rfl | rfl) <;> omega
      · refine ⟨Fp, _, _, _, hseq, fun pre l W => Chg (fun c => c = g3) w232 W ∧ (l = (pre.length : Int) ∧ (pre.length : Int) ≤ few), fun pre l W => Chg (fun c => c = g3) w232 W ∧ (l = (pre.length : Int) ∧ (pre.length : Int) = few + 1), fun _ => own_chg, fun _ => own_chg, ⟨Chg.refl _, rfl, hfew.1⟩, ?_, ?_, ?_⟩
        · rintro pre x l W ⟨cW, rfl, hle⟩ hpl
          refine ⟨_, rfl, fun w275 c275 => ⟨_, rfl, fun hlt => ?_, fun hge => ?_⟩⟩
          · rw [wr64 (by omega), wr64 (by omega)] at hlt
            refine ⟨KO.of_chg c275 fun b _ hb => by simp [hb], cW.then c275, ?_, ?_⟩
            · rw [wr64 (by omega)]; simp
            · simp; omega
          · rw [wr64 (by omega), wr64 (by omega)] at hge
            refine ⟨KO.of_chg c275 fun b _ hb => by simp [hb], fun b hb => c275.blk b ?_ ?_, cW.then c275, ?_, ?_⟩
            · exact Nat.lt_of_lt_of_le (hFp b hb).2 cW.size
            · have := (hFp b hb).1
              omega
            · rw [wr64 (by omega)]; simp
            · simp; omega
        · rintro xs l W D2 hD2 hD2l rfl ⟨cW, rfl, hle⟩
          exact ⟨cW, hD2, hD2l, by omega⟩
        · rintro pre l W D2 hD2 hD2l hSp ⟨cW, rfl, he⟩
          have := hSp.1.length_le
          exact ⟨cW, hD2, hD2l, by omega⟩
    · rintro _ _ lb W2 ⟨x2, k, rfl, hk, rfl⟩
      have XW2 := X147.tr x2
      refine ⟨fun hl => ⟨fun _ => ?_, fun hn => absurd (by omega) hn⟩, fun hl => ⟨x2, ?_⟩⟩
      · obtain ⟨b, o, u, hb, hu, hc⟩ := ((ho.ext x2).rows strE_len (by decide)).str (i := k) (by omega)
        obtain ⟨hs1, hs2⟩ := hall u (gm hu)
        have hV2 := hV147.ext x2
        refine ⟨k, rfl, by omega, b, o, hb, u, hc, k_vocab_Has hV2 ⟨rfl, rfl, rfl, fun _ => ⟨u, hc, k_vocab_Depth hV2 ⟨rfl, rfl, rfl, fun hneg => ?_, fun _ => ⟨u, hc, fun he => absurd he (size_ne.2 hs2), fun _ => ⟨?_, _, rfl, ⟨x2, k + 1, ?_, by have := gl; omega, ?_⟩, ?_⟩⟩⟩⟩, fun hf => by rw [hs1] at hf; cases hf⟩⟩
        · have h5 := depM_pos ms u
          rw [hs1] at h5
          have := of_decide_eq_true h5
          omega
        · have h5 := flatB_at hu
          rw [hflat] at h5; omega
        · rw [wr64 (by omega)]; simp
        · rw [tk hu, flatB_snoc]
        · rw [wr64 (by omega)]; dsimp only; omega
      · rw [List.take_of_length_le (by omega), hflat]
end
end Go.Proofs.Ytchjcjocihckpaa.G
