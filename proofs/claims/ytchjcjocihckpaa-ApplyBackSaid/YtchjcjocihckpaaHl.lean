/- Contracts: a slice's elements, one after the other; the texts of a vocabulary. -/
import Derived.Test.YtchjcjocihckpaaHf
import Derived.Test.YtchjcjocihckpaaGk
namespace Go.Proofs.Ytchjcjocihckpaa.G
open Go Go.RowKit
/-- A function value that hands over the texts of a slice. -/
def IterS (lo : Nat) (w : World) (v : Value) (xs : List BA) : Prop :=
  ∃ b s, v = .func (.func n_slices_Values_string_string_c1) #[] #[.pointer (some ⟨b, 0, none⟩)] ∧ w.heap[b]? = some (.cells #[s.v] t_sl_string (0, 0)) ∧ Rows w 1 strE s xs ∧ (∀ c, s.blk = some c → lo ≤ c ∧ c < w.heap.size) ∧ lo ≤ b
section
variable {w w1 : World}
theorem Rows.kf {s : Sl} {xs : List BA} {Fp : Nat → Prop} (h : Rows w 1 strE s xs) (hs : ∀ c, s.blk = some c → Fp c) (hk : KF Fp w w1) : Rows w1 1 strE s xs := by
  refine ⟨h.len, h.lim, h.cap, h.has, fun b o e i hi => ?_⟩
  have hc := h.row b o e i hi
  refine ⟨?_, trivial⟩
  have := (show Cells w b (o + i * 1) [_] from hc).1
  have hb := hk b (hs b (by simp [Sl.blk, e]))
  simpa [World.cell?, hb] using this
theorem IterS.ext {lo : Nat} {v : Value} {xs : List BA} (h : IterS lo w v xs) (x : Ext w w1) : IterS lo w1 v xs := by
  obtain ⟨b, s, h1, h2, h3, h4, h5⟩ := h
  exact ⟨b, s, h1, x.get h2, h3.ext x, fun c hc => ⟨(h4 c hc).1, Nat.lt_of_lt_of_le (h4 c hc).2 x.size⟩, h5⟩
theorem IterS.seq2 {lo : Nat} {v : Value} {xs : List BA} (h : IterS lo w v xs) (x : Ext w w1) : ∃ Fp : Nat → Prop, (∀ b, Fp b → lo ≤ b ∧ b < w.heap.size) ∧ SeqC PP v (fun x : BA => #[(fun (x : ByteArray) => Value.string x) x]) Fp (fun ys => ys = xs) (fun ys => ys <+: xs ∧ ys ≠ []) xs.length w1 := by
  obtain ⟨b, s, rfl, hb0, hR0, hlt0, hlo⟩ := h
  have hb := x.get hb0
  have hR := hR0.ext x
  have hlt : ∀ c, s.blk = some c → c < w1.heap.size := fun c hc => Nat.lt_of_lt_of_le (hlt0 c hc).2 x.size
  have hF : ∀ c, (c = b ∨ s.blk = some c) → c < w1.heap.size := fun c hc => hc.elim (fun e => e ▸ lt_of_blk hb) (hlt c)
  refine ⟨fun c => c = b ∨ s.blk = some c, fun c hc => hc.elim (fun e => e ▸ ⟨hlo, lt_of_blk hb0⟩) (hlt0 c), n_slices_Values_string_string_c1, _, rfl, ⟨_, Try.func67, by kernel_rfl, by kernel_rfl⟩, hF, ?_⟩
  intro l J Jx W hbel _ _ hy h0
  have hbW : W.heap[b]? = some (.cells #[s.v] t_sl_string (0, 0)) := (hbel.block b (hF b (.inl rfl))).trans hb
  have hRW : Rows W 1 strE s xs := hR.kf (Fp := fun c => c = b ∨ s.blk = some c) (fun c hc => .inr hc) fun c hc => hbel.block c (hF c hc)
  refine callsIn_wide.2 ((vc_slices_Values_string_string_c1 (a0 := .func (.yield l) #[] #[]) (a1 := some ⟨b, 0, none⟩) (R := fun W' => (∃ ys, ys = xs ∧ J ys W') ∨ ∃ pre, (pre <+: xs ∧ pre ≠ []) ∧ Jx pre W') ?_).mono ?_)
  · unfold VC_slices_Values_string_string_c1
    have l1 := hRW.len
    refine ⟨b, 0, rfl, s, cell_blk hbW rfl, fun i W' => ∃ k : Nat, i = k ∧ k ≤ xs.length ∧ KF (fun c => c = b ∨ s.blk = some c) W W' ∧ J (xs.take k) W', fun i _ => (xs.length - i).toNat, ⟨0, rfl, by omega, fun _ _ => rfl, h0⟩, ?_⟩
    rintro _ W1 ⟨k, rfl, hk, hkf, hJ⟩
    refine ⟨fun hl => ?_, fun hl => ?_⟩
    · obtain ⟨g, o, u, hg, hu, hc⟩ := (hRW.kf (fun c hc => .inr hc) hkf).str (i := k) (by omega)
      have hlim := hRW.lim
      refine ⟨k, rfl, by omega, g, o, hg, u, hc, CallV.mono (.inl ⟨l, rfl, hy (xs.take k) u W1 hJ (by simp; omega)⟩) ?_⟩
      rintro e W2 (⟨rfl, hJ2, hk2⟩ | ⟨rfl, hX⟩)
      · exact ⟨true, rfl, fun _ => ⟨k + 1, (wr64 (by omega)).symm, ⟨k + 1, by simp, by omega, fun c hc => (hk2 c hc).trans (hkf c hc), by rw [tk hu]; exact hJ2⟩, by dsimp only; omega⟩, fun h => nomatch h⟩
      · refine ⟨false, rfl, fun h => (nomatch h), fun _ => .inr ⟨_, ⟨?_, by simp⟩, hX⟩⟩
        rw [← tk hu]; exact List.take_prefix _ _
    · rw [List.take_of_length_le (by omega)] at hJ
      exact .inl ⟨xs, rfl, hJ⟩
  · rintro e W' ⟨he, hr⟩
    exact ⟨⟨_, he⟩, hr⟩
theorem IterS.seq {lo : Nat} {v : Value} {xs : List BA} (h : IterS lo w v xs) : ∃ Fp : Nat → Prop, (∀ b, Fp b → lo ≤ b ∧ b < w.heap.size) ∧ SeqC PP v (fun x : BA => #[(fun (x : ByteArray) => Value.string x) x]) Fp (fun ys => ys = xs) (fun ys => ys <+: xs ∧ ys ≠ []) xs.length w := h.seq2 (Chg.refl _)
theorem k_Values {lo : Nat} {s : Sl} {xs : List BA} {R : Value → World → Prop} (hR : Rows w 1 strE s xs) (hlt : ∀ c, s.blk = some c → lo ≤ c ∧ c < w.heap.size) (hlo : lo ≤ w.heap.size) (h : ∀ v w', Ext w w' → IterS lo w' v xs → R v w') :
    Calls PP n_slices_Values_string_string #[s.v] w fun e w' => ∃ r : Value, e = .returned r ∧ R r w' := by
  refine vc_slices_Values_string_string ?_
  unfold VC_slices_Values_string_string
  intro b w1 hN
  exact h _ w1 hN.ext ⟨b, s, rfl, hN.here, hR.ext hN.ext, fun c hc => ⟨(hlt c hc).1, Nat.lt_of_lt_of_le (hlt c hc).2 hN.ext.size⟩, Nat.le_trans hlo hN.fresh⟩
theorem k_vocab_Texts {b : Nat} {ms : List Mg} {R : Value → World → Prop} (hV : Voc w b ms) (hms : ms.length ≤ 1048576) (hsz : ∀ m ∈ ms, m.tx.size ≤ 65536)
    (h : ∀ v w' L, Ext w w' → IterS w.heap.size w' v L → Srt L → (∀ t, t ∈ L ↔ t ∈ ones ++ ms.map Mg.tx) → R v w') :
    Calls PP n_vocab_Vocab_Texts #[.pointer (some ⟨b, 0, none⟩)] w fun e w' => ∃ r : Value, e = .returned r ∧ R r w' := by
  refine vc_vocab_Vocab_Texts ?_
  unfold VC_vocab_Vocab_Texts
  obtain ⟨w0, d, u, es, us, hS, hd, hk, hu⟩ := hV
  have hel : es.length = 256 + ms.length := by have := congrArg List.length hk; simpa [ones] using this
  have hmax : maxLen = 9223372036854775807 := rfl
  refine ⟨fun h => (nomatch h), fun _ => ⟨b, 0, rfl, some d, cell_blk hS.blk rfl, k_maps_Keys (k_Sorted hS.dm (fun p hp => ?_) (by omega) fun s w1 L x1 ho hf hsrt hmem _ => k_Values (ho.rows strE_len (by decide)) (fun c hc => ⟨hf c hc, ho.lt hc⟩) x1.size fun v w2 x2 hI => h v w2 L (x1.tr x2) hI hsrt fun t => by rw [hmem, hk])⟩⟩
  have hm : p.1 ∈ ones ++ ms.map Mg.tx := by rw [← hk]; exact List.mem_map.2 ⟨p, hp, rfl⟩
  rcases List.mem_append.1 hm with hm | hm
  · unfold ones at hm
    obtain ⟨i, _, e⟩ := List.mem_map.1 hm
    rw [← e, one_size]; omega
  · obtain ⟨m, hm, e⟩ := List.mem_map.1 hm
    have := hsz m hm
    rw [← e]; omega
end
end Go.Proofs.Ytchjcjocihckpaa.G
