/- Contracts: words out of symbols. -/
import Derived.Test.YtchjcjocihckpaaHtC
import Derived.Test.YtchjcjocihckpaaHuC
import Derived.Test.YtchjcjocihckpaaHvC
import Derived.Test.YtchjcjocihckpaaPmC
import Derived.Test.YtchjcjocihckpaaGbC
namespace Go.Proofs.Ytchjcjocihckpaa.G
open Go Go.RowKit
section
variable {w w1 : World} {b : Nat} {js : List Jd} {ms : List Mg}
theorem k_ref07_Great {s : Sl} {ds : List Wd} {n : Int} {R : Bool → World → Prop} (hx : Rows w 2 wdE s ds) (h1 : R true w) (h0 : (∀ d ∈ ds, d.1.size ≤ 100) → (ds.length : Int) ≤ n → R false w) :
    Calls PP n_ref07_Great #[s.v, .int .i64 n] w fun e w' => ∃ r : Bool, e = .returned (.bool r) ∧ R r w' := by
  refine vc_ref07_Great ?_
  unfold VC_ref07_Great
  have l1 := hx.len
  have l3 := hx.lim
  have hmax : maxLen = 9223372036854775807 := rfl
  refine ⟨fun i W => ∃ k : Nat, i = k ∧ k ≤ ds.length ∧ W = w ∧ ∀ d ∈ ds.take k, d.1.size ≤ 100, fun i _ => (ds.length - i).toNat, ⟨0, rfl, by omega, rfl, by simp⟩, ?_⟩
  rintro _ W ⟨k, rfl, hk, rfl, hs⟩
  refine ⟨fun hl => ?_, fun hl => ?_⟩
  · obtain ⟨g, o, q, hg, hq, hc1, hc2⟩ := hx.wd (i := k) (by omega)
    refine ⟨k, rfl, by omega, g, o, hg, q.1, hc1, fun _ => h1, fun hn => ⟨_, rfl, ⟨k + 1, by rw [wr64 (by omega)]; simp, by omega, rfl, fun d hd => ?_⟩, by rw [wr64 (by omega)]; dsimp only; omega⟩⟩
    rw [tk hq] at hd
    rcases List.mem_append.1 hd with hd | hd
    · exact hs d hd
    · rw [List.mem_singleton] at hd; subst hd; omega
  · rw [List.take_of_length_le (by omega)] at hs
    by_cases e : n < ((s.n : Nat) : Int)
    · rw [decide_eq_true e]; exact h1
    · rw [decide_eq_false e]; exact h0 hs (by omega)
theorem toL_app (a c : BA) : (a ++ c).data.toList = a.data.toList ++ c.data.toList := by rw [ByteArray.data_append, Array.toList_append]
theorem val_no {js : List Jd} {l : List Int} {k : Nat} {x : Int} (hx : l[k]? = some x) (h : (txOf js x).isSome = false) : ¬ Val js l := fun hv => by
  have := hv x (gm hx); rw [h] at this; cases this
theorem k_apply_Decode_none {s : Sl} {R : BA → Bool → World → Prop} (h : R ⟨#[]⟩ false w) :
    Calls PP n_apply_Coder_Decode #[.pointer none, s.v] w fun e w' => ∃ (r : BA) (q : Bool), e = .returned (.tuple #[.string r, .bool q]) ∧ R r q w' := by
  refine vc_apply_Coder_Decode ?_
  unfold VC_apply_Coder_Decode
  exact ⟨fun _ => h, fun h => absurd rfl h⟩
theorem k_apply_Decode {s : Sl} {ids : List Int} {R : BA → Bool → World → Prop} (hC : Cdr w b ms js) (hx : Rows w 1 intE s ids) (hz : (flatB (txs js ids)).size ≤ 1099511627776) (hms : ms.length ≤ 1099511627776)
    (h1 : Val js ids → ∀ w', Ext w w' → R (flatB (txs js ids)) true w') (h0 : ¬ Val js ids → ∀ w', Ext w w' → R ⟨#[]⟩ false w') :
    Calls PP n_apply_Coder_Decode #[.pointer (some ⟨b, 0, none⟩), s.v] w fun e w' => ∃ (r : BA) (q : Bool), e = .returned (.tuple #[.string r, .bool q]) ∧ R r q w' := by
  refine vc_apply_Coder_Decode ?_
  unfold VC_apply_Coder_Decode
  refine ⟨fun h => (nomatch h), fun _ => fun sb w3 nb => ?_⟩
  have l1 := hx.len
  have l3 := hx.lim
  have hmax : maxLen = 9223372036854775807 := rfl
  have hjl := hC.cod.len
  refine ⟨fun i W => ∃ (k : Nat) (q : Sl), i = k ∧ k ≤ ids.length ∧ Ext w W ∧ SbD W sb q (flatB (txs js (ids.take k))).data.toList ∧ (∀ c, q.blk = some c → w.heap.size ≤ c) ∧ Val js (ids.take k), fun i _ => (ids.length - i).toNat,
    ⟨0, _, rfl, by omega, nb.ext, SbD.new nb, fun c hc => (nomatch hc), fun x hx => (nomatch hx)⟩, ?_⟩
  rintro _ W ⟨k, q, rfl, hk, X, hS, hq, hv⟩
  refine ⟨fun hl => ?_, fun hl => ?_⟩
  · obtain ⟨g, o, u, hg, hu, hc⟩ := (hx.ext X).int (i := k) (by omega)
    obtain ⟨tb, S, m, es, hD, -⟩ := hC.ext X
    refine ⟨k, rfl, by omega, g, o, hg, u, hc, b, 0, rfl, _, cell_blk hD.blk rfl, k_sym_Text hD.tab (by omega) fun w2 x2 => ⟨fun ht => ?_, fun hf => h0 (val_no hu hf) w2 (X.tr x2)⟩⟩
    have hb := flatB_at (L := txs js ids) (k := k) (u := (txOf js u).getD ⟨#[]⟩) (by unfold txs; rw [List.getElem?_map, hu]; rfl)
    rw [← txs_take] at hb
    refine k_WriteString (hS.ext x2) (by rw [ba_len]; omega) fun r v w' s' c' hS' hn => ⟨_, rfl, ⟨k + 1, s', by rw [wr64 (by omega)]; simp, by omega, ?_, ?_, fun c hc => ?_, ?_⟩, by rw [wr64 (by omega)]; dsimp only; omega⟩
    · refine Chg.of_new (X.tr x2) c' fun c hc => ?_
      rcases hc with rfl | hc
      · exact nb.fresh
      · exact hq c hc
    · rw [tk hu, txs_snoc, flatB_snoc, toL_app]; exact hS'
    · rcases hn with h | ⟨c2, h, h2⟩
      · exact hq c (h ▸ hc)
      · rw [h] at hc; cases hc; exact Nat.le_trans (X.tr x2).size h2
    · rw [tk hu]; exact hv.snoc ht
  · rw [List.take_of_length_le (by omega)] at hS hv
    exact k_String hS nb.fresh hq fun w' hb => h1 hv w' (X.of_low hb)
theorem k_ref20_Decode {s p : Sl} {ids : List Int} {R : BA → Bool → World → Prop} (hC : Cod ms js) (hp : Rows w 2 mgE p ms) (hx : Rows w 1 intE s ids) (hi : ∀ x ∈ ids, I64 x) (hz : (flatB (txs js ids)).size ≤ 1099511627776) (hms : ms.length ≤ 1099511627776)
    (h1 : Val js ids → ∀ w', Ext w w' → R (flatB (txs js ids)) true w') (h0 : ¬ Val js ids → ∀ w', Ext w w' → R ⟨#[]⟩ false w') :
    Calls PP n_ref20_Decode #[p.v, s.v] w fun e w' => ∃ (r : BA) (q : Bool), e = .returned (.tuple #[.string r, .bool q]) ∧ R r q w' := by
  refine vc_ref20_Decode ?_
  unfold VC_ref20_Decode
  have l1 := hx.len
  have l2 := hp.len
  have l3 := hx.lim
  have hmax : maxLen = 9223372036854775807 := rfl
  refine ⟨fun t i W => ∃ k : Nat, i = k ∧ k ≤ ids.length ∧ Ext w W ∧ t = flatB (txs js (ids.take k)) ∧ Val js (ids.take k), fun _ i _ => (ids.length - i).toNat,
    ⟨0, rfl, by omega, Chg.refl w, rfl, fun x hx => (nomatch hx)⟩, ?_⟩
  rintro _ _ W ⟨k, rfl, hk, X, rfl, hv⟩
  refine ⟨fun hl => ?_, fun hl => ?_⟩
  · obtain ⟨g, o, u, hg, hu, hc⟩ := (hx.ext X).int (i := k) (by omega)
    have hu64 := hi u (gm hu)
    have hte := hC.txOf_eq u
    have hb := flatB_at (L := txs js ids) (k := k) (u := (txOf js u).getD ⟨#[]⟩) (by unfold txs; rw [List.getElem?_map, hu]; rfl)
    rw [← txs_take] at hb
    have step : (txOf js u).isSome → ∀ {w2 : World} {t : BA}, Ext W w2 → t = (txOf js u).getD ⟨#[]⟩ → ∃ k' : Nat, IntKind.wrap .i64 (((k : Nat) : Int) + 1) = k' ∧ k' ≤ ids.length ∧ Ext w w2 ∧ flatB (txs js (ids.take k)) ++ t = flatB (txs js (ids.take k')) ∧ Val js (ids.take k') := by
      rintro hs w2 t x2 rfl
      exact ⟨k + 1, by rw [wr64 (by omega)]; simp, by omega, X.tr x2, by rw [tk hu, txs_snoc, flatB_snoc], by rw [tk hu]; exact hv.snoc hs⟩
    refine ⟨fun j W' => W' = W ∧ (j = true ↔ (txOf js u).isSome = false), ?_, k, rfl, by omega, g, o, hg, u, hc, fun hn => ⟨rfl, ?_⟩, fun hn => ⟨_, rfl, rfl, ?_⟩⟩
    · rintro j W' ⟨rfl, hj⟩
      refine ⟨fun h => h0 (val_no hu (hj.1 h)) W' X, fun h => ?_⟩
      have hs : (txOf js u).isSome := by
        cases e : (txOf js u).isSome with
        | true => rfl
        | false => rw [hj.2 e] at h; cases h
      have h00 : ¬ u < 0 := fun h => by rw [hte, if_pos h] at hs; cases hs
      refine ⟨k, rfl, by omega, g, o, hg, u, hc, fun h2 => ?_, fun h2 => ?_⟩
      · rw [if_neg h00, if_pos h2] at hte
        have e8 : IntKind.wrap .u8 u = u := wr8 (by omega)
        have hn : ((UInt8.ofNat u.toNat).toNat : Int) = u := by rw [UInt8.toNat_ofNat', Nat.mod_eq_of_lt (by omega)]; omega
        rw [hte, Option.getD_some, one_size] at hb
        refine ⟨_, rfl, UInt8.ofNat u.toNat, by rw [e8, hn], ?_, _, rfl, fun w2 x2 => ⟨step hs x2 (by rw [hte]; rfl), by rw [wr64 (by omega)]; dsimp only; omega⟩⟩
        show _ + 1 ≤ _; omega
      · rw [if_neg h00, if_neg h2] at hte
        have ⟨q, hq⟩ : ∃ q, ms[u.toNat - 256]? = some q := by
          cases e : ms[u.toNat - 256]? with
          | none => rw [hte, e] at hs; cases hs
          | some q => exact ⟨q, rfl⟩
        rw [hq] at hte
        have hql := gl hq
        obtain ⟨g', o', q', hg', hq', hd1, hd2⟩ := (hp.ext X).mg (i := u.toNat - 256) (by omega)
        rw [hq] at hq'; cases hq'
        rw [hte, Option.map_some, Option.getD_some] at hb
        have hqt : q.tx.size = q.1.size + q.2.size := ba_append_size q.1 q.2
        refine ⟨_, rfl, u.toNat - 256, by rw [wr64 (by omega)]; omega, by omega, g', o', hg', q.1, hd1, by omega, _, rfl, u.toNat - 256, by rw [wr64 (by omega)]; omega, by omega, q.2, hd2, ?_, _, rfl, fun w2 x2 => ?_⟩
        · rw [ba_append_size]; omega
        · rw [ByteArray.append_assoc]
          exact ⟨step hs x2 (by rw [hte]; rfl), by rw [wr64 (by omega)]; dsimp only; omega⟩
    · rw [hte, if_pos hn]; simp
    · rw [wr64 (by omega), decide_eq_true_eq, hte, if_neg hn]
      by_cases h2 : u < 256
      · rw [if_pos h2]; simp; omega
      · rw [if_neg h2, Option.isSome_map]
        cases e : ms[u.toNat - 256]? with
        | none => rw [List.getElem?_eq_none_iff] at e; simp; omega
        | some q => have := gl e; simp; omega
  · rw [List.take_of_length_le (by omega)] at hv ⊢
    exact h1 hv W X
/-- What some symbols spell, or nothing. -/
def decF (js : List Jd) (ids : List Int) : BA × Bool := if (ids.all fun x => (txOf js x).isSome) then (flatB (txs js ids), true) else (⟨#[]⟩, false)
theorem decF_ok {js : List Jd} {ids : List Int} (h : Val js ids) : decF js ids = (flatB (txs js ids), true) := if_pos (List.all_eq_true.2 h)
theorem decF_no {js : List Jd} {ids : List Int} (h : ¬ Val js ids) : decF js ids = (⟨#[]⟩, false) := if_neg fun e => h (List.all_eq_true.1 e)
theorem k_apply_DecodeF {s : Sl} {ids : List Int} {R : BA → Bool → World → Prop} (hC : Cdr w b ms js) (hx : Rows w 1 intE s ids) (hz : (flatB (txs js ids)).size ≤ 1099511627776) (hms : ms.length ≤ 1099511627776)
    (h : ∀ w', Ext w w' → R (decF js ids).1 (decF js ids).2 w') :
    Calls PP n_apply_Coder_Decode #[.pointer (some ⟨b, 0, none⟩), s.v] w fun e w' => ∃ (r : BA) (q : Bool), e = .returned (.tuple #[.string r, .bool q]) ∧ R r q w' :=
  k_apply_Decode hC hx hz hms (fun hv w' x => by have := h w' x; rwa [decF_ok hv] at this) fun hv w' x => by have := h w' x; rwa [decF_no hv] at this
theorem k_ref20_DecodeF {s p : Sl} {ids : List Int} {R : BA → Bool → World → Prop} (hC : Cod ms js) (hp : Rows w 2 mgE p ms) (hx : Rows w 1 intE s ids) (hi : ∀ x ∈ ids, I64 x) (hz : (flatB (txs js ids)).size ≤ 1099511627776) (hms : ms.length ≤ 1099511627776)
    (h : ∀ w', Ext w w' → R (decF js ids).1 (decF js ids).2 w') :
    Calls PP n_ref20_Decode #[p.v, s.v] w fun e w' => ∃ (r : BA) (q : Bool), e = .returned (.tuple #[.string r, .bool q]) ∧ R r q w' :=
  k_ref20_Decode hC hp hx hi hz hms (fun hv w' x => by have := h w' x; rwa [decF_ok hv] at this) fun hv w' x => by have := h w' x; rwa [decF_no hv] at this
end
end Go.Proofs.Ytchjcjocihckpaa.G
