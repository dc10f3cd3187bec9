/- The laws on coders, walked. -/
import Derived.Test.YtchjcjocihckpaaHyC
namespace Go.Proofs.Ytchjcjocihckpaa.G
open Go Go.RowKit
def msB : List Mg := [(⟨#[97]⟩, ⟨#[98]⟩), (⟨#[97, 98]⟩, ⟨#[97, 98]⟩)]
/-- The symbols of a word are the document's numbers. -/
theorem Cod.enc {ms : List Mg} {js : List Jd} (h : Cod ms js) {l : List Int} {t : BA} (hv : Val js l) (e : txs js l = splitT ms t) : l = (splitT ms t).map (symM ms) := by rw [← e, h.bys hv]
theorem great_not {ms : List Mg} {n : Int} (h : great ms n = false) : (∀ m ∈ ms, m.1.size ≤ 300 ∧ m.2.size ≤ 300) ∧ (ms.length : Int) ≤ n := by
  unfold great at h
  rw [Bool.or_eq_false_iff, List.any_eq_false] at h
  obtain ⟨h1, h2⟩ := h
  refine ⟨fun m hm => ?_, ?_⟩
  · have := h1 m hm; simp at this; omega
  · have := of_decide_eq_false h2; omega
section
variable {w w1 : World}
theorem k_law20_awake {R : Bool → World → Prop} (h : ∀ w', Ext w w' → R true w') : Calls PP n_law20_awake #[] w fun e w' => ∃ r : Bool, e = .returned (.bool r) ∧ R r w' := by
  refine vc_law20_awake ?_
  unfold VC_law20_awake
  intro b w2 nb
  have hx : Rows w2 2 mgE ⟨some ⟨b, 0, none⟩, 2, 2⟩ msB := Rows.lit nb.here mgE_len
  have hc0 : (check msB).2 = 0 := by decide +kernel
  refine k_apply_New (s := ⟨some ⟨b, 0, none⟩, 2, 2⟩) (ms := msB) hx (by decide) (fun hne => absurd hc0 hne) fun _ v js w3 x3 _ hC => ⟨fun _ => ?_, fun h => absurd rfl h⟩
  refine k_apply_Encode hC (by decide) (by decide) fun r w4 l x4 ho hv ht _ _ => ?_
  have e1 : l = [257] := (hC.cod.enc hv ht).trans (by decide +kernel)
  intro b15 w5 nb5
  refine k_ref01_Ints (s := r) (t := ⟨some ⟨b15, 0, none⟩, 1, 1⟩) (ys := [257]) ((ho.ext nb5.ext).rows intE_len (by decide)) (Rows.lit nb5.here intE_len) fun w6 x6 => ⟨fun _ => ?_, fun hf => absurd e1 (of_decide_eq_false hf)⟩
  refine k_apply_Encode (hC.ext ((x4.tr nb5.ext).tr x6)) (by decide) (by decide) fun r' w7 l' x7 ho' hv' ht' _ _ => ?_
  have e2 : l' = [256, 97] := (hC.cod.enc hv' ht').trans (by decide +kernel)
  intro b29 w8 nb8
  refine k_ref01_Ints (s := r') (t := ⟨some ⟨b29, 0, none⟩, 2, 2⟩) (ys := [256, 97]) ((ho'.ext nb8.ext).rows intE_len (by decide)) (Rows.lit nb8.here intE_len) fun w9 x9 => ?_
  rw [decide_eq_true e2]
  exact h w9 (((((((nb.ext.tr x3).tr x4).tr nb5.ext).tr x6).tr x7).tr nb8.ext).tr x9)
theorem k_law20_ApplyCodes {s p q : Sl} {ms : List Mg} {t : BA} {ids : List Int} {ds : List Wd} {R : Bool → World → Prop} (hx : Rows w 2 mgE s ms) (hp : Rows w 1 intE p ids) (hi : ∀ x ∈ ids, I64 x) (hq : Rows w 2 wdE q ds) (hd : ∀ d ∈ ds, I64 d.2) (h : ∀ w', Ext w w' → R true w') :
    Calls PP n_law20_ApplyCodes #[s.v, .string t, p.v, q.v] w fun e w' => ∃ r : Bool, e = .returned (.bool r) ∧ R r w' := by
  refine vc_law20_ApplyCodes ?_
  unfold VC_law20_ApplyCodes
  have l1 := hx.len
  have l2 := hp.len
  have l3 := hq.len
  refine k_law20_awake fun w2 x2 => ⟨fun _ => ?_, fun h => (nomatch h)⟩
  refine k_ref18_Great (hx.ext x2) fun w8 x8 => ⟨fun _ => h w8 (x2.tr x8), fun hgr => ⟨fun _ => h w8 (x2.tr x8), fun ht => ⟨fun _ => h w8 (x2.tr x8), fun hpl => ?_⟩⟩⟩
  have X8 := x2.tr x8
  obtain ⟨hsz, hlen⟩ := great_not hgr
  have hm : Sm ms := fun m hm => by have := hsz m hm; omega
  refine k_ref07_Great (hq.ext X8) ⟨fun _ => h w8 X8, fun h => (nomatch h)⟩ fun hdz hdl => ⟨fun h => (nomatch h), fun _ => ?_⟩
  refine k_apply_New (hx.ext X8) (by omega) (fun hne w22 x22 => ?_) fun hc0 b js w22 x22 _ hC => ?_
  · refine k_ref18_Check ((hx.ext X8).ext x22) hm fun w27 x27 => ⟨fun hn => absurd rfl hn, fun _ => ⟨fun hd => absurd ?_ hd, fun _ => ⟨fun _ => h w27 ((X8.tr x22).tr x27), fun hn => absurd (fun e => hne (by omega)) hn⟩⟩⟩
    rw [decide_eq_true (p := (none : Option Addr) = none) rfl, decide_eq_true (p := ((check ms).2 : Int) ≠ 0) (by omega)]
  · refine k_ref18_Check ((hx.ext X8).ext x22) hm fun w27 x27 => ?_
    rw [hc0]
    refine ⟨fun hn => absurd rfl hn, fun _ => ⟨fun hd => absurd ?_ hd, fun _ => ⟨fun hn => absurd rfl hn, fun _ => ⟨fun hn => (nomatch hn), fun _ => ?_⟩⟩⟩⟩
    · rw [decide_eq_false (p := some (⟨b, 0, none⟩ : Addr) = none) (by simp), decide_eq_false (p := ((0 : Nat) : Int) ≠ 0) (by simp)]
    have X27 := (X8.tr x22).tr x27
    have hC27 := hC.ext x27
    have hflat : (flatB (txs js ids)).size ≤ 1099511627776 := by
      have := flatB_size (n := 600) (txs js ids) fun u hu => by
        unfold txs at hu
        obtain ⟨x, hx', rfl⟩ := List.mem_map.1 hu
        rw [hC.cod.txOf_eq]
        split
        · exact Nat.zero_le _
        · split
          · exact (show (one _).size ≤ 600 from by rw [one_size]; decide)
          · cases e : ms[x.toNat - 256]? with
            | none => exact Nat.zero_le _
            | some m =>
              have h1 := hsz m (gm e)
              have h2 : m.tx.size = m.1.size + m.2.size := ba_append_size m.1 m.2
              show m.tx.size ≤ _; omega
      have hl : (txs js ids).length = ids.length := by simp [txs]
      rw [hl] at this; omega
    refine k_apply_DecodeF hC27 (hp.ext X27) hflat (by omega) fun w36 x36 => ?_
    refine k_ref20_DecodeF hC.cod (hx.ext (X27.tr x36)) (hp.ext (X27.tr x36)) hi hflat (by omega) fun w41 x41 => ?_
    have X := (X27.tr x36).tr x41
    replace hC := (hC27.ext x36).ext x41
    refine k_apply_Count hC (hq.ext X) hd hdz (by omega) (by omega) fun w46 x46 => ?_
    have X46 := X.tr x46
    refine k_ref20_Count (hx.ext X46) hm (hq.ext X46) hd hdz (by omega) (by omega) fun w51 x51 => ?_
    have X51 := X46.tr x51
    have hC51 := (hC.ext x46).ext x51
    refine k_apply_Split hC51 (by omega) (by omega) fun r59 w56 x56 ho _ => ?_
    refine k_ref20_Split (hx.ext (X51.tr x56)) hm (by omega) (by omega) fun r64 w61 x61 ho' _ => ?_
    refine k_ref01_Texts ((ho.ext x61).rows strE_len (by decide)) (ho'.rows strE_len (by decide)) fun w66 x66 => ⟨fun _ => ?_, fun hf => absurd rfl (of_decide_eq_false hf)⟩
    have X66 := ((X51.tr x56).tr x61).tr x66
    have hC66 := ((hC51.ext x56).ext x61).ext x66
    refine k_apply_Encode hC66 (by omega) (by omega) fun r75 w72 l x72 ho hv hts _ _ => ?_
    refine k_ref20_Encode (hx.ext (X66.tr x72)) hm (by omega) (by omega) fun r80 w77 x77 ho' _ => ?_
    refine k_ref01_Ints ((ho.ext x77).rows intE_len (by decide)) (ho'.rows intE_len (by decide)) fun w82 x82 => ⟨fun _ => ?_, fun hf => absurd (hC.cod.enc hv hts) (of_decide_eq_false hf)⟩
    refine ⟨fun _ => ⟨fun _ => ⟨fun _ => ⟨fun _ => ?_, fun h => absurd rfl h⟩, fun h => absurd rfl h⟩, fun h => absurd rfl h⟩, fun h => absurd rfl h⟩
    refine k_apply_Size (((hC66.ext x72).ext x77).ext x82) (by omega) ⟨_, rfl, ?_⟩
    rw [decide_eq_true]
    · exact h w82 (((X66.tr x72).tr x77).tr x82)
    · rw [wr64 (by omega), l1]; omega
theorem k_law20_ApplyBack {s : Sl} {ms : List Mg} {t : BA} {R : Bool → World → Prop} (hx : Rows w 2 mgE s ms) (h : ∀ w', Ext w w' → R true w') :
    Calls PP n_law20_ApplyBack #[s.v, .string t] w fun e w' => ∃ r : Bool, e = .returned (.bool r) ∧ R r w' := by
  refine vc_law20_ApplyBack ?_
  unfold VC_law20_ApplyBack
  have l1 := hx.len
  refine k_law20_awake fun w2 x2 => ⟨fun _ => ?_, fun h => (nomatch h)⟩
  refine k_ref18_Great (hx.ext x2) fun w8 x8 => ⟨fun _ => h w8 (x2.tr x8), fun hgr => ⟨fun _ => h w8 (x2.tr x8), fun ht => ?_⟩⟩
  have X8 := x2.tr x8
  obtain ⟨hsz, hlen⟩ := great_not hgr
  refine k_apply_Decode_none (s := ⟨none, 0, 0⟩) ?_
  refine k_apply_Count_none (s := ⟨none, 0, 0⟩) ?_
  refine k_apply_Split_none ⟨fun hn => absurd rfl hn, fun _ => ?_⟩
  refine k_apply_Encode_none ⟨fun hn => absurd rfl hn, fun _ => ⟨fun hn => absurd rfl hn, fun _ => ⟨fun hn => (nomatch hn), fun _ => ?_⟩⟩⟩
  refine k_apply_Size_none ⟨fun hn => absurd rfl hn, fun _ => ⟨fun hn => absurd rfl hn, fun _ => ⟨fun hn => (nomatch hn), fun _ => ?_⟩⟩⟩
  refine k_apply_New (hx.ext X8) (by omega) (fun hne w22 x22 => ?_) fun hc0 b js w22 x22 _ hC => ?_
  · refine ⟨fun j W => j = true ∧ W = w22, ?_, fun _ => ⟨rfl, rfl⟩, fun hn => absurd (fun e => hne (by omega)) hn⟩
    rintro j W ⟨rfl, rfl⟩
    exact ⟨fun _ => ⟨fun _ => by rw [decide_eq_true rfl]; exact h W (X8.tr x22), fun hn => absurd (fun e => hne (by omega)) hn⟩, fun hn => (nomatch hn)⟩
  · refine ⟨fun j W => j = false ∧ W = w22, ?_, fun hn => absurd rfl hn, fun _ => ⟨by simp, rfl⟩⟩
    rintro j W ⟨rfl, rfl⟩
    refine ⟨fun hn => (nomatch hn), fun _ => ?_⟩
    refine k_apply_Encode hC (by omega) (by omega) fun r w61 l x61 ho hv hts hll _ => ?_
    have hfl : flatB (txs js l) = t := by rw [hts, flatB_split]
    have hrn := ho.len intE_len (by decide)
    refine k_apply_Decode (hC.ext x61) (ho.rows intE_len (by decide)) (by rw [hfl]; omega) (by omega) (fun _ w66 x66 => ?_) fun hn => absurd hv hn
    rw [hfl]
    refine ⟨fun _ => ⟨fun _ => ?_, fun hn => absurd rfl hn⟩, fun hn => (nomatch hn)⟩
    rw [decide_eq_true (by omega)]
    exact h w66 (((X8.tr x22).tr x61).tr x66)
end
end Go.Proofs.Ytchjcjocihckpaa.G
