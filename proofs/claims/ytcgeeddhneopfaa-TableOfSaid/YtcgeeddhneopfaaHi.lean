/- Contracts: the counter of words; its table, by the document's answer too; whether a table is right. -/
import Derived.Test.YtcgeeddhneopfaaHh
namespace Go.Proofs.Ytcgeeddhneopfaa.G
open Go Go.RowKit
/-- A counter in memory: its block, its own blocks, the words counted. -/
structure CtrD (w : World) (b : Nat) (S : Nat → Prop) (ws : List BA) (m : Option Nat) (es : List (BA × Int)) : Prop where
  blk : w.heap[b]? = some (.cells #[.map m] t_freq_Counter (0, 0))
  map : Mp strV intV w m es
  mem : ∀ t, t ∈ es.map (·.1) ↔ t ∈ ws
  get : ∀ t, (mget t es).getD 0 = (cnt ws t : Int)
  own : S b
  ownm : ∀ c, m = some c → S c ∧ c ≠ b
  lt : ∀ c, S c → c < w.heap.size
def Ctr (w : World) (b : Nat) (S : Nat → Prop) (ws : List BA) : Prop := ∃ m es, CtrD w b S ws m es
theorem mput_mem {α β : Type} [DecidableEq α] {a t : α} {c : β} : ∀ {l : List (α × β)}, t ∈ (mput a c l).map (·.1) ↔ t ∈ l.map (·.1) ∨ t = a
  | [] => by simp [mput]
  | p :: l => by
    rw [mput]
    by_cases h : p.1 = a
    · rw [if_pos h]; simp only [List.map_cons, List.mem_cons, h]
      constructor
      · rintro (h | h); exact .inr h; exact .inl (.inr h)
      · rintro ((h | h) | h); exact .inl h; exact .inr h; exact .inl h
    · rw [if_neg h]; simp only [List.map_cons, List.mem_cons, mput_mem (l := l)]
      constructor
      · rintro (h | h | h); exact .inl (.inl h); exact .inl (.inr h); exact .inr h
      · rintro ((h | h) | h); exact .inl h; exact .inr (.inl h); exact .inr (.inr h)
theorem sub_len {α : Type} [DecidableEq α] : ∀ {l m : List α}, l.Nodup → (∀ x ∈ l, x ∈ m) → l.length ≤ m.length
  | [], _, _, _ => Nat.zero_le _
  | a :: l, m, hn, hs => by
    rw [List.nodup_cons] at hn
    have ha := hs a (by simp)
    have := sub_len (l := l) (m := m.erase a) hn.2 fun x hx => (List.mem_erase_of_ne (a := x) (b := a) (fun e => hn.1 (by rw [← e]; exact hx))).2 (hs x (List.mem_cons_of_mem _ hx))
    rw [List.length_erase_of_mem ha] at this
    have := List.length_pos_of_mem ha
    rw [List.length_cons]; omega
section
variable {w w1 : World} {b : Nat} {S S' : Nat → Prop} {ws : List BA}
theorem Ctr.chg (h : Ctr w b S ws) (x : Chg S' w w1) (hn : ∀ c, S c → ¬ S' c) : Ctr w1 b S ws := by
  obtain ⟨m, es, h⟩ := h
  exact ⟨m, es, { h with blk := x.get h.blk (hn b h.own), map := h.map.chg x fun c hc => hn c (h.ownm c hc).1, lt := fun c hc => Nat.lt_of_lt_of_le (h.lt c hc) x.size }⟩
theorem Ctr.ext (h : Ctr w b S ws) (x : Ext w w1) : Ctr w1 b S ws := h.chg x fun _ _ h => h
theorem k_freq_New {R : Option Addr → World → Prop} (h : ∀ b w', Ext w w' → w.heap.size ≤ b → Ctr w' b (fun c => c = b) [] → R (some ⟨b, 0, none⟩) w') :
    Calls PP n_freq_New #[] w fun e w' => ∃ r : Option Addr, e = .returned (.pointer r) ∧ R r w' := by
  refine vc_freq_New ?_
  unfold VC_freq_New
  intro b w1 hN
  refine h b w1 hN.ext hN.fresh ⟨none, [], ?_⟩
  exact { blk := hN.here, map := Mp.nil, mem := by simp, get := fun t => rfl, own := rfl, ownm := fun c hc => (nomatch hc), lt := fun c hc => by subst hc; exact hN.lt }
theorem k_freq_Add {t : BA} {R : Int → World → Prop} (hT : Ctr w b S ws) (hl : ws.length ≤ 1099511627776) (h0 : t.size = 0 → R 1 w)
    (h : t.size ≠ 0 → ∀ w' S', Chg S w w' → (∀ c, S' c → S c ∨ w.heap.size ≤ c) → Ctr w' b S' (ws ++ [t]) → R 0 w') :
    Calls PP n_freq_Counter_Add #[.pointer (some ⟨b, 0, none⟩), .string t, .int .i64 1] w fun e w' => ∃ r : Int, e = .returned (.int .i64 r) ∧ R r w' := by
  refine vc_freq_Counter_Add ?_
  unfold VC_freq_Counter_Add
  obtain ⟨m, es, hD⟩ := hT
  have hc := cnt_le ws t
  refine ⟨fun h => (nomatch h), fun _ => ⟨fun h1 => h0 (by rw [h1]; rfl), fun h1 => ⟨fun h2 => by omega, fun _ => ⟨b, 0, rfl, m, cell_blk hD.blk rfl, es, hD.map, _, rfl, ?_⟩⟩⟩⟩
  have h := h (size_ne.1 h1)
  rw [hD.get]
  refine k_checked_Add ⟨by omega, by omega⟩ ⟨by omega, by omega⟩ ?_
  rw [addS_ok (by omega)]
  refine ⟨fun _ => ⟨fun w5 => ∃ S2 m es, CtrD w5 b S2 ws (some m) es ∧ (∀ c, S2 c → S c ∨ w.heap.size ≤ c) ∧ Chg S w w5, ?_, m, cell_blk hD.blk rfl, fun hm => ?_, fun hm => ?_⟩, fun h => (nomatch h)⟩
  · rintro w5 ⟨S2, m, es, hD, hS2, x5⟩
    refine ⟨some m, cell_blk hD.blk rfl, m, rfl, es, hD.map, fun w6 hM x6 => ?_⟩
    have hmb := hD.ownm m rfl
    refine h w6 S2 ?_ hS2 ⟨some m, mput t ((cnt ws t : Int) + 1) es, ?_⟩
    · exact x5.trans x6 (fun _ _ h => h) fun c hc e => by
        subst e
        exact (hS2 c hmb.1).elim id fun h => by omega
    · exact { blk := x6.get hD.blk fun e => hmb.2 e.symm, map := hM, own := hD.own, ownm := hD.ownm, lt := fun c hc => Nat.lt_of_lt_of_le (hD.lt c hc) x6.size
              mem := fun y => by rw [mput_mem, hD.mem, List.mem_append, List.mem_singleton]
              get := fun y => by
                rw [mget_mput, cnt_snoc]
                by_cases e : t = y
                · subst e; rw [if_pos rfl, if_pos rfl]; simp
                · rw [if_neg e, if_neg e, hD.get]; simp }
  · intro c w5 hN
    have b5 := hN.ext.get hD.blk
    refine ⟨⟨_, _, b5, Nat.le_of_ble_eq_true rfl⟩, fun w6 e6 => ?_⟩
    have c6 := sto_chg e6
    have b6 : w6.heap[b]? = some (.cells #[.map (some c)] t_freq_Counter (0, 0)) := sto_blk e6 b5
    have hbl := hD.lt b hD.own
    have hcf := hN.fresh
    have hes : es = [] := by
      subst hm
      rcases hD.map with ⟨_, h⟩ | ⟨b', _, _, h, _⟩
      · exact h
      · cases h
    refine ⟨fun x => S x ∨ x = c, c, [], ?_, ?_, hN.ext.chg.trans c6 (fun _ _ h => h) fun x _ hx => (hx ▸ hD.own : S x)⟩
    · exact { blk := b6, map := (Mp.new hN).chg c6 fun x hx e => by cases hx; omega, mem := hes ▸ hD.mem, get := hes ▸ hD.get, own := .inl hD.own
              ownm := fun x hx => by
                cases hx
                exact ⟨.inr rfl, by omega⟩
              lt := fun x hx => by
                have := c6.size
                have := hN.ext.size
                have := hN.lt
                rcases hx with hx | hx
                · have := hD.lt x hx; omega
                · omega }
    · rintro x (hx | hx)
      · exact .inl hx
      · right; omega
  · cases m with
    | none => exact absurd rfl hm
    | some m => exact ⟨S, m, es, hD, fun c hc => .inl hc, Chg.refl w⟩
theorem k_freq_AddAll {w0 : World} {s : Sl} {ts : List BA} {R : Int → World → Prop} (hx : Rows w0 1 strE s ts) (x0 : Ext w0 w) (hS0 : ∀ c, S c → w0.heap.size ≤ c) (hT : Ctr w b S []) (hl : ts.length ≤ 1099511627776)
    (h0 : (∃ t ∈ ts, t.size = 0) → ∀ w', Chg S w w' → R 1 w') (h : (∀ t ∈ ts, t.size ≠ 0) → ∀ w' S', Chg S w w' → (∀ c, S' c → S c ∨ w.heap.size ≤ c) → Ctr w' b S' ts → R 0 w') :
    Calls PP n_freq_Counter_AddAll #[.pointer (some ⟨b, 0, none⟩), s.v] w fun e w' => ∃ r : Int, e = .returned (.int .i64 r) ∧ R r w' := by
  refine vc_freq_Counter_AddAll ?_
  unfold VC_freq_Counter_AddAll
  have l1 := hx.len
  refine ⟨fun i w' => ∃ (k : Nat) (S' : Nat → Prop), i = k ∧ k ≤ ts.length ∧ Chg S w w' ∧ Ctr w' b S' (ts.take k) ∧ (∀ c, S' c → S c ∨ w.heap.size ≤ c) ∧ ∀ t ∈ ts.take k, t.size ≠ 0, fun i _ => (ts.length - i).toNat, ⟨0, S, rfl, by omega, Chg.refl w, hT, fun c hc => .inl hc, by simp⟩, ?_⟩
  rintro _ w1 ⟨k, S', rfl, hk, x1, hT, hS', hz⟩
  refine ⟨fun hlt => ?_, fun hlt => ?_⟩
  · obtain ⟨g, o, u, hg, hu, hc⟩ := (hx.ext (Chg.of_new x0 x1 hS0)).str (i := k) (by omega)
    refine ⟨k, rfl, by omega, g, o, hg, u, hc, k_freq_Add hT (by simp; omega) (fun h1 => ⟨fun _ => h0 ⟨u, gm hu, h1⟩ w1 x1, fun h => absurd (by decide) h⟩) fun hne w2 S2 x2 hS2 hT2 => ⟨fun h => absurd rfl h, fun _ => ⟨k + 1, (wr64 (by omega)).symm, ⟨k + 1, S2, by simp, by omega, ?_, ?_, ?_, ?_⟩, by dsimp only; omega⟩⟩⟩
    · exact x1.trans x2 (fun _ _ h => h) fun c hc h => (hS' c h).elim id fun h => by omega
    · rw [tk hu]; exact hT2
    · intro c hc
      rcases hS2 c hc with h | h
      · exact hS' c h
      · exact .inr (Nat.le_trans x1.size h)
    · rw [tk hu]
      intro t ht
      rcases List.mem_append.1 ht with ht | ht
      · exact hz t ht
      · rw [List.mem_singleton] at ht; subst ht; exact hne
  · rw [List.take_of_length_le (by omega)] at hT hz
    exact h hz w1 S' x1 hS' hT
theorem k_freq_Freeze {R : Sl → World → Prop} (hT : Ctr w b S ws) (hl : ws.length ≤ 1048576) (hsz : ∀ t ∈ ws, t.size ≤ maxLen)
    (h : ∀ r w' l, Ext w w' → OwnL w' t_api_Word 2 wdE r l → (∀ c, r.blk = some c → w.heap.size ≤ c) → Tb ws l → R r w') :
    Calls PP n_freq_Counter_Freeze #[.pointer (some ⟨b, 0, none⟩)] w fun e w' => ∃ r : Sl, e = .returned r.v ∧ R r w' := by
  refine vc_freq_Counter_Freeze ?_
  unfold VC_freq_Counter_Freeze
  obtain ⟨m, es, hD⟩ := hT
  have hel : es.length ≤ ws.length := by
    have h1 : (es.map (·.1)).Nodup := hD.map.nd
    have h2 : ∀ t ∈ es.map (·.1), t ∈ ws := fun t ht => (hD.mem t).1 ht
    have := sub_len h1 h2
    rwa [List.length_map] at this
  refine ⟨fun h => (nomatch h), fun _ => ⟨b, 0, rfl, m, cell_blk hD.blk rfl, k_maps_Keys (k_Sorted hD.map (fun p hp => hsz _ ((hD.mem _).1 (List.mem_map.2 ⟨p, hp, rfl⟩))) (by omega) fun s w1 L x1 ho hf hsrt hmem _ => ?_)⟩⟩
  have hxs := ho.rows strE_len (by decide)
  have l1 := hxs.len
  have hLlen : L.length ≤ es.length := by
    have h1 : L.Nodup := hsrt.imp fun h => bless_ne h
    have := sub_len h1 fun t ht => (hmem t).1 ht
    rwa [List.length_map] at this
  refine ⟨fun r i w' => ∃ k : Nat, i = k ∧ k ≤ L.length ∧ Ext w1 w' ∧ OwnL w' t_api_Word 2 wdE r ((L.take k).map fun t => (t, (cnt ws t : Int))) ∧ (∀ c, r.blk = some c → w1.heap.size ≤ c), fun _ i _ => (L.length - i).toNat,
    ⟨0, rfl, by omega, Chg.refl w1, OwnL.nil, fun c hc => (nomatch hc)⟩, ?_⟩
  rintro r _ w2 ⟨k, rfl, hk, x2, hr, hfr⟩
  have hn := hr.len wdE_len (by decide)
  rw [List.length_map, List.length_take] at hn
  have x12 := x1.tr x2
  refine ⟨fun hlt => ?_, fun hlt => ?_⟩
  · obtain ⟨g, o, u, hg, hu, hc⟩ := (hxs.ext x2).str (i := k) (by omega)
    refine ⟨k, rfl, by omega, g, o, hg, u, hc, m, cell_blk (x12.get hD.blk) rfl, es, hD.map.ext x12, _, rfl, _, hr, ⟨by omega, by show _ ≤ 9223372036854775807; omega⟩, fun r2 w3 hA => ⟨k + 1, (wr64 (by omega)).symm, ⟨k + 1, by simp, by omega, ?_, ?_, ?_⟩, by dsimp only; omega⟩⟩
    · exact Chg.of_new x2 hA.chg fun c hc => hfr c hc
    · rw [tk hu, List.map_append]
      refine hA.ownL (x := ((u, (cnt ws u : Int)) : Wd)) ?_
      rw [hD.get]; rfl
    · intro c hc
      rcases hA.lt hc with h | h
      · exact hfr c h
      · exact Nat.le_trans x2.size h
  · rw [List.take_of_length_le (by omega)] at hr
    refine h r w2 _ x12 hr (fun c hc => Nat.le_trans x1.size (hfr c hc)) ⟨?_, fun t => ?_, fun x hx => ?_⟩
    · rw [List.map_map]
      show Srt (L.map id)
      rw [List.map_id]; exact hsrt
    · rw [List.map_map]
      show t ∈ L.map id ↔ _
      rw [List.map_id, hmem, hD.mem]
    · obtain ⟨t, ht, rfl⟩ := List.mem_map.1 hx
      rfl
theorem k_table_Of {s : Sl} {ts : List BA} {R : Sl → Int → World → Prop} (hx : Rows w 1 strE s ts) (hl : ts.length ≤ 1048576) (hsz : ∀ t ∈ ts, t.size ≤ maxLen)
    (h0 : (∃ t ∈ ts, t.size = 0) → ∀ w', Ext w w' → R ⟨none, 0, 0⟩ 1 w') (h : (∀ t ∈ ts, t.size ≠ 0) → ∀ r w' l, Ext w w' → OwnL w' t_api_Word 2 wdE r l → Tb ts l → R r 0 w') :
    Calls PP n_table_Of #[s.v] w fun e w' => ∃ (r : Sl) (q : Int), e = .returned (.tuple #[r.v, .int .i64 q]) ∧ R r q w' := by
  refine vc_table_Of ?_
  unfold VC_table_Of
  refine k_freq_New fun b w1 x1 hf hT => k_freq_AddAll (S := fun c => c = b) hx x1 (fun c hc => hc ▸ hf) hT (by omega) (fun he w2 x2 => ⟨fun _ => h0 he w2 (Chg.of_new x1 x2 fun c hc => hc ▸ hf), fun h => absurd (by decide) h⟩) fun hne w2 S2 x2 hS2 hT2 => ⟨fun h => absurd rfl h, fun _ => k_freq_Freeze hT2 hl hsz fun r w3 l x3 ho hfr htb => h hne r w3 l ?_ ho htb⟩
  exact (Chg.of_new x1 x2 fun c hc => hc ▸ hf).tr x3
end
end Go.Proofs.Ytcgeeddhneopfaa.G
