/- Contracts: the table of symbols. -/
import Derived.Test.YtchjcjocihckpaaHbC
import Derived.Test.YtchjcjocihckpaaPmC
namespace Go.Proofs.Ytchjcjocihckpaa.G
open Go Go.RowKit
/-- A table in memory: its block, the blocks that are its own, what it holds. -/
structure TabD (w : World) (b : Nat) (S : Nat → Prop) (js : List Jd) (l : Sl) (m : Option Nat) (es : List (BA × Int)) : Prop where
  blk : w.heap[b]? = some (.cells #[l.v, .map m] t_sym_Table (0, 0))
  row : OwnL w t_sym_joined 3 jdE l js
  map : Mp strV intV w m es
  get : ∀ x, mget x es = idx x js
  sz : ∀ j ∈ js, j.tx.size ≤ 65536
  own : S b
  ownl : ∀ c, l.blk = some c → S c ∧ c ≠ b
  ownm : ∀ c, m = some c → S c ∧ c ≠ b ∧ l.blk ≠ some c
  lt : ∀ c, S c → c < w.heap.size
def Tab (w : World) (b : Nat) (S : Nat → Prop) (js : List Jd) : Prop := ∃ l m es, TabD w b S js l m es
section
variable {w w1 : World} {b : Nat} {S S' : Nat → Prop} {js : List Jd}
theorem TabD.chg {l : Sl} {m : Option Nat} {es : List (BA × Int)} (h : TabD w b S js l m es) (x : Chg S' w w1) (hn : ∀ c, S c → ¬ S' c) : TabD w1 b S js l m es :=
  { blk := x.get h.blk (hn b h.own), row := h.row.chg x fun c hc => hn c (h.ownl c hc).1, map := h.map.chg x fun c hc => hn c (h.ownm c hc).1, get := h.get, sz := h.sz, own := h.own, ownl := h.ownl, ownm := h.ownm,
    lt := fun c hc => Nat.lt_of_lt_of_le (h.lt c hc) x.size }
theorem Tab.chg (h : Tab w b S js) (x : Chg S' w w1) (hn : ∀ c, S c → ¬ S' c) : Tab w1 b S js := by
  obtain ⟨l, m, es, h⟩ := h; exact ⟨l, m, es, h.chg x hn⟩
theorem Tab.ext (h : Tab w b S js) (x : Ext w w1) : Tab w1 b S js := h.chg x fun _ _ h => h
theorem Tab.lt (h : Tab w b S js) : ∀ c, S c → c < w.heap.size := by obtain ⟨l, m, es, h⟩ := h; exact h.lt
theorem k_sym_New {R : Option Addr → World → Prop} (h : ∀ b w', Ext w w' → w.heap.size ≤ b → Tab w' b (fun c => c = b) [] → R (some ⟨b, 0, none⟩) w') :
    Calls PP n_sym_New #[] w fun e w' => ∃ r : Option Addr, e = .returned (.pointer r) ∧ R r w' := by
  refine vc_sym_New ?_
  unfold VC_sym_New
  intro b w1 hN
  refine h b w1 hN.ext hN.fresh ⟨⟨none, 0, 0⟩, none, [], ?_⟩
  exact { blk := hN.here, row := OwnL.nil, map := Mp.nil, get := fun x => rfl, sz := by simp, own := rfl, ownl := fun c hc => (nomatch hc), ownm := fun c hc => (nomatch hc), lt := fun c hc => by subst hc; exact hN.lt }
theorem k_sym_Len {R : Int → World → Prop} (hT : Tab w b S js) (hl : js.length ≤ 1099511627776) (h : R (256 + js.length : Nat) w) :
    Calls PP n_sym_Table_Len #[.pointer (some ⟨b, 0, none⟩)] w fun e w' => ∃ r : Int, e = .returned (.int .i64 r) ∧ R r w' := by
  refine vc_sym_Table_Len ?_
  unfold VC_sym_Table_Len
  obtain ⟨l, m, es, hT⟩ := hT
  have hn := hT.row.len jdE_len (by decide)
  refine ⟨fun h => (nomatch h), fun _ => ⟨b, 0, rfl, l, cell_blk hT.blk rfl, _, rfl, ?_⟩⟩
  rw [wr64 (by omega), hn]
  rw [Int.natCast_add] at h; exact h
theorem k_sym_Text {a : Int} {R : BA → Bool → World → Prop} (hT : Tab w b S js) (hl : js.length ≤ 1099511627776) (h : ∀ w', Ext w w' → R ((txOf js a).getD ⟨#[]⟩) (txOf js a).isSome w') :
    Calls PP n_sym_Table_Text #[.pointer (some ⟨b, 0, none⟩), .int .i64 a] w fun e w' => ∃ (r : BA) (q : Bool), e = .returned (.tuple #[.string r, .bool q]) ∧ R r q w' := by
  refine vc_sym_Table_Text ?_
  unfold VC_sym_Table_Text
  refine ⟨fun j w' => w' = w ∧ j = (decide (a < 0) || decide (((256 + js.length : Nat) : Int) ≤ a)), ?_, fun h0 => ⟨rfl, by simp [h0]⟩, fun h0 => ?_⟩
  · rintro j w' ⟨rfl, rfl⟩
    refine ⟨fun hj => ?_, fun hj => ⟨fun h1 => ?_, fun h1 => ?_⟩⟩
    · rw [Bool.or_eq_true, decide_eq_true_eq, decide_eq_true_eq] at hj
      have : txOf js a = none := by
        unfold txOf
        by_cases h0 : a < 0
        · rw [if_pos h0]
        · rw [if_neg h0, if_neg (by omega), List.getElem?_eq_none (by omega)]; rfl
      have := h w' (Chg.refl _)
      rw [‹txOf js a = none›] at this; exact this
    · rw [Bool.or_eq_false_iff, decide_eq_false_iff_not, decide_eq_false_iff_not] at hj
      refine ⟨_, rfl, UInt8.ofNat a.toNat, ?_, fun w2 x2 => ?_⟩
      · rw [wr8 (by omega), UInt8.toNat_ofNat', Nat.mod_eq_of_lt (by omega)]; omega
      · have e : txOf js a = some (one (UInt8.ofNat a.toNat)) := by unfold txOf; rw [if_neg hj.1, if_pos h1]
        have := h w2 x2
        rw [e] at this; exact this
    · rw [Bool.or_eq_false_iff, decide_eq_false_iff_not, decide_eq_false_iff_not] at hj
      obtain ⟨l, m, es, hT⟩ := hT
      have hn := hT.row.len jdE_len (by decide)
      have hR := hT.row.rows jdE_len (by decide)
      obtain ⟨g, o, eb, hk, hc⟩ := hR.get (i := (a - 256).toNat) (by omega)
      refine ⟨b, 0, rfl, l, cell_blk hT.blk rfl, _, rfl, (a - 256).toNat, ?_, by omega, g, o, eb, _, (show Cells w' g _ [_, _, _] from hc).2.2.1, ?_⟩
      · rw [wr64 (by omega)]; omega
      · have e : txOf js a = some (js[(a - 256).toNat].tx) := by
          unfold txOf
          rw [if_neg hj.1, if_neg h1, show a.toNat - 256 = (a - 256).toNat by omega, List.getElem?_eq_getElem hk]; rfl
        have := h w' (Chg.refl _)
        rw [e] at this; exact this
  · refine k_sym_Len hT hl ⟨rfl, ?_⟩
    simp [h0]
theorem k_sym_Find {s : BA} {R : Int → Bool → World → Prop} (hT : Tab w b S js) (h : R ((fnd js s).getD 0) (fnd js s).isSome w) :
    Calls PP n_sym_Table_Find #[.pointer (some ⟨b, 0, none⟩), .string s] w fun e w' => ∃ (r : Int) (q : Bool), e = .returned (.tuple #[.int .i64 r, .bool q]) ∧ R r q w' := by
  refine vc_sym_Table_Find ?_
  unfold VC_sym_Table_Find
  obtain ⟨l, m, es, hT⟩ := hT
  refine ⟨fun h => (nomatch h), fun _ => ⟨fun h1 => ⟨by omega, _, rfl, ?_⟩, fun h1 => ⟨b, 0, rfl, m, cell_blk hT.blk rfl, es, hT.map, _, rfl, ?_⟩⟩⟩
  · have e : fnd js s = some ((s.data.toList.getD 0 0).toNat : Int) := by unfold fnd; rw [if_pos (by omega)]
    have := toNat_lt (s.data.toList.getD 0 0)
    rw [e] at h; rw [wr64 (by omega)]; exact h
  · have e : fnd js s = idx s js := by unfold fnd; rw [if_neg (by omega)]
    rw [hT.get, ← e]; exact h
end
end Go.Proofs.Ytchjcjocihckpaa.G
