/- Contracts: the keys of a map, sorted; the product of two words of the machine. -/
import Derived.Test.YtchjcjocihckpaaVC
import Derived.Test.YtchjcjocihckpaaPmC
import Derived.Test.YtchjcjocihckpaaIterC
import Derived.Test.YtchjcjocihckpaaShelfC
namespace Go.Proofs.Ytchjcjocihckpaa.G
open Go Go.RowKit
theorem bl_lt : ∀ {a b : List UInt8}, a < b ↔ Op.bytesLess a b = true
  | [], [] => by simp [Op.bytesLess]
  | _ :: _, [] => by simp [Op.bytesLess]
  | [], _ :: _ => by simp [Op.bytesLess]
  | x :: a, y :: b => by
    rw [List.cons_lt_cons_iff, bl_lt]
    simp [Op.bytesLess]
theorem bl_le {a b : List UInt8} : a ≤ b ↔ Op.bytesLess b a = false := by
  rw [← List.not_lt, bl_lt]; simp
theorem bl_eq_or {a b : List UInt8} (h : Op.bytesLess b a = false) : a = b ∨ Op.bytesLess a b = true := by
  by_cases e : a = b
  · exact .inl e
  · exact .inr ((bl_tot e).resolve_right (by rw [h]; decide))
theorem srt_merge {l : List (List UInt8)} (hn : l.Nodup) : (l.mergeSort fun x y => decide (x ≤ y)).Pairwise fun a b => Op.bytesLess a b = true := by
  have h1 : (l.mergeSort fun x y => decide (x ≤ y)).Pairwise fun a b => decide (a ≤ b) = true := by
    refine List.pairwise_mergeSort (fun a b c h1 h2 => ?_) (fun a b => ?_) l
    · rw [decide_eq_true_eq, bl_le] at h1 h2 ⊢
      rcases bl_eq_or h1 with rfl | h1
      · exact h2
      · rcases bl_eq_or h2 with rfl | h2
        · cases e : Op.bytesLess b a with
          | false => rfl
          | true => have := bl_trans h1 e; rw [bl_irr] at this; cases this
        · cases e : Op.bytesLess c a with
          | false => rfl
          | true => have := bl_trans (bl_trans h1 h2) e; rw [bl_irr] at this; cases this
    · rw [Bool.or_eq_true, decide_eq_true_eq, decide_eq_true_eq, bl_le, bl_le]
      cases e : Op.bytesLess b a with
      | false => exact .inl rfl
      | true =>
        right
        cases e2 : Op.bytesLess a b with
        | false => rfl
        | true => have := bl_trans e e2; rw [bl_irr] at this; cases this
  have h2 : (l.mergeSort fun x y => decide (x ≤ y)).Nodup := (List.mergeSort_perm l _).nodup_iff.2 hn
  exact (h1.and h2).imp fun ⟨h, hne⟩ => (bl_eq_or (bl_le.1 (of_decide_eq_true h))).resolve_left hne
/-- A key's bytes. -/
def kb (v : Value) : List UInt8 := match v with | .string s => s.data.toList | _ => []
section
variable {w : World}
theorem k_maps_Keys {m : Option Nat} {R : Value → World → Prop} (h : R (.func (.func 70) #[] #[.pointer (some ⟨w.heap.size, 0, none⟩)]) (w.alloc (.cells #[.map m] 73))) :
    Calls PP n_maps_Keys_map_string_int_string_int #[.map m] w fun e w' => ∃ r : Value, e = .returned r ∧ R r w' :=
  (callsIn_wide.1 (Try.maps_Keys_47 m w)).mono fun _ _ ⟨he, hw⟩ => ⟨_, he, hw ▸ h⟩
theorem own_map {b : Nat} {es : List (BA × Int)} (hM : Mp strV intV w (some b) es) (hsz : ∀ p ∈ es, p.1.size ≤ maxLen) (hlen : es.length ≤ maxLen) :
    ∃ D : DataW Unit, w.ownsMap PP 9 (fun _ => some (.nil, [])) b es.length D ∧ (strKeys D).Perm (es.map fun p => p.1.data.toList) ∧ Maps.size D = es.length := by
  obtain ⟨h, _⟩ | ⟨b', ents, clock, h, hB⟩ := hM
  · cases h
  · cases h
    have hl : ents.size = es.length := by have := congrArg List.length hB.keys; simpa using this
    have hrd : ∀ x ∈ ents.toList, ∃ s : BA, x.key = .string s ∧ WideElems.rd (H := Unit) PP 9 (fun _ => some (.nil, [])) x = some (.string s.data.toList, .nil) := by
      intro x hx
      have : x.key ∈ es.map fun p => strV p.1 := by rw [← hB.keys]; exact List.mem_map.2 ⟨x, hx, rfl⟩
      obtain ⟨p, hp, he⟩ := List.mem_map.1 this
      refine ⟨p.1, he.symm, ?_⟩
      have hk : keyOf PP 9 x.key = some (.string p.1.data.toList) := by
        rw [← he]
        exact WideMaps.keyOf_string_mk Try.underlying9 (hsz p hp)
      unfold WideElems.rd
      rw [hk]; rfl
    refine ⟨_, ⟨ents, clock, hB.blk, ⟨by omega, ⟨hB.lt, ?_, ?_⟩, fun x hx => by obtain ⟨s, _, h⟩ := hrd x hx; exact ⟨_, h⟩⟩, by omega, rfl⟩, ?_, ?_⟩
    · exact hB.inc.imp fun h => Nat.ne_of_lt h
    · rw [hB.keys]
      have := hB.nd
      rw [show (es.map fun p => strV p.1) = (es.map (·.1)).map strV by rw [List.map_map]; rfl]
      exact this.map strV fun a b hne he => hne (by unfold strV at he; exact Value.string.inj he)
    · unfold strKeys
      refine ((WideShapes.sorted_perm _).map _).trans ?_
      rw [List.map_map]
      have e : ents.toList.map ((fun p => strOf p.1) ∘ WideElems.rg PP 9 fun _ => some ((.nil : DataW Unit), [])) = (ents.toList.map (·.key)).map kb := by
        rw [List.map_map]
        refine List.map_congr_left fun x hx => ?_
        obtain ⟨s, h1, h2⟩ := hrd x hx
        have h3 : WideElems.rg (H := Unit) PP 9 (fun _ => some (.nil, [])) x = (.string s.data.toList, .nil) := by
          unfold WideElems.rg; rw [h2]; rfl
        simp only [Function.comp, h3, h1]; rfl
      rw [e, hB.keys, List.map_map]
      exact List.Perm.refl _
    · show (List.length _) = _
      rw [(WideShapes.sorted_perm _).length_eq, List.length_map, Array.length_toList, hl]
theorem own_of_row {v : Value} {base : Nat} {ss : List (List UInt8)} {n : Nat} (h : w.ownsRow base 9 1 v n (ss.map Go.Proofs.encStr)) :
    ∃ s : Sl, v = s.v ∧ OwnL w t_string 1 strE s (ss.map fun l => (⟨l.toArray⟩ : BA)) ∧ ∀ c, s.blk = some c → base ≤ c := by
  have e : (ss.map fun l => (⟨l.toArray⟩ : BA)).flatMap strE = ss.map Go.Proofs.encStr := by
    rw [List.flatMap_map]
    clear h
    induction ss with
    | nil => rfl
    | cons a l ih => rw [List.flatMap_cons, List.map_cons, ih]; rfl
  obtain ⟨h1, ⟨rfl, h2⟩ | ⟨g, cap, cur, rfl, h2, h3, h4⟩⟩ := h
  · subst h2
    exact ⟨⟨none, 0, 0⟩, rfl, ⟨by rw [e]; simpa using h1, .inl ⟨rfl, rfl⟩⟩, fun c hc => (nomatch hc)⟩
  · exact ⟨⟨some ⟨g, 0, none⟩, n, cap⟩, rfl, ⟨by rw [e]; exact h1, .inr ⟨g, cap, cur, rfl, Nat.zero_le _, h3, by rw [e]; exact h4⟩⟩, fun c hc => by cases hc; exact h2⟩
theorem k_Sorted {m : Option Nat} {es : List (BA × Int)} {R : Sl → World → Prop} (hM : Mp strV intV w m es) (hsz : ∀ p ∈ es, p.1.size ≤ maxLen) (hlen : es.length ≤ 1099511627776)
    (h : ∀ s w' L, Ext w w' → OwnL w' t_string 1 strE s L → (∀ c, s.blk = some c → w.heap.size ≤ c) → Srt L → (∀ t, t ∈ L ↔ t ∈ es.map (·.1)) → (s.b = none ↔ L = []) → R s w') :
    Calls PP n_slices_Sorted_string #[.func (.func 70) #[] #[.pointer (some ⟨w.heap.size, 0, none⟩)]] (w.alloc (.cells #[.map m] 73)) fun e w' => ∃ r : Sl, e = .returned r.v ∧ R r w' := by
  have fin : ∀ (w' : World) (v : Value) (ss : List (List UInt8)), ss.Perm (es.map fun p => p.1.data.toList) →
      w'.ownsRow (w.alloc (.cells #[.map m] 73)).heap.size 9 1 v ss.length ((ss.mergeSort fun x y => decide (x ≤ y)).map Go.Proofs.encStr) → (v = .slice none 0 0 ↔ ss = []) → Below (w.alloc (.cells #[.map m] 73)).heap.size (w.alloc (.cells #[.map m] 73)) w' →
      ∃ r : Sl, (Ending.returned v) = .returned r.v ∧ R r w' := by
    intro w' v ss hp hrow hnil hb
    obtain ⟨s, rfl, ho, hf⟩ := own_of_row hrow
    have hnd : ss.Nodup := by
      refine hp.nodup_iff.2 ?_
      have := hM.nd
      rw [show (es.map fun p => p.1.data.toList) = (es.map (·.1)).map fun t => t.data.toList by rw [List.map_map]; rfl]
      exact this.map _ fun a b hne he => hne (ba_ext he)
    refine ⟨s, rfl, h s w' _ ((Ext.alloc w _).tr (Chg.of_below hb)) ho (fun c hc => ?_) ?_ (fun t => ?_) ?_⟩
    · have := hf c hc; rw [World.size_alloc] at this; omega
    · exact (srt_merge hnd).map _ fun a b hab => hab
    · rw [List.mem_map]
      constructor
      · rintro ⟨l, hl, rfl⟩
        rw [List.mem_mergeSort, hp.mem_iff, List.mem_map] at hl
        obtain ⟨p, hp, rfl⟩ := hl
        exact List.mem_map.2 ⟨p, hp, rfl⟩
      · intro ht
        rw [List.mem_map] at ht
        obtain ⟨p, hp', rfl⟩ := ht
        exact ⟨p.1.data.toList, by rw [List.mem_mergeSort, hp.mem_iff]; exact List.mem_map.2 ⟨p, hp', rfl⟩, rfl⟩
    · rw [List.map_eq_nil_iff]
      have e1 : (ss.mergeSort fun x y => decide (x ≤ y)) = [] ↔ ss = [] := by
        rw [← List.length_eq_zero_iff, List.length_mergeSort, List.length_eq_zero_iff]
      rw [e1, ← hnil]
      constructor
      · intro hb
        have := ho.len strE_len (by decide)
        obtain ⟨_, h3 | ⟨g, cap, cur, h3, _⟩⟩ := ho
        · exact h3.1
        · rcases s with ⟨b, n, c⟩; simp only [Sl.v, Value.slice.injEq] at h3; rw [h3.1] at hb; cases hb
      · intro hv
        rcases s with ⟨b, n, c⟩; simp only [Sl.v, Value.slice.injEq] at hv; exact hv.1
  cases m with
  | none =>
    have hes : es = [] := by
      rcases hM with ⟨_, h⟩ | ⟨b', _, _, h, _⟩
      · exact h
      · cases h
    refine (callsIn_wide.1 (Try.slices_Sorted_keys_nil_46_47 w)).mono ?_
    rintro e w' ⟨v, ss, rfl, hss, hrow, hnil, hb⟩
    exact fin w' v ss (by rw [hss, hes]; exact List.Perm.refl _) hrow hnil hb
  | some b =>
    obtain ⟨D, hown, hperm, hsize⟩ := own_map hM hsz (by show _ ≤ 9223372036854775807; omega)
    refine (callsIn_wide.1 (Try.slices_Sorted_keys_46_47 b _ D _ w hown (by rw [hsize]; show _ ≤ 9223372036854775807; omega) (by rw [hsize]; omega))).mono ?_
    rintro e w' ⟨v, ss, rfl, hss, hrow, hnil, hb⟩
    exact fin w' v ss (hss.trans hperm) hrow hnil hb
theorem k_Mul64 {x y : Nat} {R : Int → Int → World → Prop} (hx : x < 18446744073709551616) (hy : y < 18446744073709551616) (h : R ((x * y / 18446744073709551616 : Nat) : Int) ((x * y % 18446744073709551616 : Nat) : Int) w) :
    Calls PP n_math_bits_Mul64 #[.int .u64 (x : Int), .int .u64 (y : Int)] w fun e w' => ∃ (r : Int) (q : Int), e = .returned (.tuple #[.int .u64 r, .int .u64 q]) ∧ R r q w' :=
  (Any.bits_Mul64 Try.lays264 x y hx hy w).mono fun _ _ ⟨he, hw⟩ => ⟨_, _, he, hw ▸ h⟩
end
end Go.Proofs.Ytchjcjocihckpaa.G
