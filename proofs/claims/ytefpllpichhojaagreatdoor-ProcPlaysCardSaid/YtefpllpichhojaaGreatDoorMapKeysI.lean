/- The keys of a map of one's own whose keys are numbers, sorted; how many there are. -/
import Derived.Test.YtefpllpichhojaaGreatDoorM10
import Derived.Lib.SlKeysI
import Derived.Maps.RangeWalk
namespace Go.Proofs.YtefpllpichhojaaGreatDoor
open Go.RowKit Go.Maps
theorem sorted_ints {D : DataW Value} {w : World} {b n : Nat} {f : Int → Option Value} (h1 : w.ownsMap Tryz.prog 3 selfR b n D) (h3 : ∀ x, Maps.has D (keyI x) = (f x).isSome) {ss : List Int} (hp : ss.Perm (intKeys D)) :
 (ss.mergeSort leI).Pairwise (fun x y => x ≤ y) ∧ (ss.mergeSort leI).Nodup ∧ ∀ x, x ∈ ss.mergeSort leI ↔ (f x).isSome = true := by
 obtain ⟨es, hD, hpw, _⟩ := h1.entries int_keyedA
 obtain ⟨es', hD', hko⟩ := h1.keysOf
 obtain rfl : es = es' := by rw [hD] at hD'; simpa using hD'
 subst hD
 have hk : ∀ p ∈ es, ∃ x, p.1 = .int .i64 x := fun p hp => by obtain ⟨v, hv⟩ := hko p hp; obtain ⟨x, _, hx, _⟩ := Maps.keyOf_int_inv Tryz.underlying3 hv; exact ⟨x, hx⟩
 have tr : ∀ a b c : Int, leI a b = true → leI b c = true → leI a c = true := fun a b c h1 h2 => by simp only [leI, decide_eq_true_eq] at *; omega
 have tot : ∀ a b : Int, (leI a b || leI b a) = true := fun a b => by simp only [leI, Bool.or_eq_true, decide_eq_true_eq]; omega
 have hs := List.pairwise_mergeSort tr tot ss
 have hm : (ss.mergeSort leI).Perm (intKeys (.map es)) := (List.mergeSort_perm ss _).trans hp
 have hnd : (intKeys (.map es)).Nodup := by
  show (es.map fun p => Go.intOf p.1).Nodup
  refine List.pairwise_map.2 (List.Pairwise.imp_of_mem (fun {p q} hp' hq' hne e => hne ?_) hpw)
  obtain ⟨a, ha⟩ := hk p hp'
  obtain ⟨b, hb⟩ := hk q hq'
  rw [ha, hb] at e ⊢
  exact congrArg _ e
 refine ⟨List.Pairwise.imp (fun {a b} h => by simpa [leI] using h) hs, hm.nodup_iff.2 hnd, fun x => ?_⟩
 rw [hm.mem_iff, ← h3 x]
 show x ∈ es.map (fun p => Go.intOf p.1) ↔ Maps.has (.map es) (.int .i64 x) = true
 rw [Maps.has_eq, List.any_eq_true, List.mem_map]
 constructor
 · rintro ⟨p, hp', rfl⟩
   obtain ⟨a, ha⟩ := hk p hp'
   exact ⟨p, hp', by rw [ha]; simp [Lit.sameKey, Go.intOf]⟩
 · rintro ⟨p, hp', hs⟩
   obtain ⟨a, ha⟩ := hk p hp'
   rw [ha] at hs
   exact ⟨p, hp', by rw [ha]; simpa [Lit.sameKey, Go.intOf] using hs⟩
theorem MapF.size_ints {w : World} {b n : Nat} {f : Int → Option Value} (h : MapF keyI w 3 b n f) {ss : List Int} (hn : ss.Nodup) (hs : ∀ x, x ∈ ss ↔ (f x).isSome = true) (ty : TypeId) {t e : TypeId} (ht : Tryz.prog.underlying t = some (.map 3 e)) :
 (Builtin.len_ #[t] ty #[.map (some b)]).run Tryz.prog w = .ok (.int .i64 ss.length) w := by
 obtain ⟨D, h1, _, h3⟩ := h
 rw [h1.len ht ty]
 obtain ⟨_, hnd, hmem⟩ := sorted_ints h1 (fun x => (h3 x).2) (List.Perm.refl (intKeys D))
 have hp : ((intKeys D).mergeSort leI).Perm ss := (List.perm_ext_iff_of_nodup hnd hn).2 fun x => by rw [hmem, hs]
 have h4 := hp.length_eq
 rw [(List.mergeSort_perm _ leI).length_eq] at h4
 obtain ⟨es, hD, _⟩ := h1.entries int_keyedA
 have h5 : Maps.size D = (intKeys D).length := by
  subst hD
  rw [Maps.size_eq]
  show es.length = (es.map fun p => Go.intOf p.1).length
  simp
 rw [h5, h4]
end Go.Proofs.YtefpllpichhojaaGreatDoor
