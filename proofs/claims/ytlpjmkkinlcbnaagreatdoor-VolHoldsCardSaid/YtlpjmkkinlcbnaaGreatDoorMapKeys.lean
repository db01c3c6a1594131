/- The keys of a map of one's own, sorted. -/
import Derived.Test.YtlpjmkkinlcbnaaGreatDoorM1
import Derived.Test.YtlpjmkkinlcbnaaGreatDoorArcSpec
import Derived.Sort.KeysCollected
namespace Go.Proofs.YtlpjmkkinlcbnaaGreatDoor
open Go.RowKit
theorem encStr_bs (x : List UInt8) : encStr x = .string (bs x) := rfl
/-- What the map's own keys are, in order. -/
theorem sorted_names {D : DataW Value} {w : World} {b n : Nat} {f : By → Option Value} (h1 : w.ownsMap Tryz.prog 9 selfR b n D) (h3 : ∀ x, Maps.has D (keyS x) = (f x).isSome) {ss : List By} (hp : ss.Perm (strKeys D)) :
    (ss.mergeSort leB).Pairwise (fun x y => x ≤ y) ∧ (ss.mergeSort leB).Nodup ∧ ∀ x, x ∈ ss.mergeSort leB ↔ (f x).isSome = true := by
  obtain ⟨es, hD, hpw, _⟩ := h1.entries str_keyed
  obtain ⟨es', hD', hko⟩ := h1.keysOf
  obtain rfl : es = es' := by rw [hD] at hD'; simpa using hD'
  subst hD
  have hk : ∀ p ∈ es, ∃ x, p.1 = .string x := fun p hp => by obtain ⟨v, hv⟩ := hko p hp; obtain ⟨x, _, hx, _⟩ := Maps.keyOf_str Tryz.underlying9 hv; exact ⟨x, hx⟩
  have tr : ∀ a b c : List UInt8, leB a b = true → leB b c = true → leB a c = true := fun a b c h1 h2 => by simp only [leB, decide_eq_true_eq] at *; exact List.le_trans h1 h2
  have tot : ∀ a b : List UInt8, (leB a b || leB b a) = true := fun a b => by simp only [leB, Bool.or_eq_true, decide_eq_true_eq]; exact List.le_total a b
  have hs := List.pairwise_mergeSort tr tot ss
  have hm : (ss.mergeSort leB).Perm (strKeys (.map es)) := (List.mergeSort_perm ss _).trans hp
  have hnd : (strKeys (.map es)).Nodup := by
    show (es.map fun p => strOf p.1).Nodup
    refine List.pairwise_map.2 (List.Pairwise.imp_of_mem (fun {p q} hp' hq' hne e => hne ?_) hpw)
    obtain ⟨a, ha⟩ := hk p hp'
    obtain ⟨b, hb⟩ := hk q hq'
    rw [ha, hb] at e ⊢
    exact congrArg _ e
  refine ⟨List.Pairwise.imp (fun {a b} h => by simpa [leB] using h) hs, hm.nodup_iff.2 hnd, fun x => ?_⟩
  rw [hm.mem_iff, ← h3 x]
  show x ∈ es.map (fun p => strOf p.1) ↔ Maps.has (.map es) (.string x) = true
  rw [Maps.has_eq, List.any_eq_true, List.mem_map]
  constructor
  · rintro ⟨p, hp', rfl⟩
    obtain ⟨a, ha⟩ := hk p hp'
    exact ⟨p, hp', by rw [ha]; simp [Lit.sameKey, strOf]⟩
  · rintro ⟨p, hp', hs⟩
    obtain ⟨a, ha⟩ := hk p hp'
    rw [ha] at hs
    exact ⟨p, hp', by rw [ha]; simpa [Lit.sameKey, strOf] using hs⟩
/-- How many a map has whose keys are names that we know. -/
theorem MapF.size_names {w : World} {b n : Nat} {f : By → Option Value} (h : MapF keyS w 9 b n f) {ss : List By} (hn : ss.Nodup) (hs : ∀ x, x ∈ ss ↔ (f x).isSome = true) (ty : TypeId) {t e : TypeId} (ht : Tryz.prog.underlying t = some (.map 9 e)) :
    (Builtin.len_ #[t] ty #[.map (some b)]).run Tryz.prog w = .ok (.int .i64 ss.length) w := by
  obtain ⟨D, h1, _, h3⟩ := h
  rw [h1.len ht ty]
  obtain ⟨_, hnd, hmem⟩ := sorted_names h1 (fun x => (h3 x).2) (List.Perm.refl (strKeys D))
  have hp : ((strKeys D).mergeSort leB).Perm ss := (List.perm_ext_iff_of_nodup hnd hn).2 fun x => by rw [hmem, hs]
  have h4 := hp.length_eq
  rw [(List.mergeSort_perm _ leB).length_eq] at h4
  obtain ⟨es, hD, _⟩ := h1.entries str_keyed
  have h5 : Maps.size D = (strKeys D).length := by
    subst hD
    rw [Maps.size_eq]
    show es.length = (es.map fun p => strOf p.1).length
    simp
  rw [h5, h4]
end Go.Proofs.YtlpjmkkinlcbnaaGreatDoor
