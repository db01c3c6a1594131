/- each: the parts of one kind, one behind the other. -/
import Derived.Test.YtpfcofjianmeaaaGreatDoorArcOne
import Derived.Test.YtpfcofjianmeaaaGreatDoorRowApp
import Derived.Deep.LoopGhost
namespace Go.Proofs.YtpfcofjianmeaaaGreatDoor
open Go.RowKit
def needC (L : List NeedD) : List Value := L.flatMap fun n => [.string (bs n.name), .int .i64 n.way, .string (bs n.ver)]
def OwnNd (w : World) (base : Nat) (a : Option Addr) (cap : Nat) (D : List NeedD) : Prop := w.ownsRow base 51 3 (.slice a D.length cap) D.length (needC D)
theorem info_need : (Tryz.prog.info? 51).map (fun i => (i.zero, i.size, i.bytes)) = some (some (.agg #[.string ⟨#[]⟩, .int .i64 0, .string ⟨#[]⟩]), 3, 40) := by kernel_rfl
set_option maxHeartbeats 3200000 in
theorem each_need (S : Nat → Prop) (R : Nat) (s0 : RSt) (w : World) (hS : ∀ k, S k → k < R) (h : Rd S w R s0) (hs : s0.1.length ≤ 1000000) :
    Calls Tryz.prog 38 #[.pointer (some ⟨R, 0, none⟩), .func (.func 39) #[] #[]] w
      (fun e w' => ∃ a cap, e = .returned (.slice a (rEach oneNeed s0).1.length cap) ∧ OwnNd w' w.heap.size a cap (rEach oneNeed s0).1 ∧ Rd S w' R (rEach oneNeed s0).2 ∧ Keep (· ≠ R) w w') := by
  obtain ⟨Q, hQ⟩ : ∃ Q : Ending → World → Prop, Q = (fun e w' => ∃ a cap, e = .returned (.slice a (rEach oneNeed s0).1.length cap) ∧ OwnNd w' w.heap.size a cap (rEach oneNeed s0).1 ∧ Rd S w' R (rEach oneNeed s0).2 ∧ Keep (· ≠ R) w w') := ⟨_, rfl⟩
  rw [← hQ]
  have HQ := Lib.hid hQ; clear hQ
  have hRlt := h.lt
  have H := Lib.hid h; clear h
  go_enter Tryz.func38, Tryz.ntmps38
  go_wp2_with fail
  go_loopg [5] s0.1.length (fun gk v wr => ∃ (D : List NeedD) (a : Option Addr) (cap : Nat) (s : RSt), v = .slice a D.length cap ∧ Hid (gk = s.1.length) ∧ Hid ((rEach oneNeed s0).1 = D ++ (rEach oneNeed s).1 ∧ (rEach oneNeed s0).2 = (rEach oneNeed s).2) ∧ Hid (D.length + s.1.length ≤ s0.1.length) ∧
    Hid (OwnNd wr w.heap.size a cap D) ∧ Hid (Rd S wr R s) ∧ Hid (Keep (fun k => k ≠ R ∧ k < w.heap.size) w wr))
  case atStart => exact ⟨[], none, 0, s0, rfl, Lib.hid rfl, Lib.hid ⟨rfl, rfl⟩, Lib.hid (by simp), Lib.hid (World.ownsRow_nil _ _ _ _), H, Lib.hid (Keep.refl _ _)⟩
  case round =>
    obtain ⟨D, a, cap, s, rfl, hgk, hrd, hdn, hown, hR, hkp⟩ := hrel
    have hsz := hkp.out.size
    have hmore := rd_more _ _ _ _ hR.out
    have HM := Lib.hid hmore; clear hmore
    by_cases hlt : 0 < s.1.length
    · have hl := hdn.out
      obtain ⟨x, t2, ht2⟩ : ∃ x t2, oneNeed s = (x, t2) := ⟨_, _, rfl⟩
      have hc := one_need S R s wr hS hR.out (by omega)
      have hcons := rEach_cons oneNeed_takes hlt
      have hless := oneNeed_takes s hlt
      rw [ht2] at hc hcons hless
      try unfold needA at hc
      have HC := Lib.hid hc; clear hc
      have HCO := Lib.hid hcons; clear hcons
      have HLE := Lib.hid hless; clear hless ht2
      have hDb : D.length ≤ 1000000 := by omega
      go_wp2_with (first
        | (go_at_call 63; refine HM.out.mono ?_; rintro e w1 ⟨rfl, rfl⟩)
        | (go_at_call 39; refine (HC.out).mono ?_; rintro e w2 ⟨rfl, hr2, hk2⟩; have hz2 := hk2.size; have ow2 : OwnNd w2 w.heap.size a cap D := ownsRow_keep hown.out hk2 (fun g _ _ hb _ => by show g ≠ R; omega); have ow2 := Lib.hid ow2; have hr2 := Lib.hid hr2; have hk2 := Lib.hid hk2)
        | (at_builtin; refine append_big rfl (.tmp 8) (.tmp 12) 22 51 (.agg #[.string ⟨#[]⟩, .int .i64 0, .string ⟨#[]⟩]) 3 40 rfl Tryz.underlying22 info_need rfl (by decide) w.heap.size a D.length cap (needC D) rfl (ownsRow_ext ow2.out (Ext.alloc _ _)) w2.heap.size 1 1 [.string (bs x.name), .int .i64 x.way, .string (bs x.ver)] _ _ rfl (by rfl) (heap_alloc_new w2 _) (by simp [Value.oneCell']) (by omega) (by omega) (by decide) ?_ (D.length + 1) rfl ?_; (simp; omega); intro g1 cap1 w3 hown3 hk3 hb3 hat3; have hown3 := Lib.hid hown3; have hb3 := Lib.hid hb3))
      go_roundg t2.1.length
      case measure => have h1 := HLE.out; have h2 := hgk.out; omega
      case rel =>
        refine ⟨D ++ [x], some ⟨g1, 0, none⟩, cap1, t2, by simp, Lib.hid rfl, Lib.hid ⟨?_, ?_⟩, Lib.hid ?_, Lib.hid ?_, Lib.hid ?_, Lib.hid ?_⟩
        · rw [hrd.out.1, HCO.out]; simp
        · rw [hrd.out.2, HCO.out]
        · have h1 := hdn.out
          have h2 := HLE.out
          simp only [List.length_append, List.length_cons, List.length_nil] at h2 ⊢
          omega
        · unfold OwnNd
          rw [List.length_append]
          simpa [needC] using hown3.out
        · exact (hr2.out.ext (Ext.alloc w2 _)).keep (Keep.of_below hb3.out) (show R < w.heap.size by omega) (fun g _ hg => by have := hS g hg; show g < w.heap.size; omega)
        · exact hkp.out.trans ((hk2.out.mono (fun k _ hk => hk.1)).trans ((Keep.of_ext (Ext.alloc w2 _)).trans ((Keep.of_below hb3.out).mono (fun k _ hk => hk.2))))
    · have hs0 : s.1.length = 0 := by omega
      have hE := hrd.out
      rw [rEach_nil oneNeed hs0, List.append_nil] at hE
      have HEM := Lib.hid hE; clear hE hs0
      go_wp2_with (go_at_call 63; refine HM.out.mono ?_; rintro e w1 ⟨rfl, rfl⟩)
      rw [HQ.out]
      refine ⟨a, cap, by rw [HEM.out.1]; rfl, by rw [HEM.out.1]; exact hown.out, by rw [HEM.out.2]; exact hR.out, hkp.out.mono (fun k hk h => ⟨h, hk⟩)⟩
set_option maxHeartbeats 3200000 in
theorem each_text2 (S : Nat → Prop) (R : Nat) (s0 : RSt) (w : World) (hS : ∀ k, S k → k < R) (h : Rd S w R s0) (hs : s0.1.length ≤ 1000000) :
    Calls Tryz.prog 40 #[.pointer (some ⟨R, 0, none⟩), .func (.func 41) #[] #[]] w
      (fun e w' => ∃ a cap, e = .returned (.slice a (rEach (oneText 12) s0).1.length cap) ∧ OwnS w' w.heap.size a cap (rEach (oneText 12) s0).1 ∧ Rd S w' R (rEach (oneText 12) s0).2 ∧ Keep (· ≠ R) w w') := by
  obtain ⟨Q, hQ⟩ : ∃ Q : Ending → World → Prop, Q = (fun e w' => ∃ a cap, e = .returned (.slice a (rEach (oneText 12) s0).1.length cap) ∧ OwnS w' w.heap.size a cap (rEach (oneText 12) s0).1 ∧ Rd S w' R (rEach (oneText 12) s0).2 ∧ Keep (· ≠ R) w w') := ⟨_, rfl⟩
  rw [← hQ]
  have HQ := Lib.hid hQ; clear hQ
  have hRlt := h.lt
  have H := Lib.hid h; clear h
  go_enter Tryz.func40, Tryz.ntmps40
  go_wp2_with fail
  go_loopg [5] s0.1.length (fun gk v wr => ∃ (D : List By) (a : Option Addr) (cap : Nat) (s : RSt), v = .slice a D.length cap ∧ Hid (gk = s.1.length) ∧ Hid ((rEach (oneText 12) s0).1 = D ++ (rEach (oneText 12) s).1 ∧ (rEach (oneText 12) s0).2 = (rEach (oneText 12) s).2) ∧ Hid (D.length + s.1.length ≤ s0.1.length) ∧
    Hid (OwnS wr w.heap.size a cap D) ∧ Hid (Rd S wr R s) ∧ Hid (Keep (fun k => k ≠ R ∧ k < w.heap.size) w wr))
  case atStart => exact ⟨[], none, 0, s0, rfl, Lib.hid rfl, Lib.hid ⟨rfl, rfl⟩, Lib.hid (by simp), Lib.hid (World.ownsRow_nil _ _ _ _), H, Lib.hid (Keep.refl _ _)⟩
  case round =>
    obtain ⟨D, a, cap, s, rfl, hgk, hrd, hdn, hown, hR, hkp⟩ := hrel
    have hsz := hkp.out.size
    have hmore := rd_more _ _ _ _ hR.out
    have HM := Lib.hid hmore; clear hmore
    by_cases hlt : 0 < s.1.length
    · have hl := hdn.out
      obtain ⟨x, t2, ht2⟩ : ∃ x t2, (oneText 12) s = (x, t2) := ⟨_, _, rfl⟩
      have hc := one_text2 S R s wr hR.out (by omega)
      have hcons := rEach_cons (oneText_takes 12) hlt
      have hless := (oneText_takes 12) s hlt
      rw [ht2] at hc hcons hless
      try unfold needA at hc
      have HC := Lib.hid hc; clear hc
      have HCO := Lib.hid hcons; clear hcons
      have HLE := Lib.hid hless; clear hless ht2
      have hDb : D.length ≤ 1000000 := by omega
      go_wp2_with (first
        | (go_at_call 63; refine HM.out.mono ?_; rintro e w1 ⟨rfl, rfl⟩)
        | (go_at_call 41; refine (HC.out).mono ?_; rintro e w2 ⟨rfl, hr2, hk2⟩; have hz2 := hk2.size; have ow2 : OwnS w2 w.heap.size a cap D := ownsRow_keep hown.out hk2 (fun g _ _ hb _ => by show g ≠ R; omega); have ow2 := Lib.hid ow2; have hr2 := Lib.hid hr2; have hk2 := Lib.hid hk2)
        | (at_builtin; refine append_big rfl (.tmp 8) (.tmp 12) 23 9 (.string ⟨#[]⟩) 1 16 rfl Tryz.underlying23 info_string rfl (by decide) w.heap.size a D.length cap _ rfl (ownsRow_ext ow2.out (Ext.alloc _ _)) w2.heap.size 1 1 [.string (bs x)] _ _ rfl (by rfl) (heap_alloc_new w2 _) (by simp [Value.oneCell']) (by omega) (by omega) (by decide) ?_ (D.length + 1) rfl ?_; (simp; omega); intro g1 cap1 w3 hown3 hk3 hb3 hat3; have hown3 := Lib.hid hown3; have hb3 := Lib.hid hb3))
      go_roundg t2.1.length
      case measure => have h1 := HLE.out; have h2 := hgk.out; omega
      case rel =>
        refine ⟨D ++ [x], some ⟨g1, 0, none⟩, cap1, t2, by simp, Lib.hid rfl, Lib.hid ⟨?_, ?_⟩, Lib.hid ?_, Lib.hid ?_, Lib.hid ?_, Lib.hid ?_⟩
        · rw [hrd.out.1, HCO.out]; simp
        · rw [hrd.out.2, HCO.out]
        · have h1 := hdn.out
          have h2 := HLE.out
          simp only [List.length_append, List.length_cons, List.length_nil] at h2 ⊢
          omega
        · unfold OwnS
          rw [List.length_append]
          simpa [] using hown3.out
        · exact (hr2.out.ext (Ext.alloc w2 _)).keep (Keep.of_below hb3.out) (show R < w.heap.size by omega) (fun g _ hg => by have := hS g hg; show g < w.heap.size; omega)
        · exact hkp.out.trans ((hk2.out.mono (fun k _ hk => hk.1)).trans ((Keep.of_ext (Ext.alloc w2 _)).trans ((Keep.of_below hb3.out).mono (fun k _ hk => hk.2))))
    · have hs0 : s.1.length = 0 := by omega
      have hE := hrd.out
      rw [rEach_nil (oneText 12) hs0, List.append_nil] at hE
      have HEM := Lib.hid hE; clear hE hs0
      go_wp2_with (go_at_call 63; refine HM.out.mono ?_; rintro e w1 ⟨rfl, rfl⟩)
      rw [HQ.out]
      refine ⟨a, cap, by rw [HEM.out.1]; rfl, by rw [HEM.out.1]; exact hown.out, by rw [HEM.out.2]; exact hR.out, hkp.out.mono (fun k hk h => ⟨h, hk⟩)⟩
set_option maxHeartbeats 3200000 in
theorem each_text4 (S : Nat → Prop) (R : Nat) (s0 : RSt) (w : World) (hS : ∀ k, S k → k < R) (h : Rd S w R s0) (hs : s0.1.length ≤ 1000000) :
    Calls Tryz.prog 40 #[.pointer (some ⟨R, 0, none⟩), .func (.func 46) #[] #[]] w
      (fun e w' => ∃ a cap, e = .returned (.slice a (rEach (oneText 300) s0).1.length cap) ∧ OwnS w' w.heap.size a cap (rEach (oneText 300) s0).1 ∧ Rd S w' R (rEach (oneText 300) s0).2 ∧ Keep (· ≠ R) w w') := by
  obtain ⟨Q, hQ⟩ : ∃ Q : Ending → World → Prop, Q = (fun e w' => ∃ a cap, e = .returned (.slice a (rEach (oneText 300) s0).1.length cap) ∧ OwnS w' w.heap.size a cap (rEach (oneText 300) s0).1 ∧ Rd S w' R (rEach (oneText 300) s0).2 ∧ Keep (· ≠ R) w w') := ⟨_, rfl⟩
  rw [← hQ]
  have HQ := Lib.hid hQ; clear hQ
  have hRlt := h.lt
  have H := Lib.hid h; clear h
  go_enter Tryz.func40, Tryz.ntmps40
  go_wp2_with fail
  go_loopg [5] s0.1.length (fun gk v wr => ∃ (D : List By) (a : Option Addr) (cap : Nat) (s : RSt), v = .slice a D.length cap ∧ Hid (gk = s.1.length) ∧ Hid ((rEach (oneText 300) s0).1 = D ++ (rEach (oneText 300) s).1 ∧ (rEach (oneText 300) s0).2 = (rEach (oneText 300) s).2) ∧ Hid (D.length + s.1.length ≤ s0.1.length) ∧
    Hid (OwnS wr w.heap.size a cap D) ∧ Hid (Rd S wr R s) ∧ Hid (Keep (fun k => k ≠ R ∧ k < w.heap.size) w wr))
  case atStart => exact ⟨[], none, 0, s0, rfl, Lib.hid rfl, Lib.hid ⟨rfl, rfl⟩, Lib.hid (by simp), Lib.hid (World.ownsRow_nil _ _ _ _), H, Lib.hid (Keep.refl _ _)⟩
  case round =>
    obtain ⟨D, a, cap, s, rfl, hgk, hrd, hdn, hown, hR, hkp⟩ := hrel
    have hsz := hkp.out.size
    have hmore := rd_more _ _ _ _ hR.out
    have HM := Lib.hid hmore; clear hmore
    by_cases hlt : 0 < s.1.length
    · have hl := hdn.out
      obtain ⟨x, t2, ht2⟩ : ∃ x t2, (oneText 300) s = (x, t2) := ⟨_, _, rfl⟩
      have hc := one_text4 S R s wr hR.out (by omega)
      have hcons := rEach_cons (oneText_takes 300) hlt
      have hless := (oneText_takes 300) s hlt
      rw [ht2] at hc hcons hless
      try unfold needA at hc
      have HC := Lib.hid hc; clear hc
      have HCO := Lib.hid hcons; clear hcons
      have HLE := Lib.hid hless; clear hless ht2
      have hDb : D.length ≤ 1000000 := by omega
      go_wp2_with (first
        | (go_at_call 63; refine HM.out.mono ?_; rintro e w1 ⟨rfl, rfl⟩)
        | (go_at_call 46; refine (HC.out).mono ?_; rintro e w2 ⟨rfl, hr2, hk2⟩; have hz2 := hk2.size; have ow2 : OwnS w2 w.heap.size a cap D := ownsRow_keep hown.out hk2 (fun g _ _ hb _ => by show g ≠ R; omega); have ow2 := Lib.hid ow2; have hr2 := Lib.hid hr2; have hk2 := Lib.hid hk2)
        | (at_builtin; refine append_big rfl (.tmp 8) (.tmp 12) 23 9 (.string ⟨#[]⟩) 1 16 rfl Tryz.underlying23 info_string rfl (by decide) w.heap.size a D.length cap _ rfl (ownsRow_ext ow2.out (Ext.alloc _ _)) w2.heap.size 1 1 [.string (bs x)] _ _ rfl (by rfl) (heap_alloc_new w2 _) (by simp [Value.oneCell']) (by omega) (by omega) (by decide) ?_ (D.length + 1) rfl ?_; (simp; omega); intro g1 cap1 w3 hown3 hk3 hb3 hat3; have hown3 := Lib.hid hown3; have hb3 := Lib.hid hb3))
      go_roundg t2.1.length
      case measure => have h1 := HLE.out; have h2 := hgk.out; omega
      case rel =>
        refine ⟨D ++ [x], some ⟨g1, 0, none⟩, cap1, t2, by simp, Lib.hid rfl, Lib.hid ⟨?_, ?_⟩, Lib.hid ?_, Lib.hid ?_, Lib.hid ?_, Lib.hid ?_⟩
        · rw [hrd.out.1, HCO.out]; simp
        · rw [hrd.out.2, HCO.out]
        · have h1 := hdn.out
          have h2 := HLE.out
          simp only [List.length_append, List.length_cons, List.length_nil] at h2 ⊢
          omega
        · unfold OwnS
          rw [List.length_append]
          simpa [] using hown3.out
        · exact (hr2.out.ext (Ext.alloc w2 _)).keep (Keep.of_below hb3.out) (show R < w.heap.size by omega) (fun g _ hg => by have := hS g hg; show g < w.heap.size; omega)
        · exact hkp.out.trans ((hk2.out.mono (fun k _ hk => hk.1)).trans ((Keep.of_ext (Ext.alloc w2 _)).trans ((Keep.of_below hb3.out).mono (fun k _ hk => hk.2))))
    · have hs0 : s.1.length = 0 := by omega
      have hE := hrd.out
      rw [rEach_nil (oneText 300) hs0, List.append_nil] at hE
      have HEM := Lib.hid hE; clear hE hs0
      go_wp2_with (go_at_call 63; refine HM.out.mono ?_; rintro e w1 ⟨rfl, rfl⟩)
      rw [HQ.out]
      refine ⟨a, cap, by rw [HEM.out.1]; rfl, by rw [HEM.out.1]; exact hown.out, by rw [HEM.out.2]; exact hR.out, hkp.out.mono (fun k hk h => ⟨h, hk⟩)⟩
def fileC (L : List (FileD × (Option Addr × Nat))) : List Value := L.flatMap fun x => [.string (bs x.1.path), .bool x.1.config, .slice x.2.1 x.1.data.length x.2.2]
/-- Files in a row of the call's own, their bytes elsewhere, in blocks of the call's own. -/
def OwnF (w : World) (base : Nat) (a : Option Addr) (cap : Nat) (D : List FileD) : Prop :=
  ∃ L : List (FileD × (Option Addr × Nat)), L.map Prod.fst = D ∧ w.ownsRow base 49 3 (.slice a D.length cap) D.length (fileC L) ∧
    ∀ x ∈ L, x.1.data.length ≤ x.2.2 ∧ BytesS (fun k => base ≤ k ∧ some k ≠ (Value.slice a D.length cap).ownBlock) w x.2.1 x.1.data
theorem OwnF.nil (w : World) (base : Nat) : OwnF w base none 0 [] := ⟨[], rfl, World.ownsRow_nil _ _ _ _, by simp⟩
theorem OwnF.keep {w w' : World} {base R : Nat} {a : Option Addr} {cap : Nat} {D : List FileD} (h : OwnF w base a cap D) (k : Keep (· ≠ R) w w') (hR : R < base) : OwnF w' base a cap D := by
  obtain ⟨L, h1, h2, h3⟩ := h
  exact ⟨L, h1, ownsRow_keep h2 k (fun g _ _ hb _ => by show g ≠ R; omega), fun x hx => ⟨(h3 x hx).1, Row.keep (h3 x hx).2 (k.mono (fun g _ hg => by have := hg.1; show g ≠ R; omega))⟩⟩
theorem info_file : (Tryz.prog.info? 49).map (fun i => (i.zero, i.size, i.bytes)) = some (some (.agg #[.string ⟨#[]⟩, .bool false, .slice none 0 0]), 3, 48) := by kernel_rfl
/-- One file more. -/
theorem OwnF.add {w2 w3 : World} {base g1 cap1 : Nat} {a : Option Addr} {cap : Nat} {D : List FileD} {f : FileD} {L : List (FileD × (Option Addr × Nat))} {d : Option Addr} {q : Nat} {o : Obj}
    (h1 : L.map Prod.fst = D) (h3 : ∀ x ∈ L, x.1.data.length ≤ x.2.2 ∧ BytesS (fun k => base ≤ k ∧ some k ≠ (Value.slice a D.length cap).ownBlock) w2 x.2.1 x.1.data)
    (hq : f.data.length ≤ q) (hd : BytesS (fun k => base ≤ k ∧ some k ≠ (Value.slice a D.length cap).ownBlock) w2 d f.data)
    (hown : w3.ownsRow base 49 3 (.slice (some ⟨g1, 0, none⟩) (D.length + 1) cap1) (D.length + 1) (fileC L ++ [.string (bs f.path), .bool f.config, .slice d f.data.length q]))
    (hk : Keep (fun k => some k ≠ (Value.slice a D.length cap).ownBlock) (w2.alloc o) w3) (hat : (Value.slice a D.length cap).ownBlock = some g1 ∨ g1 = (w2.alloc o).heap.size) :
    OwnF w3 base (some ⟨g1, 0, none⟩) cap1 (D ++ [f]) := by
  have hb : ∀ {p : Option Addr} {l : By}, BytesS (fun k => base ≤ k ∧ some k ≠ (Value.slice a D.length cap).ownBlock) w2 p l → BytesS (fun k => base ≤ k ∧ some k ≠ (Value.slice (some ⟨g1, 0, none⟩) (D ++ [f]).length cap1).ownBlock) w3 p l := by
    intro p l hb
    have e1 : BytesS (fun k => base ≤ k ∧ some k ≠ (Value.slice a D.length cap).ownBlock ∧ k < (w2.alloc o).heap.size) (w2.alloc o) p l :=
      (Row.keep hb (Keep.of_ext (Ext.alloc w2 o))).mono (fun k hk hs => ⟨hs.1, hs.2, hk⟩)
    refine (Row.keep e1 (hk.mono (fun k _ hs => hs.2.1))).mono (fun k _ hs => ⟨hs.1, ?_⟩)
    show some k ≠ some g1
    rcases hat with hat | hat
    · rw [hat] at hs; exact hs.2.1
    · intro e; have := Option.some.inj e; have := hs.2.2; omega
  refine ⟨L ++ [(f, d, q)], by rw [List.map_append, h1]; rfl, ?_, ?_⟩
  · rw [List.length_append]
    simpa [fileC] using hown
  · intro x hx
    rcases List.mem_append.1 hx with hx | hx
    · exact ⟨(h3 x hx).1, hb (h3 x hx).2⟩
    · rw [List.mem_singleton.1 hx]
      exact ⟨hq, hb hd⟩
theorem ownF_lt {w : World} {base : Nat} {a : Option Addr} {cap : Nat} {D : List FileD} (h : OwnF w base a cap D) (g : Nat) (e : (Value.slice a D.length cap).ownBlock = some g) : g < w.heap.size := by
  obtain ⟨L, _, h2, _⟩ := h
  exact (World.ownsRow.lt h2 g e).2
set_option maxHeartbeats 3200000 in
theorem each_file (S : Nat → Prop) (R : Nat) (s0 : RSt) (w : World) (hS : ∀ k, S k → k < R) (h : Rd S w R s0) (hs : s0.1.length ≤ 1000000) :
    Calls Tryz.prog 42 #[.pointer (some ⟨R, 0, none⟩), .func (.func 43) #[] #[]] w
      (fun e w' => ∃ a cap, e = .returned (.slice a (rEach oneFile s0).1.length cap) ∧ OwnF w' w.heap.size a cap (rEach oneFile s0).1 ∧ Rd S w' R (rEach oneFile s0).2 ∧ Keep (· ≠ R) w w') := by
  obtain ⟨Q, hQ⟩ : ∃ Q : Ending → World → Prop, Q = (fun e w' => ∃ a cap, e = .returned (.slice a (rEach oneFile s0).1.length cap) ∧ OwnF w' w.heap.size a cap (rEach oneFile s0).1 ∧ Rd S w' R (rEach oneFile s0).2 ∧ Keep (· ≠ R) w w') := ⟨_, rfl⟩
  rw [← hQ]
  have HQ := Lib.hid hQ; clear hQ
  have hRlt := h.lt
  have H := Lib.hid h; clear h
  go_enter Tryz.func42, Tryz.ntmps42
  go_wp2_with fail
  go_loopg [5] s0.1.length (fun gk v wr => ∃ (D : List FileD) (a : Option Addr) (cap : Nat) (s : RSt), v = .slice a D.length cap ∧ Hid (gk = s.1.length) ∧ Hid ((rEach oneFile s0).1 = D ++ (rEach oneFile s).1 ∧ (rEach oneFile s0).2 = (rEach oneFile s).2) ∧ Hid (D.length + s.1.length ≤ s0.1.length) ∧
    Hid (OwnF wr w.heap.size a cap D) ∧ Hid (Rd S wr R s) ∧ Hid (Keep (fun k => k ≠ R ∧ k < w.heap.size) w wr))
  case atStart => exact ⟨[], none, 0, s0, rfl, Lib.hid rfl, Lib.hid ⟨rfl, rfl⟩, Lib.hid (by simp), Lib.hid (OwnF.nil _ _), H, Lib.hid (Keep.refl _ _)⟩
  case round =>
    obtain ⟨D, a, cap, s, rfl, hgk, hrd, hdn, hown, hR, hkp⟩ := hrel
    have hsz := hkp.out.size
    have hmore := rd_more _ _ _ _ hR.out
    have HM := Lib.hid hmore; clear hmore
    by_cases hlt : 0 < s.1.length
    · have hl := hdn.out
      obtain ⟨x, t2, ht2⟩ : ∃ x t2, oneFile s = (x, t2) := ⟨_, _, rfl⟩
      have hc := one_file S R s wr hS hR.out (by omega)
      have hcons := rEach_cons oneFile_takes hlt
      have hless := oneFile_takes s hlt
      rw [ht2] at hc hcons hless
      unfold RdF fileA at hc
      have HC := Lib.hid hc; clear hc
      have HCO := Lib.hid hcons; clear hcons
      have HLE := Lib.hid hless; clear hless ht2
      have hDb : D.length ≤ 1000000 := by omega
      go_wp2_with (first
        | (go_at_call 63; refine HM.out.mono ?_; rintro e w1 ⟨rfl, rfl⟩)
        | (go_at_call 43; refine (HC.out).mono ?_; rintro e w2 ⟨d3, q3, rfl, hq3, hd3, hr2, hk2⟩; have hz2 := hk2.size; have ow2 : OwnF w2 w.heap.size a cap D := hown.out.keep hk2 hRlt; obtain ⟨L, hL1, hL2, hL3⟩ := ow2; have hbl : BytesS (fun k => w.heap.size ≤ k ∧ some k ≠ (Value.slice a D.length cap).ownBlock) w2 d3 x.data := hd3.fresh (fun k hk => ⟨by omega, fun e => by have := (ownF_lt hown.out) k e.symm; omega⟩); have HL := Lib.hid (And.intro hL1 (And.intro hL3 (And.intro hq3 hbl))); have ow2 := Lib.hid hL2; clear hL1 hL2 hL3 hq3 hbl hd3; have hr2 := Lib.hid hr2; have hk2 := Lib.hid hk2)
        | (at_builtin; refine append_big rfl (.tmp 8) (.tmp 12) 24 49 (.agg #[.string ⟨#[]⟩, .bool false, .slice none 0 0]) 3 48 rfl Tryz.underlying24 info_file rfl (by decide) w.heap.size a D.length cap (fileC L) rfl (ownsRow_ext ow2.out (Ext.alloc _ _)) w2.heap.size 1 1 [.string (bs x.path), .bool x.config, .slice d3 x.data.length q3] _ _ rfl (by rfl) (heap_alloc_new w2 _) (by simp [Value.oneCell']) (by omega) (by omega) (by decide) ?_ (D.length + 1) rfl ?_; (simp; omega); intro g1 cap1 w3 hown3 hk3 hb3 hat3; have hadd := OwnF.add HL.out.1 HL.out.2.1 HL.out.2.2.1 HL.out.2.2.2 hown3 hk3 hat3; have hown3 := Lib.hid hadd; have hb3 := Lib.hid hb3; clear hadd hk3))
      go_roundg t2.1.length
      case measure => have h1 := HLE.out; have h2 := hgk.out; omega
      case rel =>
        refine ⟨D ++ [x], some ⟨g1, 0, none⟩, cap1, t2, by simp, Lib.hid rfl, Lib.hid ⟨?_, ?_⟩, Lib.hid ?_, Lib.hid ?_, Lib.hid ?_, Lib.hid ?_⟩
        · rw [hrd.out.1, HCO.out]; simp
        · rw [hrd.out.2, HCO.out]
        · have h1 := hdn.out
          have h2 := HLE.out
          simp only [List.length_append, List.length_cons, List.length_nil] at h2 ⊢
          omega
        · exact hown3.out
        · exact (hr2.out.ext (Ext.alloc w2 _)).keep (Keep.of_below hb3.out) (show R < w.heap.size by omega) (fun g _ hg => by have := hS g hg; show g < w.heap.size; omega)
        · exact hkp.out.trans ((hk2.out.mono (fun k _ hk => hk.1)).trans ((Keep.of_ext (Ext.alloc w2 _)).trans ((Keep.of_below hb3.out).mono (fun k _ hk => hk.2))))
    · have hs0 : s.1.length = 0 := by omega
      have hE := hrd.out
      rw [rEach_nil oneFile hs0, List.append_nil] at hE
      have HEM := Lib.hid hE; clear hE hs0
      go_wp2_with (go_at_call 63; refine HM.out.mono ?_; rintro e w1 ⟨rfl, rfl⟩)
      rw [HQ.out]
      refine ⟨a, cap, by rw [HEM.out.1]; rfl, by rw [HEM.out.1]; exact hown.out, by rw [HEM.out.2]; exact hR.out, hkp.out.mono (fun k hk h => ⟨h, hk⟩)⟩
end Go.Proofs.YtpfcofjianmeaaaGreatDoor
