/- Several texts of mine, one behind the other: PathSplit, PathMore, PathWithin, NumSpec, VerSpec, CrcSpec, ArcSpec, MapKeys, Rec, Bytes, RunAny. -/
import Derived.Test.YtefpllpichhojaaGreatDoorM5
import Derived.WalkSpells
import Derived.WalkLawsBesides
import Derived.BigGuardPart
import Derived.Deep.RegionHeld3
import Derived.StillTailTactics
import Derived.BigQuiet
import Derived.Deep.QuietTactic
import Derived.Lib.AtoiAll
import Derived.Lib.ItoaNum
import Derived.Lib.IndexMore
import Derived.KernelRfl
import Derived.Sort.KeysCollected
import Derived.Maps.AppendAt
namespace Go.Proofs.YtefpllpichhojaaGreatDoor
open Go.RowKit
theorem hasPrefix_head (l : List UInt8) (c : UInt8) : Lib.hasPrefix l [c] = decide (l.head? = some c) := by
 cases l with
 | nil => simp [Lib.hasPrefix]
 | cons x r =>
   rw [Bool.eq_iff_iff]; simp [Lib.hasPrefix, List.isPrefixOf]; exact eq_comm
theorem split_tail (s : ByteArray) (w : World) (hE : Env w) (h1 : 1 ≤ s.size) (hs : s.size ≤ 40) :
 Calls Tryz.prog 184 #[.string (s.extract 1 s.size), .string ⟨#[47]⟩] w fun e w' =>
  e = .returned (.slice (some ⟨w.heap.size, 0, none⟩) (splitOn 47 s.data.toList.tail).length (splitOn 47 s.data.toList.tail).length) ∧
    w.alloc (.cells (((splitOn 47 s.data.toList.tail).map bs).map Value.string).toArray 9) = w' := by
 have e1 : s.extract 1 s.size = bs s.data.toList.tail := by
  rw [extract_bs]; congr 1
  rw [List.take_of_length_le (by simp)]; simp
 obtain ⟨m, hm⟩ := hE.cell
 have h := Any.strings_Split { Tryz.laysM146 with } Tryz.laysM146.i9 (bs s.data.toList.tail) (bs [47]) m w (by rw [bs_size]; simp; omega) hm (by rw [bs_size]; simp)
 rw [splitB_on, countB_on, bs_data] at h
 rw [e1]
 exact h.mono fun e w' ⟨he, hw⟩ => ⟨he, hw.symm⟩
def SplitR (o : Option (List (List UInt8))) (w : World) (e : Ending) (w' : World) : Prop :=
 match o with
 | none => e = .returned (.tuple #[.slice none 0 0, .bool false]) ∧ Ext w w'
 | some L => ∃ a cap, e = .returned (.tuple #[.slice a L.length cap, .bool true]) ∧ L.length ≤ cap ∧ Strs w' a L ∧ Ext w w'
theorem toList_root {s : ByteArray} (h : (s.toList == [47]) = true) : s.data.toList = [47] := by
 have h := beq_iff_eq.1 h; rwa [ByteArray.toList_eq] at h
theorem toList_not {s : ByteArray} {l : List UInt8} (h : (s.toList == l) = false) : s.data.toList ≠ l := by
 have h := beq_eq_false_iff_ne.1 h; rwa [ByteArray.toList_eq] at h
theorem head_size {s : ByteArray} {c : UInt8} (h : s.data.toList.head? = some c) : 1 ≤ s.size := by
 cases hs : s.data.toList with
 | nil => rw [hs] at h; cases h
 | cons x r => rw [← size_len, hs]; simp
set_option maxHeartbeats 400000 in
theorem path_split (s : ByteArray) (w : World) (hE : Env w) :
 Calls Tryz.prog 163 #[.string s] w (SplitR (pathL s.data.toList) w) := by
 go_enter Tryz.func163, Tryz.ntmps163
 go_wp2_with fail
 · go_ret2; rw [toList_root ‹_›, pathL_root]; exact ⟨none, 0, rfl, Nat.le_refl _, Strs.nil _ _, Ext.refl _⟩
 · go_ret2; rw [pathL_long (by rw [size_len]; omega)]; exact ⟨rfl, Ext.refl _⟩
 · have hn := Lib.hid (toList_not (s := s) (l := [47]) ‹_›)
   refine (Tryz.strings_HasPrefix _ _ _).mono ?_
   rintro e w' ⟨rfl, rfl⟩
   rw [show (({ data := #[47] } : ByteArray).data.toList) = [47] from rfl, hasPrefix_head]
   cases hh : decide (s.data.toList.head? = some 47) with
   | false =>
     have HH := Lib.hid (of_decide_eq_false hh); clear hh
     go_wp2_with fail
     go_ret2; rw [pathL_head hn.out HH.out]; exact ⟨rfl, Ext.refl _⟩
   | true =>
     have HH := Lib.hid (of_decide_eq_true hh); clear hh
     have h1 := head_size HH.out
     go_wp2_with fail
     refine (split_tail s _ hE h1 (by omega)).mono ?_
     rintro e w1 ⟨rfl, hw1⟩
     have hx : Ext w' w1 := by rw [← hw1]; exact Ext.alloc _ _
     have hS : Strs w1 (some ⟨w'.heap.size, 0, none⟩) (splitOn 47 s.data.toList.tail) := by rw [← hw1]; exact Strs.made _ _ _
     have hL1 := splitOn_length_pos 47 s.data.toList.tail
     clear hw1
     generalize hL : splitOn 47 s.data.toList.tail = L at *
     have HL := Lib.hid hL; clear hL
     have HS := Lib.hid hS; clear hS
     by_cases h5 : 5 < L.length
     · go_wp2_with fail
       go_ret2; rw [pathL_many hn.out (by rw [HL.out]; exact h5)]; exact ⟨rfl, hx⟩
     · go_wp2_with fail
       go_loopw [25] (fun i wr => ∃ k : Nat, k ≤ L.length ∧ i = .int .i64 k ∧ Hid ((L.take k).all nameL = true) ∧ Ext w1 wr) (fun i _ => L.length - (intOf i).toNat)
       case atStart => exact ⟨0, Nat.zero_le _, rfl, Lib.hid (by simp), Ext.refl _⟩
       case round =>
        obtain ⟨k, hk, rfl, hall, hext⟩ := hrel
        by_cases hlt : k < L.length
        · have hcell := hext.cell (HS.out.at0 k hlt)
          obtain ⟨p, hp⟩ : ∃ p, p = L.getD k [] := ⟨_, rfl⟩
          rw [← hp] at hcell
          have HP := Lib.hid hp; clear hp
          cases hname : nameL p with
          | false =>
            have HN := Lib.hid hname; clear hname
            go_wp2_with (go_at_call 185; refine (name_any _ _).mono ?_; rintro e w2 ⟨rfl, hb2⟩; rw [bs_data, HN.out])
            go_ret2
            rw [pathL_bad hn.out (by rw [HL.out]; exact all_getD hlt (by rw [← HP.out]; exact HN.out))]; exact ⟨rfl, hx.trans (hext.trans hb2)⟩
          | true =>
            have HN := Lib.hid hname; clear hname
            go_wp2_with (go_at_call 185; refine (name_any _ _).mono ?_; rintro e w2 ⟨rfl, hb2⟩; rw [bs_data, HN.out])
            go_roundw
            case rel => exact ⟨k + 1, by omega, by go_num, Lib.hid (all_take_step hlt hall.out (by rw [← HP.out]; exact HN.out)), hext.trans hb2⟩
            case measure => simp [intOf]; omega
        · have hkk : k = L.length := by omega
          go_wp2
          go_ret2
          subst hkk
          have hall := hall.out
          rw [List.take_length] at hall
          rw [pathL_good hn.out (by rw [size_len]; omega) HH.out (by rw [HL.out]; omega) (by rw [HL.out]; exact hall), HL.out]
          exact ⟨_, _, rfl, Nat.le_refl _, HS.out.ext hext, hx.trans hext⟩
end Go.Proofs.YtefpllpichhojaaGreatDoor
namespace Go.Proofs.YtefpllpichhojaaGreatDoor
open Go.RowKit
theorem split_none {s : ByteArray} (w : World) (hE : Env w) (h : pathL s.data.toList = none) :
 Calls Tryz.prog 163 #[.string s] w fun e w' => e = .returned (.tuple #[.slice none 0 0, .bool false]) ∧ Ext w w' := by
 have := path_split s w hE; rw [h] at this; exact this
theorem split_some {s : ByteArray} {L : List (List UInt8)} (w : World) (hE : Env w) (h : pathL s.data.toList = some L) :
 Calls Tryz.prog 163 #[.string s] w fun e w' => ∃ a cap, e = .returned (.tuple #[.slice a L.length cap, .bool true]) ∧ L.length ≤ cap ∧ Strs w' a L ∧ Ext w w' := by
 have := path_split s w hE; rw [h] at this; exact this
theorem joinTail_glue (L : List (List UInt8)) : Lib.joinTail [47] L = glue 47 L := by simp [Lib.joinTail, glue] -- 227
theorem join_joinP (L : List (List UInt8)) : 47 :: Lib.join L [47] = joinP L := by -- 227
 cases L with
 | nil => rfl
 | cons p r => rw [Lib.join_cons, joinTail_glue, joinP_cons, glue_cons]; rfl
theorem path_join (a : Option Addr) (L : List (List UInt8)) (c : Nat) (w : World) (hS : Strs w a L) (hc : L.length ≤ c) (hN : L.length ≤ 140737488355328) (hlen : (joinP L).length ≤ 140737488355328) :
 Calls Tryz.prog 213 #[.slice a L.length c] w fun e w' => e = .returned (.string (bs (joinP L))) ∧ Ext w w' := by
 have HJ := Lib.hid (join_joinP L)
 have hjl : (Lib.join L [47]).length + 1 = (joinP L).length := by rw [← join_joinP]; simp
 have HJL := Lib.hid hjl; clear hjl
 have key : Calls Tryz.prog 227 #[.slice a L.length c, .string ⟨#[47]⟩] w fun e w' => e = .returned (.string (bs (Lib.join L [47]))) ∧ Ext w w' := by
  rcases hS with hS | ⟨g, off, rfl, hg, hcell⟩
  · subst hS
    refine (Tryz.strings_Join_none _ _ _ _).mono ?_
    rintro e w' ⟨rfl, rfl⟩
    exact ⟨ret_str rfl, Ext.refl _⟩
  · have h := Tryz.strings_Join g off c (L.map bs) ⟨#[47]⟩ w (by
        intro j x hj
        have hj' : j < L.length := by
         have := (List.getElem?_eq_some_iff.1 hj).1; simpa using this
        rw [hcell j hj']
        simp [hj'] at hj
        simp [hj', hj]) hg (by simpa using hN) (by simpa using hc) (by
         have e1 : ((L.map bs).map (·.data.toList)) = L := by simp [bs_data, Function.comp_def]
         rw [e1]; show (Lib.join L [47]).length ≤ _; have := HJL.out; omega)
    have e1 : ((L.map bs).map (·.data.toList)) = L := by simp [bs_data, Function.comp_def]
    rw [e1, List.length_map] at h
    exact h
 go_enter Tryz.func213, Tryz.ntmps213
 go_wp2_with fail
 refine key.mono ?_
 rintro e w1 ⟨rfl, hx⟩
 have hlt := bs_size (Lib.join L [47])
 have hz : (bs (Lib.join L [47])).size ≤ 140737488355328 := by rw [hlt]; have := HJL.out; omega
 clear hlt
 go_wp2_with fail
 go_ret
 exact ⟨ret_str (by rw [← HJ.out]; exact bs_append [47] _), hx⟩
theorem keepS {a b : World} {p : Addr} {v : Value} (h : Ext a b) (hc : a.cell? p = some v) : Ext a b ∧ b.cell? p = some v := ⟨h, h.cell hc⟩
def parentL (l : List UInt8) : Option (List UInt8 × List UInt8) := match pathL l with
 | some (p :: q) => some (joinP ((p :: q).take q.length), (p :: q).getD q.length [])
 | _ => none
def ParentR (o : Option (List UInt8 × List UInt8)) (w : World) (e : Ending) (w' : World) : Prop :=
 match o with
 | none => e = .returned (.tuple #[.string (bs []), .string (bs []), .bool false]) ∧ Ext w w'
 | some (d, n) => e = .returned (.tuple #[.string (bs d), .string (bs n), .bool true]) ∧ Ext w w'
theorem path_parent (s : ByteArray) (w : World) (hE : Env w) :
 Calls Tryz.prog 186 #[.string s] w (ParentR (parentL s.data.toList) w) := by
 go_enter Tryz.func186, Tryz.ntmps186
 go_wp2_with fail
 cases hp : pathL s.data.toList with
 | none =>
   have HP := Lib.hid hp; clear hp
   refine (split_none _ hE HP.out).mono ?_
   rintro e w1 ⟨rfl, hx⟩
   go_wp2_with fail
   go_ret3
   have e1 : parentL s.data.toList = none := by simp [parentL, HP.out]
   rw [e1]; exact ⟨rfl, hx⟩
 | some L =>
   have HP := Lib.hid hp; clear hp
   refine (split_some _ hE HP.out).mono ?_
   rintro e w1 ⟨a, cap, rfl, hcap, hS, hx⟩
   cases L with
   | nil =>
     go_wp2_with fail
     go_ret3
     have e1 : parentL s.data.toList = none := by simp [parentL, HP.out]
     rw [e1]; exact ⟨rfl, hx⟩
   | cons p q =>
     have HF := Lib.hid (pathL_facts HP.out)
     have hq : q.length ≤ 4 := by have := HF.out.1; simp at this; omega
     have hcap' : q.length + 1 ≤ cap := hcap
     obtain ⟨g, off, rfl, hg, hcell⟩ := hS.at (by simp)
     have hc : w1.cell? ⟨g, off + q.length, none⟩ = some (.string (bs ((p :: q).getD q.length []))) := hcell q.length (by simp)
     obtain ⟨nm, hnm⟩ : ∃ nm, nm = (p :: q).getD q.length [] := ⟨_, rfl⟩
     rw [← hnm] at hc
     have HNM := Lib.hid hnm; clear hnm
     have hT : Strs w1 (some ⟨g, off, none⟩) ((p :: q).take q.length) := by
      refine Or.inr ⟨g, off, rfl, hg, fun i hi => ?_⟩
      have hi' : i < q.length := by simpa using hi
      rw [hcell i (by simp; omega)]
      congr 3
      simp only [List.getD, List.getElem?_take, if_pos hi']
     have hTl : ((p :: q).take q.length).length = q.length := by simp
     have hJl : (joinP ((p :: q).take q.length)).length ≤ 140737488355328 := by
      have h1 := joinP_len ((p :: q).take q.length)
      have h2 := glue_take_len 47 (p :: q) q.length
      have h3 := HF.out.2.2.1
      rcases HF.out.2.2.2 with ⟨_, h4⟩ | ⟨_, _, h4, _⟩
      · cases h4
      · rw [h4] at h2; omega
     have hj := fun w' (hx : Ext w1 w') => path_join (some ⟨g, off, none⟩) ((p :: q).take q.length) cap w' (hT.ext hx) (by omega) (by omega) hJl
     rw [hTl] at hj
     generalize hTT : (p :: q).take q.length = T at *
     have HTT := Lib.hid hTT; clear hTT
     have HT := Lib.hid hTl; clear hTl hcell hS
     have HJ := Lib.hid hj; clear hj
     clear hJl hT HF
     have b1 : (0 : Int) ≤ (q.length : Int) := by omega
     have b2 : (q.length : Int) ≤ (cap : Int) := by omega
     have b3 : (q.length : Int) < (q.length : Int) + 1 := by omega
     have b4 : q.length < q.length + 1 := by omega
     go_wp2_with fail
     go_region_held3 (fun w' => Ext w1 w' ∧ w'.cell? ⟨g, off + q.length, none⟩ = some (.string (bs nm))) (first | exact keepS (Ext.refl _).drew hc | assumption | go_keep)
      ((go_at_call 213; have hS0 := ‹Ext w1 _ ∧ World.cell? _ ⟨g, off + q.length, none⟩ = some (Value.string (bs nm))›; refine (HJ.out _ hS0.1).mono ?_; rintro e w2 ⟨rfl, hx2⟩; have hS2 := keepS (hS0.1.trans hx2) hc))
     go_wp2
     go_ret3
     have e1 : parentL s.data.toList = some (joinP T, nm) := by simp [parentL, HP.out, HNM.out, HTT.out]
     rw [e1]; exact ⟨rfl, hx.trans (by assumption : Ext w1 w2 ∧ _).1⟩
end Go.Proofs.YtefpllpichhojaaGreatDoor
namespace Go.Proofs.YtefpllpichhojaaGreatDoor
open Go.RowKit
end Go.Proofs.YtefpllpichhojaaGreatDoor
namespace Go.Proofs.YtefpllpichhojaaGreatDoor
end Go.Proofs.YtefpllpichhojaaGreatDoor
namespace Go.Proofs.YtefpllpichhojaaGreatDoor
end Go.Proofs.YtefpllpichhojaaGreatDoor
namespace Go.Proofs.YtefpllpichhojaaGreatDoor
def crc1 (x : BitVec 32) : BitVec 32 := if x.getLsbD 0 then (x >>> 1) ^^^ 0xEDB88320#32 else x >>> 1
def crcK : Nat → BitVec 32 → BitVec 32
 | 0, x => x
 | n + 1, x => crcK n (crc1 x)
def crc8 (x : BitVec 32) : BitVec 32 := crcK 8 x
def bv (b : UInt8) : BitVec 32 := BitVec.ofNat 32 b.toNat
def crcB (c : BitVec 32) (b : UInt8) : BitVec 32 := crc8 (c ^^^ bv b)
def crcF (c : BitVec 32) (l : List UInt8) : BitVec 32 := l.foldl crcB c
def crc0 : BitVec 32 := 0xFFFFFFFF#32
def crcL (l : List UInt8) : BitVec 32 := ~~~ (crcF crc0 l)
theorem crcF_append (s : BitVec 32) (a b : List UInt8) : crcF s (a ++ b) = crcF (crcF s a) b := by simp [crcF]
end Go.Proofs.YtefpllpichhojaaGreatDoor
namespace Go.Proofs.YtefpllpichhojaaGreatDoor
abbrev By := List UInt8
structure NeedD where
 name : By
 way : Int
 ver : By
structure FileD where
 path : By
 config : Bool
 data : By
structure PkgD where
 name : By
 ver : By
 needs : List NeedD
 conf : List By
 files : List FileD
 units : List By
theorem le32_num4 {n : Nat} (h : n < 4294967296) (l : By) : le32 (num4 n ++ l) = n := by
 simp only [le32, byteAt, num4, List.cons_append, List.nil_append, List.getD_cons_zero, List.getD_cons_succ, UInt8.toNat_ofNat']
 omega
theorem rNum_back {most n : Nat} (h : n ≤ most) (hn : n < 4294967296) (l : By) : rNum most (num4 n ++ l, false) = (n, (l, false)) := by
 have hl : ¬ (num4 n ++ l).length < 4 := by simp [num4_len]
 unfold rNum
 simp only [if_neg hl, le32_num4 hn, if_neg (show ¬ most < n by omega)]
 rfl
theorem nameL_12 {l : By} (h : nameL l = true) : l.length ≤ 12 := by
 unfold nameL at h
 simp only [Bool.and_eq_true, decide_eq_true_eq] at h
 omega
structure RdPk where
 p : PkgD
 ok : Bool
end Go.Proofs.YtefpllpichhojaaGreatDoor
namespace Go.Proofs.YtefpllpichhojaaGreatDoor
open Go.RowKit
theorem sorted_names {D : DataW Value} {w : World} {b n : Nat} {f : By → Option Value} (h1 : w.ownsMap Tryz.prog 9 selfR b n D) (h3 : ∀ x, Maps.has D (keyS x) = (f x).isSome) {ss : List By} (hp : ss.Perm (strKeys D)) :
 (ss.mergeSort leB).Pairwise (fun x y => x ≤ y) ∧ (ss.mergeSort leB).Nodup ∧ ∀ x, x ∈ ss.mergeSort leB ↔ (f x).isSome = true := by
 obtain ⟨es, hD, hpw, _⟩ := h1.entries str_keyed
 obtain ⟨es', hD', hko⟩ := h1.keysOf
 obtain rfl : es = es' := by rw [hD] at hD'; simpa using hD'
 subst hD
 have hk : ∀ p ∈ es, ∃ x, p.1 = .string x := fun p hp => by obtain ⟨v, hv⟩ := hko p hp; obtain ⟨x, _, hx, _⟩ := Maps.keyOf_str Tryz.underlying9 hv; exact ⟨x, hx⟩
 have tr : ∀ a b c : List UInt8, leB a b = true → leB b c = true → leB a c = true := fun a b c h1 h2 => by simp only [leB, decide_eq_true_eq] at *; exact List.le_trans h1 h2
 have tot : ∀ a b : List UInt8, (leB a b || leB b a) = true := fun a b => by simp only [leB, Bool.or_eq_true, decide_eq_true_eq]; exact List.le_total a b
 have hs := List.pairwise_mergeSort tr tot ss
 have hm : (ss.mergeSort leB).Perm (strKeys (.map es)) := (List.mergeSort_perm ss _).trans hp
 have hnd : (strKeys (.map es)).Nodup := by
  show (es.map fun p => strOf p.1).Nodup
  refine List.pairwise_map.2 (List.Pairwise.imp_of_mem (fun {p q} hp' hq' hne e => hne ?_) hpw)
  obtain ⟨a, ha⟩ := hk p hp'
  obtain ⟨b, hb⟩ := hk q hq'
  rw [ha, hb] at e ⊢
  exact congrArg _ e
 refine ⟨List.Pairwise.imp (fun {a b} h => by simpa [leB] using h) hs, hm.nodup_iff.2 hnd, fun x => ?_⟩
 rw [hm.mem_iff, ← h3 x]
 show x ∈ es.map (fun p => strOf p.1) ↔ Maps.has (.map es) (.string x) = true
 rw [Maps.has_eq, List.any_eq_true, List.mem_map]
 constructor
 · rintro ⟨p, hp', rfl⟩
   obtain ⟨a, ha⟩ := hk p hp'
   exact ⟨p, hp', by rw [ha]; simp [Lit.sameKey, strOf]⟩
 · rintro ⟨p, hp', hs⟩
   obtain ⟨a, ha⟩ := hk p hp'
   rw [ha] at hs
   exact ⟨p, hp', by rw [ha]; simpa [Lit.sameKey, strOf] using hs⟩
theorem MapF.size_names {w : World} {b n : Nat} {f : By → Option Value} (h : MapF keyS w 9 b n f) {ss : List By} (hn : ss.Nodup) (hs : ∀ x, x ∈ ss ↔ (f x).isSome = true) (ty : TypeId) {t e : TypeId} (ht : Tryz.prog.underlying t = some (.map 9 e)) :
 (Builtin.len_ #[t] ty #[.map (some b)]).run Tryz.prog w = .ok (.int .i64 ss.length) w := by
 obtain ⟨D, h1, _, h3⟩ := h
 rw [h1.len ht ty]
 obtain ⟨_, hnd, hmem⟩ := sorted_names h1 (fun x => (h3 x).2) (List.Perm.refl (strKeys D))
 have hp : ((strKeys D).mergeSort leB).Perm ss := (List.perm_ext_iff_of_nodup hnd hn).2 fun x => by rw [hmem, hs]
 have h4 := hp.length_eq
 rw [(List.mergeSort_perm _ leB).length_eq] at h4
 obtain ⟨es, hD, _⟩ := h1.entries str_keyed
 have h5 : Maps.size D = (strKeys D).length := by
  subst hD
  rw [Maps.size_eq]
  show es.length = (es.map fun p => strOf p.1).length
  simp
 rw [h5, h4]
end Go.Proofs.YtefpllpichhojaaGreatDoor
namespace Go.Proofs.YtefpllpichhojaaGreatDoor
open Go.RowKit
def Rd (S : Nat → Prop) (w : World) (R : Nat) (s : RSt) : Prop :=
 ∃ a c, w.heap[R]? = some (.cells #[.slice a s.1.length c, .bool s.2] 269 (0, 0)) ∧ s.1.length ≤ c ∧ BytesS S w a s.1
theorem cell_not {S : Nat → Prop} {w : World} {R : Nat} {s : RSt} (h : Rd S w R s) {g o : Nat} {v : Value} (hv : w.cell? ⟨g, o, none⟩ = some v) (h1 : ∀ a n c, v ≠ .slice a n c) (h2 : ∀ b, v ≠ .bool b) : g ≠ R := by
 rintro rfl
 obtain ⟨a, c, hg, _⟩ := h
 unfold World.cell? at hv
 simp only [hg] at hv
 match o, hv with
 | 0, hv => simp at hv; exact h1 _ _ _ hv.symm
 | 1, hv => simp at hv; exact h2 _ hv.symm
 | o + 2, hv => simp at hv
theorem BytesS.but {S T : Nat → Prop} {w w' : World} {R : Nat} {s : RSt} {a : Option Addr} {l : List UInt8} (hR : Rd S w R s) (h : BytesS T w a l) (k : But R w w') : BytesS T w' a l := by
 rcases h with h | ⟨g, off, ha, hg, hS, hc⟩
 · exact Or.inl h
 · refine Or.inr ⟨g, off, ha, Nat.lt_of_lt_of_le hg k.size, hS, fun i hi => ?_⟩
   have hi' : i < l.length := by simpa [byteV] using hi
   have h1 := hc i hi
   rw [byteV_at hi'] at h1 ⊢
   exact k.cell (cell_not hR h1 (by intros; simp) (by intros; simp)) h1
theorem Rd.ext {S : Nat → Prop} {w w' : World} {Q : Nat} {t : RSt} (h : Rd S w Q t) (k : Ext w w') : Rd S w' Q t := by
 obtain ⟨a, c, hg, hc, hb⟩ := h
 exact ⟨a, c, k.heap hg, hc, Row.keep hb (Keep.of_ext k)⟩
theorem rd_num_bad {S : Nat → Prop} {w : World} {R : Nat} {s : RSt} (h : Rd S w R s) : But R w ((w.setCell ⟨R, 1, none⟩ (.bool true)).setCell ⟨R, 0, none⟩ (.slice none 0 0)) ∧ Rd S ((w.setCell ⟨R, 1, none⟩ (.bool true)).setCell ⟨R, 0, none⟩ (.slice none 0 0)) R ([], true) := by
 obtain ⟨a, c, hg, hc, hb⟩ := h
 refine ⟨((But.refl R w).setCell 1 _).setCell 0 _, none, 0, ?_, Nat.le_refl _, Or.inl rfl⟩
 rw [setCell_row (setCell_row hg _)]
 rfl
theorem rd_cut {S : Nat → Prop} {w : World} {R g off c k : Nat} {s : RSt} {a' : Option Addr} {c' : Nat} (hg : w.heap[R]? = some (.cells #[.slice (some ⟨g, off, none⟩) s.1.length c, .bool s.2] 269 (0, 0))) (hc : s.1.length ≤ c) (hb : BytesS S w (some ⟨g, off, none⟩) s.1) (hk : k ≤ s.1.length)
 (ha : s.1.length = k ∨ a' = some ⟨g, off + k, none⟩) (hc' : s.1.length - k ≤ c') :
 But R w (w.setCell ⟨R, 0, none⟩ (.slice a' (s.1.length - k) c')) ∧ Rd S (w.setCell ⟨R, 0, none⟩ (.slice a' (s.1.length - k) c')) R (s.1.drop k, s.2) := by
 have hB : But R w (w.setCell ⟨R, 0, none⟩ (.slice a' (s.1.length - k) c')) := (But.refl R w).setCell 0 _
 have hR : Rd S w R s := ⟨_, _, hg, hc, hb⟩
 refine ⟨hB, a', c', ?_, by simpa using hc', ?_⟩
 · rw [setCell_row hg]; simp
 · rcases ha with h | rfl
   · left; simp [byteV, h]
   · have hb2 := hb.but hR hB
     rcases hb2 with h | ⟨g', off', ha, hlt, hSg, hcell⟩
     · left
       have : s.1 = [] := by simpa [byteV] using h
       simp [byteV, this]
     · have ha := Option.some.inj ha
       obtain ⟨rfl, rfl⟩ : g = g' ∧ off = off' := by constructor <;> (cases ha; rfl)
       right
       refine ⟨g, off + k, rfl, hlt, hSg, fun i hi => ?_⟩
       have hi' : k + i < s.1.length := by simp [byteV] at hi; omega
       have := hcell (k + i) (by simpa [byteV] using hi')
       rw [← Nat.add_assoc] at this
       rw [this]
       simp [byteV, List.getElem?_drop]
theorem rd_facts {w : World} {R : Nat} {v0 v1 : Value} {t : TypeId} (hg : w.heap[R]? = some (.cells #[v0, v1] t (0, 0))) :
 w.cell? ⟨R, 0, none⟩ = some v0 ∧ w.cell? ⟨R, 1, none⟩ = some v1 ∧ w.frozen? ⟨R, 0, none⟩ = false ∧ w.frozen? ⟨R, 1, none⟩ = false := by
 refine ⟨?_, ?_, ?_, ?_⟩
 · unfold World.cell?; simp only [hg]; simp
 · unfold World.cell?; simp only [hg]; simp
 · unfold World.frozen?; simp only [hg]; simp
 · unfold World.frozen?; simp only [hg]; simp
end Go.Proofs.YtefpllpichhojaaGreatDoor
namespace Go.Proofs.YtefpllpichhojaaGreatDoor
open Go.RowKit
theorem run_append_tx {P : Program} {t tx ty e e' : TypeId} (ht : P.underlying t = some (.slice e)) (htx : P.underlying tx = some (.slice e')) (v x : Value) (w : World) :
 (Builtin.append_ #[t, tx] ty #[v, x]).run P w = (Builtin.append_ #[t, t] ty #[v, x]).run P w := by
 cases v with
 | slice base n c =>
   unfold Builtin.append_
   cases hi : P.info? e with
   | none => simp [run_underlying ht, run_underlying htx, sizeOf, typeInfo, hi]
   | some i => simp [run_underlying ht, run_underlying htx, sizeOf, typeInfo, hi]
 | _ => simp [Builtin.append_, run_underlying ht]
def OwnB (w : World) (base : Nat) (a : Option Addr) (cap : Nat) (D : List UInt8) : Prop := w.ownsRow base 5 1 (.slice a D.length cap) D.length (D.map fun b => .int .u8 (b.toNat : Int))
theorem OwnB.bytes {w : World} {base : Nat} {a : Option Addr} {cap : Nat} {D : List UInt8} (h : OwnB w base a cap D) : Bytes w a D ∧ D.length ≤ cap := by
 rcases h.2 with ⟨h1, h2⟩ | ⟨g, c, cur, h1, _, hg, hn, _⟩
 · have : D = [] := List.eq_nil_of_length_eq_zero h2
   subst this; exact ⟨Or.inl rfl, Nat.zero_le _⟩
 · simp only [Value.slice.injEq] at h1
   obtain ⟨rfl, _, rfl⟩ := h1
   refine ⟨Or.inr ⟨g, 0, rfl, (Array.getElem?_eq_some_iff.1 hg).1, fun i hi => ?_⟩, hn⟩
   rw [Nat.zero_add, World.ownsRow.cellAt h i (by omega)]
   simp [hi, byteAt]
theorem ownsRow_row {w : World} {base e n : Nat} {a : Option Addr} {cap : Nat} {xs : List Value} (h : w.ownsRow base e 1 (.slice a n cap) n xs) : Row (fun _ => True) w a xs := by
 rcases h.2 with ⟨_, h2⟩ | ⟨g, c, cur, h1, _, hg, hn, _⟩
 · have := h.1
   exact Or.inl (List.eq_nil_of_length_eq_zero (by omega))
 · simp only [Value.slice.injEq] at h1
   obtain ⟨rfl, _, rfl⟩ := h1
   refine Or.inr ⟨g, 0, rfl, (Array.getElem?_eq_some_iff.1 hg).1, trivial, fun i hi => ?_⟩
   have hi' : i < n * 1 := by have := h.1; omega
   rw [Nat.zero_add, World.ownsRow.cellAt h i hi', List.getElem?_eq_getElem hi]
theorem OwnB.fresh {w : World} {base : Nat} {a : Option Addr} {cap : Nat} {l : List UInt8} (h : OwnB w base a cap l) {S : Nat → Prop} (hS : ∀ k, base ≤ k → S k) : BytesS S w a l := by
 have hr := ownsRow_row h
 rcases hr with hr | ⟨g, off, ha, hg, _, hc⟩
 · exact Or.inl hr
 · refine Or.inr ⟨g, off, ha, hg, hS g ?_, hc⟩
   rcases h.2 with ⟨h1, h2⟩ | ⟨g', c, cur, h1, hb, _⟩
   · rw [ha] at h1; cases h1
   · rw [ha] at h1
     simp only [Value.slice.injEq, Option.some.injEq, Addr.mk.injEq] at h1
     rw [h1.1.1]; exact hb
theorem OwnB.base {w : World} {base b2 : Nat} {a : Option Addr} {cap : Nat} {D : List UInt8} (h : OwnB w base a cap D) (hb : b2 ≤ base) : OwnB w b2 a cap D :=
 ⟨h.1, h.2.imp id (fun ⟨g, c, cur, h1, h2, h3⟩ => ⟨g, c, cur, h1, Nat.le_trans hb h2, h3⟩)⟩
theorem OwnB.nil (w : World) (base : Nat) : OwnB w base none 0 [] := World.ownsRow_nil _ _ _ _
theorem OwnB.ext {w w' : World} {base : Nat} {a : Option Addr} {cap : Nat} {D : List UInt8} (h : OwnB w base a cap D) (k : Ext w w') : OwnB w' base a cap D := by
 refine ⟨h.1, ?_⟩
 rcases h.2 with h1 | ⟨g, c, cur, h1, hb, hg, r⟩
 · exact Or.inl h1
 · exact Or.inr ⟨g, c, cur, h1, hb, k.heap hg, r⟩
theorem info_byte : (Tryz.prog.info? 5).map (fun i => (i.zero, i.size, i.bytes)) = some (some (.int .u8 0), 1, 1) := by kernel_rfl
theorem run_append_of_nil {P : Program} (w : World) (base : Nat) (t ty e : TypeId) (i : TypeInfo) (size : Nat) (ht : P.underlying t = some (.slice e)) (hi : P.info? e = some i)
 (v : Value) (n : Nat) (xs : List Value) (hown : w.ownsRow base e size v n xs) (c : Nat) : (Builtin.append_ #[t, t] ty #[v, .slice none 0 c]).run P w = .ok v w := by
 rcases hown.2 with ⟨rfl, rfl⟩ | ⟨g, cap, cur, rfl, _, _, hnc, _⟩
 · simp [Builtin.append_, run_underlying ht, sizeOf, typeInfo, hi, Builtin.lenOf, Builtin.firstCells]
 · simp [Builtin.append_, run_underlying ht, sizeOf, typeInfo, hi, Builtin.lenOf, Builtin.firstCells, hnc, storeCells]
theorem append_bytes0 {w : World} {ops : Array Oper} {rest : List Oper} {o : Oper} {a : Act} {Q : Exit → Act → World → Prop} (hgd : o.guard = none) (s x : Operand) (tx : TypeId)
 (ho : o.op = .call { callee := .builtin .append, args := #[s, x], argTypes := #[50, tx] }) (htx : Tryz.prog.underlying tx = some (.slice 5))
 (base : Nat) (ad : Option Addr) (cap : Nat) (D p : List UInt8) (hs : a.eval s = .slice ad D.length cap) (hown : OwnB w base ad cap D)
 (b : Option Addr) (c : Nat) (hx : a.eval x = .slice b p.length c) (hb : Bytes w b p)
 (h63 : D.length + p.length ≤ 1099511627776) (hbase : base ≤ w.heap.size)
 (h : ∀ ad' cap' w', OwnB w' base ad' cap' (D ++ p) → Below base w w' →
  wpList Tryz.prog ops Q rest (a.put o.dst (.slice ad' (D.length + p.length) cap')) w') :
 wpList Tryz.prog ops Q (o :: rest) a w := by
 obtain ⟨i, hi0, hz, hsz, hby⟩ := info_parts info_byte
 cases b with
 | none =>
   have hp : p = [] := by
    rcases hb with hb | ⟨g, off, ha, _⟩
    · exact hb
    · cases ha
   subst hp
   refine wpList_plain hgd fun K hK => ?_
   have hr := run_append_of_nil (P := Tryz.prog) w base 50 o.type 5 i 1 Tryz.underlying50 hi0 _ D.length _ hown c
   have hr2 := (run_append_tx (ty := o.type) Tryz.underlying50 htx (.slice ad D.length cap) (.slice none 0 c) w).trans hr
   unfold Oper.wp execOp
   simp only [ho, resolve, invoke, builtin, Sem.run_bind, Sem.run_pure, Result.andThen_ok, List.map_toArray, List.map_cons, List.map_nil, hs, hx, List.length_nil, hr2]
   refine hK _ _ ?_
   have := h ad cap w (by rw [List.append_nil]; exact hown) (Below.refl _ _)
   simpa using this
 | some bd =>
   refine wpList_plain hgd fun K hK => ?_
   have hcells : ∀ j u, (p.map fun b => Value.int .u8 (b.toNat : Int))[j]? = some u → w.cell? (bd.add j) = some u := by
    intro j u hj
    rcases hb with hb | ⟨g, off, ha, _, hc⟩
    · subst hb; simp at hj
    · have ha := Option.some.inj ha
      subst ha
      have hj' : j < p.length := by
       have := (List.getElem?_eq_some_iff.1 hj).1
       simpa using this
      have e : (⟨g, off, none⟩ : Addr).add j = ⟨g, off + j, none⟩ := by
       unfold Addr.add; split
       · rename_i h0; subst h0; rfl
       · rfl
      rw [e, hc j hj']
      simp [hj'] at hj
      rw [← hj]; simp [byteAt, hj']
   obtain ⟨v', w', hr, h2, h3, h4⟩ := run_append_own (P := Tryz.prog) w base 50 o.type 5 i (.int .u8 0) 1 1 Tryz.underlying50 hi0 hz hsz hby rfl (by decide) _ D.length _ hown bd p.length c _ (by simp) hcells
    (by intro u hu; simp at hu; obtain ⟨b, _, rfl⟩ := hu; rfl) (by unfold maxLen; omega) (by omega) hbase
   have hr2 := (run_append_tx (ty := o.type) Tryz.underlying50 htx (.slice ad D.length cap) (.slice (some bd) p.length c) w).trans hr
   have hbel : Below base w w' := (Below.refl _ _).grown h3 hbase (fun k hk => (World.ownsRow.lt hown k hk).1)
   unfold Oper.wp execOp
   simp only [ho, resolve, invoke, builtin, Sem.run_bind, Sem.run_pure, Result.andThen_ok, List.map_toArray, List.map_cons, List.map_nil, hs, hx, hr2]
   refine hK _ _ ?_
   rcases h2.2 with ⟨h5, h6⟩ | ⟨g, cap', cur, rfl, hg1, hg2, hg3, hg4⟩
   · subst h5
     have hD : D = [] := List.eq_nil_of_length_eq_zero (by omega)
     have hp : p = [] := List.eq_nil_of_length_eq_zero (by omega)
     subst hD hp
     exact h none 0 w' (OwnB.nil _ _) hbel
   · refine h (some ⟨g, 0, none⟩) cap' w' ?_ hbel
     unfold OwnB
     rw [List.length_append, List.map_append]
     exact h2
theorem append_bytes {w : World} {ops : Array Oper} {rest : List Oper} {o : Oper} {a : Act} {Q : Exit → Act → World → Prop} (hgd : o.guard = none) (s x : Operand) (tx : TypeId)
 (ho : o.op = .call { callee := .builtin .append, args := #[s, x], argTypes := #[50, tx] }) (htx : Tryz.prog.underlying tx = some (.slice 5))
 (base : Nat) (ad : Option Addr) (cap : Nat) (D p : List UInt8) (k m : Nat) (hk : D.length = k) (hm : p.length = m) (hs : a.eval s = .slice ad k cap) (hown : OwnB w base ad cap D)
 (b : Option Addr) (c : Nat) (hx : a.eval x = .slice b m c) (hb : Bytes w b p)
 (h63 : k + m ≤ 1099511627776) (hbase : base ≤ w.heap.size)
 (h : ∀ ad' cap' w', OwnB w' base ad' cap' (D ++ p) → Below base w w' →
  wpList Tryz.prog ops Q rest (a.put o.dst (.slice ad' (k + m) cap')) w') :
 wpList Tryz.prog ops Q (o :: rest) a w := by
 subst hk hm
 exact append_bytes0 hgd s x tx ho htx base ad cap D p hs hown b c hx hb h63 hbase h
end Go.Proofs.YtefpllpichhojaaGreatDoor
namespace Go.Proofs.YtefpllpichhojaaGreatDoor
open Go.RowKit
theorem of_runM {α : Type} {F : α → List Value} {m : Nat} (hm : ∀ x, (F x).length = m) (hp : 0 < m) {w : World} {a : Option Addr} {L : List α} (h : RunM w a (L.flatMap F)) :
 L = [] ∨ ∃ g off, a = some ⟨g, off, none⟩ ∧ g < w.heap.size ∧ ∀ i (hi : i < L.length) r u, r < m → (F L[i])[r]? = some u → w.cell? ⟨g, off + i * m + r, none⟩ = some u := by
 rcases h with h | ⟨g, off, ha, hg, hc⟩
 · left
   have := flat_lenm hm L
   rw [h] at this
   have h0 : L.length * m = 0 := this.symm
   rcases Nat.mul_eq_zero.1 h0 with h1 | h1
   · exact List.eq_nil_of_length_eq_zero h1
   · omega
 · refine Or.inr ⟨g, off, ha, hg, fun i hi r u hr hu => ?_⟩
   have := hc (i * m + r) u (by rw [flat_at hm L i r hi hr]; exact hu)
   rwa [← Nat.add_assoc] at this
theorem row_apart {w : World} {base E size n : Nat} {v : Value} {xs : List Value} (h : w.ownsRow base E size v n xs) {k : Nat} {cur : Array Value} {E' : TypeId} {fr : Nat × Nat} (hk : w.heap[k]? = some (.cells cur E' fr)) (hE : E ≠ E') : some k ≠ v.ownBlock := by
 intro e
 rcases h.2 with ⟨h1, _⟩ | ⟨g, c, cur', h1, _, hg, _⟩
 · rw [h1] at e; cases e
 · rw [h1] at e
   have e' : k = g := Option.some.inj e
   subst e'
   rw [hg] at hk
   injection (Option.some.inj hk) with _ h2
   exact hE h2
theorem run_blk {w : World} {g : Nat} {us : List Value} {t : TypeId} (h : w.heap[g]? = some (.cells us.toArray t (0, 0))) : RunM w (some ⟨g, 0, none⟩) us :=
 Or.inr ⟨g, 0, rfl, (Array.getElem?_eq_some_iff.1 h).1, fun j u hj => by rw [Nat.zero_add]; exact blk_cell h j u (by simpa using hj)⟩
theorem addr_plus (g off n : Nat) : (⟨g, off, none⟩ : Addr).add n = ⟨g, off + n, none⟩ := by
 unfold Addr.add; split
 · rename_i h; rw [h, Nat.add_zero]
 · rfl
section
variable {ops : Array Oper} {o : Oper} {a : Act} {Q : Exit → Act → World → Prop} {W : World}
theorem wp_append_any {P : Program} {K : Act → World → Prop} (s x : Operand) (T E : TypeId) (z : Value) (size bytes : Nat)
 (ho : o.op = .call { callee := .builtin .append, args := #[s, x], argTypes := #[T, T] }) (hT : P.underlying T = some (.slice E)) (hi : (P.info? E).map (fun i => (i.zero, i.size, i.bytes)) = some (some z, size, bytes)) (hz1 : z.cells.size = size) (hsz : 0 < size)
 (base : Nat) (ad : Option Addr) (n cap : Nat) (xs : List Value) (hs : a.eval s = .slice ad n cap) (hown : W.ownsRow base E size (.slice ad n cap) n xs)
 (b : Option Addr) (m c : Nat) (ys : List Value) (hx : a.eval x = .slice b m c) (hm : ys.length = m * size) (hb : RunM W b ys) (h1 : ∀ u ∈ ys, u.oneCell' = true)
 (h63 : (n + m) * bytes ≤ 140737488355328) (hby : 0 < bytes) (hbase : base ≤ W.heap.size) (t : Nat) (ht : n + m = t)
 (h : ∀ ad' cap' w', w'.ownsRow base E size (.slice ad' t cap') t (xs ++ ys) → Keep (fun k => some k ≠ (Value.slice ad n cap).ownBlock) W w' → Below base W w' → K (a.put o.dst (.slice ad' t cap')) w') : o.wp P a W K Q := by
 obtain ⟨i, hi0, hz, hs1, hb1⟩ := info_parts hi
 subst ht
 have hmax : n + m ≤ maxLen := by
  have : n + m ≤ (n + m) * bytes := Nat.le_mul_of_pos_right _ hby
  unfold maxLen; omega
 cases b with
 | none =>
   have hp : ys = [] := by
    rcases hb with hb | ⟨g, off, ha, _⟩
    · exact hb
    · cases ha
   subst hp
   have hm0 : m = 0 := by
    rcases Nat.mul_eq_zero.1 hm.symm with h | h
    · exact h
    · omega
   subst hm0
   have hr := run_append_of_nil (P := P) W base T o.type E i size hT hi0 _ n _ hown c
   unfold Oper.wp execOp
   simp only [ho, resolve, invoke, builtin, Sem.run_bind, Sem.run_pure, Result.andThen_ok, List.map_toArray, List.map_cons, List.map_nil, hs, hx, hr]
   have := h ad cap W (by simpa using hown) (Keep.refl _ _) (Below.refl _ _)
   rw [Nat.add_zero] at this
   exact this
 | some bd =>
   have hcells : ∀ j u, ys[j]? = some u → W.cell? (bd.add j) = some u := by
    intro j u hj
    rcases hb with hb | ⟨g, off, ha, _, hc⟩
    · subst hb; simp at hj
    · have ha := Option.some.inj ha
      subst ha
      rw [addr_plus]
      exact hc j u hj
   obtain ⟨v', w', hr, h2, h3, h4⟩ := run_append_own (P := P) W base T o.type E i z size bytes hT hi0 hz hs1 hb1 hz1 hsz _ n _ hown bd m c ys hm hcells h1 hmax h63 hbase
   have hbel : Below base W w' := (Below.refl _ _).grown h3 hbase (fun k hk => (World.ownsRow.lt hown k hk).1)
   unfold Oper.wp execOp
   simp only [ho, resolve, invoke, builtin, Sem.run_bind, Sem.run_pure, Result.andThen_ok, List.map_toArray, List.map_cons, List.map_nil, hs, hx, hr]
   obtain ⟨a', c', rfl, _, _, _⟩ := run_of_row h2
   exact h a' c' w' h2 (Keep.of_grown h3) hbel
theorem wpList_append_any {P : Program} {rest : List Oper} (hgd : o.guard = none) (s x : Operand) (T E : TypeId) (z : Value) (size bytes : Nat)
 (ho : o.op = .call { callee := .builtin .append, args := #[s, x], argTypes := #[T, T] }) (hT : P.underlying T = some (.slice E)) (hi : (P.info? E).map (fun i => (i.zero, i.size, i.bytes)) = some (some z, size, bytes)) (hz1 : z.cells.size = size) (hsz : 0 < size)
 (base : Nat) (ad : Option Addr) (n cap : Nat) (xs : List Value) (hs : a.eval s = .slice ad n cap) (hown : W.ownsRow base E size (.slice ad n cap) n xs)
 (b : Option Addr) (m c : Nat) (ys : List Value) (hx : a.eval x = .slice b m c) (hm : ys.length = m * size) (hb : RunM W b ys) (h1 : ∀ u ∈ ys, u.oneCell' = true)
 (h63 : (n + m) * bytes ≤ 140737488355328) (hby : 0 < bytes) (hbase : base ≤ W.heap.size) (t : Nat) (ht : n + m = t)
 (h : ∀ ad' cap' w', w'.ownsRow base E size (.slice ad' t cap') t (xs ++ ys) → Keep (fun k => some k ≠ (Value.slice ad n cap).ownBlock) W w' → Below base W w' → wpList P ops Q rest (a.put o.dst (.slice ad' t cap')) w') : wpList P ops Q (o :: rest) a W := by
 refine wpList_plain hgd fun K hK => ?_
 exact wp_append_any s x T E z size bytes ho hT hi hz1 hsz base ad n cap xs hs hown b m c ys hx hm hb h1 h63 hby hbase t ht (fun ad' cap' w' k1 k2 k3 => hK _ _ (h ad' cap' w' k1 k2 k3))
theorem step_append_any {P : Program} {K : Act → World → Prop} {E' : Prop} (hgd : o.guard = none) (s x : Operand) (T E : TypeId) (z : Value) (size bytes : Nat)
 (ho : o.op = .call { callee := .builtin .append, args := #[s, x], argTypes := #[T, T] }) (hT : P.underlying T = some (.slice E)) (hi : (P.info? E).map (fun i => (i.zero, i.size, i.bytes)) = some (some z, size, bytes)) (hz1 : z.cells.size = size) (hsz : 0 < size)
 (base : Nat) (ad : Option Addr) (n cap : Nat) (xs : List Value) (hs : a.eval s = .slice ad n cap) (hown : W.ownsRow base E size (.slice ad n cap) n xs)
 (b : Option Addr) (m c : Nat) (ys : List Value) (hx : a.eval x = .slice b m c) (hm : ys.length = m * size) (hb : RunM W b ys) (h1 : ∀ u ∈ ys, u.oneCell' = true)
 (h63 : (n + m) * bytes ≤ 140737488355328) (hby : 0 < bytes) (hbase : base ≤ W.heap.size) (t : Nat) (ht : n + m = t)
 (h : ∀ ad' cap' w', w'.ownsRow base E size (.slice ad' t cap') t (xs ++ ys) → Keep (fun k => some k ≠ (Value.slice ad n cap).ownBlock) W w' → Below base W w' → K (a.put o.dst (.slice ad' t cap')) w') :
 if Region.wanted o (yielded ops a.tmps) = true then Oper.wp P o a W K Q else E' := by
 have hw : Region.wanted o (yielded ops a.tmps) = true := by simp [Region.wanted, hgd]
 rw [if_pos hw]
 exact wp_append_any s x T E z size bytes ho hT hi hz1 hsz base ad n cap xs hs hown b m c ys hx hm hb h1 h63 hby hbase t ht h
end
theorem runM_keep {S : Nat → Prop} {w w' : World} {a : Option Addr} {us : List Value} (h : RunM w a us) (k : Keep S w w') (hS : ∀ ad, a = some ad → S ad.block) : RunM w' a us := by
 rcases h with h | ⟨g, off, ha, hg, hc⟩
 · exact Or.inl h
 · exact Or.inr ⟨g, off, ha, Nat.lt_of_lt_of_le hg k.size, fun j u hj => k.cell (hS _ ha) (hc j u hj)⟩
theorem apart_types {w : World} {k l : Nat} {cur cur' : Array Value} {E E' : TypeId} {fr fr' : Nat × Nat} (h : w.heap[k]? = some (.cells cur E fr)) (h' : w.heap[l]? = some (.cells cur' E' fr')) (hE : E ≠ E') : k ≠ l := by
 intro e
 subst e
 rw [h'] at h
 injection (Option.some.inj h) with _ h2
 exact hE h2.symm
end Go.Proofs.YtefpllpichhojaaGreatDoor
