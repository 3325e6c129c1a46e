import Derived.Test.YtimomjheanfbmaaGreatDoorQaa
import Derived.Test.YtimomjheanfbmaaGreatDoorRae
import Derived.Test.YtimomjheanfbmaaGreatDoorRaj
set_option linter.unusedSimpArgs false
set_option linter.unusedVariables false
namespace Go.Proofs.YtimomjheanfbmaaGreatDoor
open Go.RowKit
theorem ws_cut_end {w:World} {p dp first n bb:Nat} {P:ByteArray} {rs:List ByteArray} {S Sd:List Nat} {D:Dev} (h:Ws w p dp first n bb P rs rs.length S Sd D) (hbb:cutB bb P rs rs.length≤10000000000000000) :
  Calls Tryz.prog 134 #[.pointer (some ⟨p,0,none⟩),.int .i64 ((54*bb+P.size+lenL rs:Nat):Int)] w fun e w'=>e = .returned (.int .i64 0)∧∃S',Ws w' p dp first n (cutB bb P rs rs.length) (cutP bb P rs rs.length) [] 0 S' Sd D∧Keeps (· ∈ S) w w'∧∀k∈S',k∈S∨w.heap.size≤k:=by
 obtain⟨n1,n2,n3⟩:=h.len
 have hb:=h.bbs
 have hP:=cutP_size bb P rs rs.length
 rw[List.take_length]at hP
 have hPl:(cutP bb P rs rs.length).size<54:=by rw[hP];unfold cutB;rw[List.take_length];omega
 have hC:=wal_cut_end p dp (mkLg first n bb P rs rs.length) S ((54*bb+P.size+lenL rs:Nat):Int) (plL_sorted h.rok (by omega)) (by omega) rs.length (by
   have:=plL_found (p:=54*bb+P.size) h.rok (k:=rs.length) (Nat.le_refl _)
   rw[List.take_length,show ((54*bb+P.size:Nat):Int)+lenL rs=((54*bb+P.size+lenL rs:Nat):Int) by omega]at this
   exact this) ⟨by show rs.length=(plL _ rs).length;rw[plL_length],rfl⟩ (by show _≤((54*bb+P.size+lenL (rs.take rs.length):Nat):Int);rw[List.take_length];omega) bb (by show ((54*bb:Nat):Int)=54*(bb:Int);omega) (by show ((54*bb:Nat):Int)≤_;omega) (by
   show (((plL _ rs).length-rs.length:Nat):Int)*3≤((54*bb+P.size+lenL rs:Nat):Int)-_
   rw[plL_length]
   omega) w h.log
 refine hC.mono fun e w' ⟨he,S',hl,hkp,hs⟩=>⟨he,S',?_⟩
 have hcut:=mkLg_cut (first:=first) (n:=n) (bb:=bb) (P:=P) (rs:=rs) (i0:=rs.length) (k:=rs.length) (Nat.le_refl _) (Nat.le_refl _)
 rw[List.take_length,List.drop_length,Nat.sub_self]at hcut
 rw[hcut]at hl
 have hdv:=h.has.cut (k:=rs.length) (Nat.le_refl _) (Nat.le_refl _) n3 (by omega) (by omega)
 rw[List.drop_length,Nat.sub_self]at hdv
 exact⟨⟨hl,h.dsk.keep hkp (fun j hj hj'=>h.dis j hj' hj),hdv,fun j hj hjd=>by
  rcases hs j hj with h' | h'
  · exact h.dis j h' hjd
  · have:=h.dsk.lt j hjd;omega,(fun x hx=>by cases hx),Nat.le_refl _,hPl,hbb,h.soft⟩,hkp,hs⟩
section
variable {w0 w w':World} {p dp bb:Nat} {P:ByteArray} {rs:List ByteArray} {i0:Nat} {S Sd:List Nat} {D:Dev} {av:Value} {L:List (Int×ByteArray)}
end
end Go.Proofs.YtimomjheanfbmaaGreatDoor
