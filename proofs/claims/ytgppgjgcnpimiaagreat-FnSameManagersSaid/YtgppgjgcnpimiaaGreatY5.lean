/- Texts of one proof, joined, without their blanks: Yp, Ars, Psg, Me, Vj, Mf, DcB, QB, Hp, Bo, Oo, Jo, Jm, Al, Gsm. No condition but what each statement names. -/
import Derived.Test.YtgppgjgcnpimiaaGreatY4
import Derived.Deep.LoopGhost
import Derived.Deep.DeepCutAuto
import Derived.Deep.CutBlock
namespace Go.Proofs.YtgppgjgcnpimiaaGreat
open Go.RowKit
open Go.Lib (hid)
set_option linter.unusedVariables false
set_option linter.unusedSimpArgs false
theorem ag_lead {a:Ag}(A:AgOk a):(∀ r∈a.store.roots,∀ q:Nat,r=(q:Int)->q<a.store.cells.length)/\∀ (c:Nat) (l:Cel),a.store.cells[c]?=some l->∀ r∈l.refs,∀ q:Nat,r=(q:Int)->q<a.store.cells.length:=by
 obtain⟨h1,h2⟩:=heapOk_leads (good_iff.2 A.good)
 have key:∀ r,leadsB a.store.cells r=true->∀ q:Nat,r=(q:Int)->q<a.store.cells.length:=fun r hr q e=>by
  have:=usedN_lt (leadsB_used hr (by omega))
  rw[e]at this;simpa using this
 exact⟨fun r hr=>key r (h1 r hr),fun c l hl r hr=>key r (h2 c l hl r hr)⟩
theorem fr_yes {a:Ag}{k:Nat}{l:Cel}(h:atB a.noted k=true) (hl:Hid (a.store.cells[k]?=some l)):Fp a (frTo a k++l.refs.take l.refs.length)=Fp a (frTo a (k+1)):=by rw[List.take_length,frTo_yes h hl]
theorem young_parts {a:Ag}:mDrop a.store (deadL (agKeep a))=(agYoung a).store/\agKeep a=(agYoung a).old/\List.replicate a.store.cells.length false=(agYoung a).noted:=by
 refine⟨rfl,rfl,rfl⟩
set_option maxHeartbeats 12800000 in
set_option maxRecDepth 20000 in
theorem specCollectYoung_any (w:World) (B:Nat) (v:Value) (a:Ag) (hh:RdAg w B v a) (A:AgOk a):
  Calls Tryz.prog 68 #[v] w (MadeAgN w (agYoung a)):=by
 have hh':=hh.top
 obtain⟨D,m,d,D',m',d',E,q,f,F,r,x,rfl,hC,hR,hE,hF⟩:=hh.top
 obtain⟨t1,t2,t3,t4,HN3⟩:=ag_small A
 have hst:RdH w w.heap.size (.agg #[.slice D m d,.slice D' m' d']) a.store:=⟨_,_,_,_,_,_,rfl,hC,hR⟩
 have l1:=RdB.le1 hE;have l2:=RdB.le2 hE
 have l3:=RdB.le1 hF;have l4:=RdB.le2 hF
 have l5:=hC.le1;have l6:=hC.le2
 have l7:=RdI.le1 hR;have l8:=RdI.le2 hR
 have k1:a.old.length<=a.store.cells.length:=by rw[A.len1];exact Nat.le_refl _
 have k2:a.store.cells.length<=a.old.length:=by rw[A.len1];exact Nat.le_refl _
 have k3:a.noted.length<=a.store.cells.length:=by rw[A.len2];exact Nat.le_refl _
 have k4:a.store.cells.length<=a.noted.length:=by rw[A.len2];exact Nat.le_refl _
 have HA:=hid A
 have HFl:=hid (frTo_len A)
 have HLd:=hid (ag_lead A)
 have HR3:Hid (∀ (c:Nat) (l:Cel),a.store.cells[c]?=some l->l.refs.length<=3):=hid fun c l hl=>(refs3 (good_iff.2 A.good) hl).1
 have H:=((Owns.nil w).box [.slice D m d,.slice D' m' d',.slice E q f,.slice F r x] 64).box [.slice none 0 0,.slice none 0 0,.slice none 0 0,.slice none 0 0] 64
 simp only[lnm]at H
 obtain⟨⟨a0,a1⟩,a2,a3⟩:=box4s H 1 rfl
 clear A
 go_enter Tryz.func68,Tryz.ntmps68
 go_wp2_with fail
 refine (specAgedValid_yes _ _ _ a (hh'.below H.below) HA.out).mono ?_
 rintro e w1 ⟨rfl,hb⟩
 replace H:=H.call hb
 clear hb a0 a1 a2 a3
 have H1:=H.litI [] zero_le_maxLen
 simp only[List.map_nil,List.length_nil]at H1
 have H2:Owns w.heap.size w _ [.ints (.slice (some ⟨w1.heap.size,0,none⟩) 0 0) (Fp a (a.store.roots.take 0)),.box (w.heap.size+1) [.slice none 0 0,.slice none 0 0,.slice none 0 0,.slice none 0 0] 64,.box w.heap.size [.slice D m d,.slice D' m' d',.slice E q f,.slice F r x] 64]:=H1
 clear H H1
 go_wp2_with fail
 go_loopw [4,5] (fun v4 i wr=>∃ k:Nat,i=.int .i64 k/\k<=m'/\Owns w.heap.size w wr [.ints v4 (Fp a (a.store.roots.take k)),.box (w.heap.size+1) [.slice none 0 0,.slice none 0 0,.slice none 0 0,.slice none 0 0] 64,.box w.heap.size [.slice D m d,.slice D' m' d',.slice E q f,.slice F r x] 64]) (fun _ i _=>m' - (intOf i).toNat)
 case atStart=>exact⟨0,rfl,Nat.zero_le _,H2⟩
 case round =>
  clear H2
  obtain⟨k,rfl,hk,H⟩:=hrel
  obtain⟨⟨a0,a1⟩,a2,a3⟩:=box4s H 2 rfl
  by_cases hlt:k<m'
  ·obtain⟨b,o,y,rfl,hbb,hy,p1⟩:=RdI.at_ hR hlt
   have g1:=H.ro p1 hbb
   have hS:Fp a (a.store.roots.take (k+1))=Fp a (a.store.roots.take k++[y]):=by rw[take_snoc' hy]
   have hyl:=HLd.out.1 y (List.mem_of_getElem? hy.out)
   have hql:=Fp_len a (a.store.roots.take k)
   have hqm:(a.store.roots.take k).length<=k:=by rw[List.length_take];omega
   generalize a.store.roots.take k=Q0 at *
   obtain⟨Q,hQ⟩:∃ Q,Q=Fp a Q0:=⟨_,rfl⟩
   rw[<-hQ]at H hql
   obtain⟨A3,c3,rfl,-⟩:=H.formI 0 rfl
   clear p1 hy
   by_cases y0:y<0
   ·have HT:Hid (Fp a (a.store.roots.take (k+1))=Q):=hid (by rw[hS,Fp_neg y0,<-hQ])
    have y1:¬ (0:Int)<=y:=by omega
    clear hS hQ
    go_wp2
    go_roundw
    case rel=>exact⟨k+1,by go_num,by omega,by rw[HT.out];exact H⟩
    case measure=>simp[intOf];omega
   obtain⟨qq,rfl⟩:=Int.eq_ofNat_of_zero_le (by omega:0<=y)
   have y1:(0:Int)<=(qq:Int):=by omega
   have hqq:qq<a.store.cells.length:=hyl qq rfl
   have y2:(qq:Int)<(q:Int):=by omega
   obtain⟨bE,oE,z,rfl,hbE,hz,p9⟩:=RdB.at_ hE (show qq<q by omega)
   have g9:=H.ro p9 hbE
   have hzo:=atB_at hz.out
   clear p9 hz
   cases z
   ·have HT:Hid (Fp a (a.store.roots.take (k+1))=Q++[(qq:Int)]):=hid (by rw[hS,Fp_new hzo,<-hQ])
    clear hS hzo hQ
    have H5:=H.litI [(qq:Int)] one_le_maxLen
    simp only[lml]at H5
    clear H
    go_wp2_with (at_builtin;go_loud (refine wpList_pushO rfl (.tmp 47) (.tmp 49) rfl H5 1 rfl rfl rfl (H5.owI 0 rfl).rdI (by omega) ?_;intro A4 k4 w5 H6;simp only[lsz]at H6;generalize hM:Q++[(qq:Int)]=M at *))
    have H7:=H6.erase 0
    simp only[List.eraseIdx_cons_zero]at H7
    clear H5 H6
    go_roundw
    case rel=>exact⟨k+1,by go_num,by omega,by rw[HT.out];exact H7⟩
    case measure=>simp[intOf];omega
   ·have HT:Hid (Fp a (a.store.roots.take (k+1))=Q):=hid (by rw[hS,Fp_old hzo,<-hQ])
    clear hS hzo hQ
    go_wp2
    go_roundw
    case rel=>exact⟨k+1,by go_num,by omega,by rw[HT.out];exact H⟩
    case measure=>simp[intOf];omega
  ·rw[List.take_of_length_le (by omega),<-frTo_zero a]at H
   obtain⟨A3,c3,rfl,-⟩:=H.formI 0 rfl
   go_wp2_with fail
   go_loopw [4,7] (fun v4 i wr=>∃ k:Nat,i=.int .i64 k/\k<=q/\Owns w.heap.size w wr [.ints v4 (Fp a (frTo a k)),.box (w.heap.size+1) [.slice none 0 0,.slice none 0 0,.slice none 0 0,.slice none 0 0] 64,.box w.heap.size [.slice D m d,.slice D' m' d',.slice E q f,.slice F r x] 64]) (fun _ i _=>q - (intOf i).toNat)
   case atStart=>exact⟨0,rfl,Nat.zero_le _,H⟩
   case round =>
    clear H a0 a1 a2 a3
    obtain⟨k,rfl,hk,H⟩:=hrel
    obtain⟨⟨a0,a1⟩,a2,a3⟩:=box4s H 2 rfl
    by_cases hlt:k<q
    ·obtain⟨bC,oC,l,A2,n2,c2,rfl,hbb,hx,q1,q2,q3,hrf⟩:=hC.at_ (show k<m by omega)
     obtain⟨bF,oF,zn,rfl,hbF,hzn,p1⟩:=RdB.at_ hF (show k<r by omega)
     have hat:=atB_at hzn.out
     have hf3:=HR3.out k l hx.out
     have r1:=RdI.le1 hrf;have r2:=RdI.le2 hrf
     have hfl:=HFl.out k
     have HLr:=hid (HLd.out.2 k l hx.out)
     clear q1 q2 hzn
     cases zn
     ·have HE:Hid (frTo a (k+1)=frTo a k):=hid (frTo_no hat)
      clear hat hx HLr
      go_wp2_with fail
      go_loopw [4,8] (fun v4 i wr=>i=.int .i64 0/\Owns w.heap.size w wr [.ints v4 (Fp a (frTo a k)),.box (w.heap.size+1) [.slice none 0 0,.slice none 0 0,.slice none 0 0,.slice none 0 0] 64,.box w.heap.size [.slice (some ⟨bC,oC,none⟩) m d,.slice D' m' d',.slice E q f,.slice (some ⟨bF,oF,none⟩) r x] 64]) (fun _ _ _=>0)
      case atStart=>exact⟨rfl,H⟩
      case round =>
       clear H a0 a1 a2 a3
       obtain⟨rfl,H⟩:=hrel
       obtain⟨⟨a0,a1⟩,a2,a3⟩:=box4s H 2 rfl
       have g1:=H.ro p1 hbF
       have g3:=H.ro q3 hbb
       clear p1 q3
       by_cases hn2:0<n2
       ·go_wp2
        go_roundw
        case rel=>exact⟨k+1,by go_num,by omega,by rw[HE.out];exact H⟩
        case measure=>simp[intOf];omega
       ·go_wp2
        go_roundw
        case rel=>exact⟨k+1,by go_num,by omega,by rw[HE.out];exact H⟩
        case measure=>simp[intOf];omega
     ·have HE:=hid (fr_yes hat hx)
      rw[show frTo a k=frTo a k++l.refs.take 0 by simp]at H
      obtain⟨A3,c3,rfl,-⟩:=H.formI 0 rfl
      clear hat hx
      go_wp2_with fail
      go_loopw [4,8] (fun v4 i wr=>∃ j:Nat,i=.int .i64 j/\j<=n2/\Owns w.heap.size w wr [.ints v4 (Fp a (frTo a k++l.refs.take j)),.box (w.heap.size+1) [.slice none 0 0,.slice none 0 0,.slice none 0 0,.slice none 0 0] 64,.box w.heap.size [.slice (some ⟨bC,oC,none⟩) m d,.slice D' m' d',.slice E q f,.slice (some ⟨bF,oF,none⟩) r x] 64]) (fun _ i _=>n2 - (intOf i).toNat)
      case atStart=>exact⟨0,rfl,Nat.zero_le _,H⟩
      case round =>
       clear H a0 a1 a2 a3
       obtain⟨j,rfl,hj,H⟩:=hrel
       obtain⟨⟨a0,a1⟩,a2,a3⟩:=box4s H 2 rfl
       have g1:=H.ro p1 hbF
       have g3:=H.ro q3 hbb
       by_cases hlj:j<n2
       ·obtain⟨b,o,y,rfl,hb2,hy,p2⟩:=RdI.at_ hrf hlj
        have g4:=H.ro p2 hb2
        have hS:Fp a (frTo a k++l.refs.take (j+1))=Fp a ((frTo a k++l.refs.take j)++[y]):=by rw[take_snoc' hy,List.append_assoc]
        have hyl:=HLr.out y (List.mem_of_getElem? hy.out)
        have hql:=Fp_len a (frTo a k++l.refs.take j)
        have hqm:(frTo a k++l.refs.take j).length<=4+3*k+j:=by rw[List.length_append,List.length_take];omega
        generalize frTo a k++l.refs.take j=Q0 at *
        obtain⟨Q,hQ⟩:∃ Q,Q=Fp a Q0:=⟨_,rfl⟩
        rw[<-hQ]at H hql
        obtain⟨A3,c3,rfl,-⟩:=H.formI 0 rfl
        clear p1 p2 q3 hy
        by_cases y0:y<0
        ·have HT:Hid (Fp a (frTo a k++l.refs.take (j+1))=Q):=hid (by rw[hS,Fp_neg y0,<-hQ])
         have y1:¬ (0:Int)<=y:=by omega
         clear hS hQ
         go_wp2
         go_roundw
         case rel=>exact⟨j+1,by go_num,by omega,by rw[HT.out];exact H⟩
         case measure=>simp[intOf];omega
        obtain⟨qq,rfl⟩:=Int.eq_ofNat_of_zero_le (by omega:0<=y)
        have y1:(0:Int)<=(qq:Int):=by omega
        have hqq:qq<a.store.cells.length:=hyl qq rfl
        have y2:(qq:Int)<(q:Int):=by omega
        obtain⟨bE,oE,z,rfl,hbE,hz,p9⟩:=RdB.at_ hE (show qq<q by omega)
        have g9:=H.ro p9 hbE
        have hzo:=atB_at hz.out
        clear p9 hz
        cases z
        ·have HT:Hid (Fp a (frTo a k++l.refs.take (j+1))=Q++[(qq:Int)]):=hid (by rw[hS,Fp_new hzo,<-hQ])
         clear hS hzo hQ
         have H5:=H.litI [(qq:Int)] one_le_maxLen
         simp only[lml]at H5
         clear H
         go_wp2_with (at_builtin;go_loud (refine wpList_pushO rfl (.tmp 97) (.tmp 99) rfl H5 1 rfl rfl rfl (H5.owI 0 rfl).rdI (by omega) ?_;intro A4 k4 w5 H6;simp only[lsz]at H6;generalize hM:Q++[(qq:Int)]=M at *))
         have H7:=H6.erase 0
         simp only[List.eraseIdx_cons_zero]at H7
         clear H5 H6
         go_roundw
         case rel=>exact⟨j+1,by go_num,by omega,by rw[HT.out];exact H7⟩
         case measure=>simp[intOf];omega
        ·have HT:Hid (Fp a (frTo a k++l.refs.take (j+1))=Q):=hid (by rw[hS,Fp_old hzo,<-hQ])
         clear hS hzo hQ
         go_wp2
         go_roundw
         case rel=>exact⟨j+1,by go_num,by omega,by rw[HT.out];exact H⟩
         case measure=>simp[intOf];omega
       ·rw[show j=l.refs.length by omega,HE.out]at H
        clear p1 q3
        go_wp2
        go_roundw
        case rel=>exact⟨k+1,by go_num,by omega,H⟩
        case measure=>simp[intOf];omega
    ·rw[show k=a.store.cells.length by omega,frTo_end]at H
     have hfl:=HFl.out a.store.cells.length
     rw[frTo_end]at hfl
     have hq2:=Fp_len a (agFrom a)
     have HY0:=hid (YI.start HA.out (fun r=>Fp_mem a (agFrom a) r))
     obtain⟨fr0,hfr0⟩:∃ fr0,fr0=Fp a (agFrom a):=⟨_,rfl⟩
     rw[<-hfr0]at H hq2 HY0
     obtain⟨A3,c3,rfl,-⟩:=H.formI 0 rfl
     have hb1:fr0.length<=124:=by omega
     clear hfr0 hfl hq2
     have H1:=H.litB [] zero_le_maxLen
     simp only[List.map_nil,List.length_nil]at H1
     obtain⟨⟨b0,b1⟩,b2,b3⟩:=box4s H1 3 rfl
     clear H
     go_wp2_with (at_builtin;go_loud (refine wpList_pushBO rfl (.tmp 101) (.tmp 103) rfl H1 0 rfl rfl rfl (hE.below H1.below) (by simp;omega) ?_;intro A4 k4 w5 H6;simp only[lsz,List.nil_append]at H6))
     have hfz:=falses_le a.old
     have hqe:a.old.length=q:=by omega
     have HR6:=H6.owB 0 rfl
     have eR:∀ (v:Value) (xs:List Bool),xs.length=q->OB.bools v xs=OB.rowT v q xs:=fun v xs h=>(rowT_bools h).symm
     rw[hqe,eR _ _ hqe]at H6
     clear a0 a1 a2 a3 b0 b1 b2 b3 eR
     go_wp2_with fail
     clear hlt hk
     go_loopg [4,11] (4*falses a.old+fr0.length) (fun gk v4 i wr=>∃ (k:Nat) (kp:List Bool) (fr:List Int),i=.int .i64 k/\k<=fr.length/\gk=4*falses kp+(fr.length - k)/\Hid (YI a kp fr k)/\fr.length+3*falses kp<=300/\Owns w.heap.size w wr [.rowT (.slice A4 q k4) q kp,.ints v4 fr,.box (w.heap.size+1) [.slice none 0 0,.slice none 0 0,.slice none 0 0,.slice none 0 0] 64,.box w.heap.size [.slice D m d,.slice D' m' d',.slice E q f,.slice F r x] 64])
     case atStart=>exact⟨0,a.old,fr0,rfl,Nat.zero_le _,by omega,HY0,by omega,H6⟩
     case round =>
      clear H6 HY0
      obtain⟨k,kp,fr,rfl,hk,rfl,HY,hbd,H⟩:=hrel
      obtain⟨A5,c5,rfl,-⟩:=H.formI 1 rfl
      obtain⟨⟨a0,a1⟩,a2,a3⟩:=box4s H 3 rfl
      by_cases hlt:k<fr.length
      ·obtain⟨xn,hxn⟩:∃ xn,Hid (fr[k]?=some xn):=⟨_,hid (List.getElem?_eq_getElem hlt)⟩
       obtain⟨n0,n1,-⟩:=HY.out.mem xn (List.mem_of_getElem? hxn.out)
       obtain⟨n,rfl⟩:=Int.eq_ofNat_of_zero_le n0
       simp only[Int.toNat_natCast]at n1
       have i3:(0:Int)<=(n:Int):=by omega
       have i4:(n:Int)<(q:Int):=by omega
       have hkl:=HY.out.len
       obtain⟨bI,oI,rfl,hbI,y0⟩:=((H.owI 1 rfl).rdI).rd (by omega)
       have y1:=y0 k (.int .i64 n) (by rw[List.getElem?_map,hxn.out];rfl)
       obtain⟨gV,cV,e,hv1,hv2,hv3,hv4⟩:=H.rowAt 0 rfl (by omega)
       simp only[Value.slice.injEq,true_and]at e
       obtain⟨rfl,rfl⟩:=e
       obtain⟨z,hz⟩:∃ z,Hid (kp[n]?=some z):=⟨_,hid (List.getElem?_eq_getElem (by omega))⟩
       obtain⟨m0,mf⟩:=H.elem 0 rfl (j:=n) (u:=.bool z) (by rw[List.getElem?_map,hz.out];rfl)
       have hat:=atB_at hz.out
       clear y0 hv1 hv2 hv3 hv4 n0
       cases z
       ·have hfs:=falses_less (kp:=kp) (n:=n) (by omega) hat
        obtain⟨bC,oC,l,A2,n2,c2,rfl,hbb,hx,q1,q2,q3,hrf⟩:=hC.at_ (show n<m by omega)
        have g3:=H.ro q3 hbb
        have hf3:=HR3.out n l hx.out
        have r1:=RdI.le1 hrf;have r2:=RdI.le2 hrf
        have HLr:=hid (HLd.out.2 n l hx.out)
        have HNo:Hid (atB a.old n=false):=hid (by cases e:atB a.old n with|false=>rfl|true=>rw[HY.out.old n e]at hat;cases hat)
        have HT:=HY.out.take hxn.out hx.out
        have hkn:atB (kp.set n true) n=true:=by rw[atB_set (by omega)];simp
        have H5:=H.putRowT 0 rfl n true
        simp only[List.set_cons_zero]at H5
        obtain⟨kp',hkp⟩:∃ kp',kp'=kp.set n true:=⟨_,rfl⟩
        rw[<-hkp]at HT H5 hfs hkn
        have HKN:=hid hkn
        have HT0:Hid (YM a kp' fr (k+1) n (l.refs.drop 0)):=hid (by rw[List.drop_zero];exact HT)
        clear q1 q2 hz hat hkl HT hkp hkn H HY
        go_wp2_with fail
        clear a0 a1 a2 a3 g3 m0 mf y1
        go_loopw [4,13] (fun v4 i wr=>∃ (j:Nat) (fr':List Int),i=.int .i64 j/\j<=n2/\Hid (YM a kp' fr' (k+1) n (l.refs.drop j))/\fr'.length<=fr.length+j/\k+1<=fr'.length/\Owns w.heap.size w wr [.rowT (.slice (some ⟨gV,0,none⟩) q k4) q kp',.ints v4 fr',.box (w.heap.size+1) [.slice none 0 0,.slice none 0 0,.slice none 0 0,.slice none 0 0] 64,.box w.heap.size [.slice (some ⟨bC,oC,none⟩) m d,.slice D' m' d',.slice E q f,.slice F r x] 64]) (fun _ i _=>n2 - (intOf i).toNat)
        case atStart=>exact⟨0,fr,rfl,Nat.zero_le _,HT0,by omega,by omega,H5⟩
        case round =>
         clear H5 HT0
         obtain⟨j,fr',rfl,hj,HT,hb2,hb3,H⟩:=hrel
         obtain⟨A5,c5,rfl,-⟩:=H.formI 1 rfl
         obtain⟨⟨a0,a1⟩,a2,a3⟩:=box4s H 3 rfl
         have g3:=H.ro q3 hbb
         by_cases hlj:j<n2
         ·obtain⟨b,o,y,rfl,hb4,hy,p2⟩:=RdI.at_ hrf hlj
          have g4:=H.ro p2 hb4
          have hyl:=HLr.out y (List.mem_of_getElem? hy.out)
          have HMy:=hid (List.mem_of_getElem? hy.out)
          have HD:Hid (YM a kp' fr' (k+1) n (y::l.refs.drop (j+1))):=hid (by rw[<-drop_next hy];exact HT.out)
          clear p2 hy HT
          by_cases y0:y<0
          ·have HN:=hid (HD.out.neg (.inl y0))
           have y1:¬ (0:Int)<=y:=by omega
           clear q3
           go_wp2
           go_roundw
           case rel=>exact⟨j+1,fr',by go_num,by omega,HN,by omega,by omega,H⟩
           case measure=>simp[intOf];omega
          obtain⟨qq,rfl⟩:=Int.eq_ofNat_of_zero_le (by omega:0<=y)
          have y1:(0:Int)<=(qq:Int):=by omega
          have hqq:qq<a.store.cells.length:=hyl qq rfl
          have y2:(qq:Int)<(q:Int):=by omega
          have hkl:=HD.out.len
          obtain⟨z,hz⟩:∃ z,Hid (kp'[qq]?=some z):=⟨_,hid (List.getElem?_eq_getElem (by omega))⟩
          obtain⟨m0,mf⟩:=H.elem 0 rfl (j:=qq) (u:=.bool z) (by rw[List.getElem?_map,hz.out];rfl)
          have hat:=atB_at hz.out
          clear hz hkl
          cases z
          ·have HN:=hid (HD.out.push HA.out HKN.out HNo.out hx.out HMy.out hat hb3)
           have hQl:(fr'++[(qq:Int)]).length=fr'.length+1:=by simp
           obtain⟨M',hM'⟩:∃ M',M'=fr'++[(qq:Int)]:=⟨_,rfl⟩
           rw[<-hM']at HN hQl
           clear hat q3 HD
           have H5:=H.litI [(qq:Int)] one_le_maxLen
           simp only[lml]at H5
           clear H
           go_wp2_with (at_builtin;go_loud (refine wpList_pushO rfl (.tmp 153) (.tmp 155) rfl H5 2 rfl rfl rfl (H5.owI 0 rfl).rdI (by omega) ?_;intro A4 k4 w5 H6;simp only[lsz]at H6;generalize hM:fr'++[(qq:Int)]=M at H6))
           have H7:=H6.erase 0
           simp only[List.eraseIdx_cons_zero]at H7
           clear H5 H6
           rw[<-hM']at hM
           subst hM
           clear hM'
           go_roundw
           case rel=>exact⟨j+1,by go_num,by omega,M',HN,by omega,by omega,H7⟩
           case measure=>simp[intOf];omega
          ·have HN:=hid (HD.out.neg (.inr (by rw[Int.toNat_natCast];exact hat)))
           clear hat q3
           go_wp2
           go_roundw
           case rel=>exact⟨j+1,fr',by go_num,by omega,HN,by omega,by omega,H⟩
           case measure=>simp[intOf];omega
         ·have e2:l.refs.drop j=[]:=List.drop_eq_nil_of_le (by omega)
          rw[e2]at HT
          have HF:=hid HT.out.fin
          clear e2 q3 HT
          go_wp2_with fail
          go_roundg (4*falses kp'+(fr'.length - (k+1)))
          case measure=>omega
          case rel=>exact⟨k+1,kp',fr',by go_num,by omega,rfl,HF,by omega,H⟩
       ·have HK:=hid (HY.out.skip hxn.out (by rw[Int.toNat_natCast];exact hat))
        clear hat hz
        go_wp2_with fail
        go_roundg (4*falses kp+(fr.length - (k+1)))
        case measure=>omega
        case rel=>exact⟨k+1,kp,fr,by go_num,by omega,rfl,HK,by omega,H⟩
      ·have HK:Hid (kp=agKeep a):=hid (HY.out.ends (by omega))
       have hkl:kp.length=q:=by have:=HY.out.len;omega
       have H5:=H.erase 1
       simp only[List.eraseIdx_cons_succ,List.eraseIdx_cons_zero]at H5
       have hkq:kp.length<=q:=by omega
       have hqk:q<=kp.length:=by omega
       have HKl:=hid hkl
       clear HY hbd H hkl hfz
       have H6:=H5.litB [] zero_le_maxLen
       simp only[List.map_nil,List.length_nil]at H6
       clear H5
       go_wp2_with fail
       clear hlt hk a0 a1 a2 a3
       go_loopw [15,16,17] (fun v15 v16 i wr=>∃ (v:Value) (k:Nat) (f0:Nat),v15=v/\i=.int .i64 k/\k<=q/\f0<=k/\v16=.int .i64 f0/\Owns w.heap.size w wr [.bools v (deadL (kp.take k)),.rowT (.slice A4 q k4) q kp,.box (w.heap.size+1) [.slice none 0 0,.slice none 0 0,.slice none 0 0,.slice none 0 0] 64,.box w.heap.size [.slice D m d,.slice D' m' d',.slice E q f,.slice F r x] 64]) (fun _ _ i _=>q - (intOf i).toNat)
       case atStart=>exact⟨_,0,0,rfl,rfl,Nat.zero_le _,Nat.le_refl _,rfl,H6⟩
       case round =>
        clear H6
        obtain⟨v,k,f0,hv,rfl,hk,hf0,rfl,H⟩:=hrel
        obtain rfl:=hv.symm
        obtain⟨⟨a0,a1⟩,a2,a3⟩:=box4s H 3 rfl
        by_cases hlt:k<q
        ·obtain⟨z,hx⟩:∃ z,Hid (kp[k]?=some z):=⟨_,hid (List.getElem?_eq_getElem (by omega))⟩
         obtain⟨gV,cV,e,hv1,hv2,hv3,hv4⟩:=H.rowAt 1 rfl (by omega)
         simp only[Value.slice.injEq,true_and]at e
         obtain⟨rfl,rfl⟩:=e
         obtain⟨m0,mf⟩:=H.elem 1 rfl (j:=k) (u:=.bool z) (by rw[List.getElem?_map,hx.out];rfl)
         obtain⟨bC,oC,l,A2,n2,c2,rfl,hbb2,hxl,u1,-,-,-⟩:=hC.at_ (show k<m by omega)
         have u2:=H.ro u1 hbb2
         have HD:=hid (deadL_snoc hx)
         have HDL:Hid ((deadL (kp.take k)).length=k):=hid (by simp[deadL];omega)
         clear hv1 hv2 hv3 hv4 mf
         generalize l.used=u at *
         cases z
         ·cases u
          ·skip
           have H3:=H.litB [true] one_le_maxLen
           simp only[lml]at H3
           go_wp2_with (at_builtin;go_loud (refine wpList_pushBO rfl (.tmp 164) (.tmp 170) rfl H3 1 rfl rfl rfl (rdB_new' _ _) (by rw[HDL.out];simp;omega) ?_;intro A3 k3 w3 H4;simp only[lsz]at H4;obtain⟨⟨e0,e1⟩,e2,e3⟩:=box4s H4 4 rfl;have u3:=H4.ro u1 hbb2;obtain⟨mz2,-⟩:=H4.elem 2 rfl (j:=k) (u:=.bool false) (by rw[List.getElem?_map,hx.out];rfl)))
           have H5:=H4.erase 0
           simp only[List.eraseIdx_cons_zero]at H5
           go_roundw
           case rel =>
            refine⟨_,_,_,⟨k+1,rfl,by omega,f0,by omega,rfl,?_⟩,rfl,rfl,by go_num⟩
            rw[HD.out];simpa using H5
           case measure=>simp[intOf];omega
          ·skip
           have H3:=H.litB [true] one_le_maxLen
           simp only[lml]at H3
           go_wp2_with (at_builtin;go_loud (refine wpList_pushBO rfl (.tmp 164) (.tmp 170) rfl H3 1 rfl rfl rfl (rdB_new' _ _) (by rw[HDL.out];simp;omega) ?_;intro A3 k3 w3 H4;simp only[lsz]at H4;obtain⟨⟨e0,e1⟩,e2,e3⟩:=box4s H4 4 rfl;have u3:=H4.ro u1 hbb2;obtain⟨mz2,-⟩:=H4.elem 2 rfl (j:=k) (u:=.bool false) (by rw[List.getElem?_map,hx.out];rfl)))
           have H5:=H4.erase 0
           simp only[List.eraseIdx_cons_zero]at H5
           go_roundw
           case rel =>
            refine⟨_,_,_,⟨k+1,rfl,by omega,f0+1,by omega,rfl,?_⟩,rfl,by go_num,by go_num⟩
            rw[HD.out];simpa using H5
           case measure=>simp[intOf];omega
         ·skip
          have H3:=H.litB [false] one_le_maxLen
          simp only[lml]at H3
          go_wp2_with (at_builtin;go_loud (refine wpList_pushBO rfl (.tmp 164) (.tmp 170) rfl H3 1 rfl rfl rfl (rdB_new' _ _) (by rw[HDL.out];simp;omega) ?_;intro A3 k3 w3 H4;simp only[lsz]at H4;obtain⟨⟨e0,e1⟩,e2,e3⟩:=box4s H4 4 rfl;have u3:=H4.ro u1 hbb2;obtain⟨mz2,-⟩:=H4.elem 2 rfl (j:=k) (u:=.bool true) (by rw[List.getElem?_map,hx.out];rfl)))
          have H5:=H4.erase 0
          simp only[List.eraseIdx_cons_zero]at H5
          go_roundw
          case rel =>
           refine⟨_,_,_,⟨k+1,rfl,by omega,f0,by omega,rfl,?_⟩,rfl,rfl,by go_num⟩
           rw[HD.out];simpa using H5
          case measure=>simp[intOf];omega
        ·have e1:kp.take k=agKeep a:=by rw[<-HK.out,List.take_of_length_le (by omega)]
         rw[e1,rowT_bools HKl.out,HK.out]at H
         have HQ:=hid (young_parts (a:=a))
         obtain⟨Y,hY⟩:∃ Y,Y=agYoung a:=⟨_,rfl⟩
         rw[<-hY]at HQ
         have hdl:(deadL (agKeep a)).length=a.store.cells.length:=by simp[deadL,agKeep_len]
         obtain⟨ds,hds⟩:∃ ds,ds=deadL (agKeep a):=⟨_,rfl⟩
         rw[<-hds]at H HQ hdl
         rw[HQ.out.2.1]at H
         have HDl:=hid hdl
         have hy1:Y.old.length=q:=by rw[<-HQ.out.2.1,<-HK.out,HKl.out]
         have HYl:=hid hy1
         have HY:=hid hY
         have HNn:Hid (List.replicate q false=Y.noted):=hid (by rw[<-HQ.out.2.2,show q=a.store.cells.length by omega])
         clear e1 hds hdl hY hy1 HK HKl
         obtain⟨A5,c5,rfl,-⟩:=H.formB 0 rfl
         go_wp2_with fail
         have HX:=H.drew
         clear H a0 a1 a2 a3
         obtain⟨⟨a0,a1⟩,-,-⟩:=box4s HX 3 rfl
         refine wp_region_tree (fun w'=>w'.cell? ⟨w.heap.size,0,none⟩=some (.slice D m d)/\w'.cell? ⟨w.heap.size,1,none⟩=some (.slice D' m' d')) 12 [] (.take 0 (.take 1 (.take 2 (.take 4 (.take 5 (.take 6 (.take 9 (.alt 3 (.alt 7 (.take 8 (.alt 10 (.take 11 (.done)) (.stop))) (.stop)) (.alt 7 (.alt 3 (.take 8 (.alt 10 (.take 11 (.done)) (.stop))) (.stop)) (.stop)))))))))) (by kernel_rfl) (by kernel_rfl) (by kernel_rfl) (⟨a0,a1⟩) ?_
         simp only[fillT,lgz,Nat.reduceBEq]
         repeat first|(with_reducible apply po_take;(·(go_simp;done));(·(intro w' hS';(try dsimp only at hS');go_simp;try with_reducible rfl));simp only[lpa])|(with_reducible apply po_skip;(·(go_simp;done));simp only[lpa])
         with_reducible refine po_run ?_ (fun K hK=>?_) ?_
         ·(go_simp;done)
         ·
          go_simp
          have rV:=(HX.owB 0 rfl).rdB
          refine (l11Drop_any _ _ _ _ a.store _ _ _ ds (hst.below HX.below) rV HDl.out (by omega) (by omega) HN3.out).mono ?_
          rintro e w6 ⟨cv,rvs,rv,rfl,K2⟩
          rw[HQ.out.1]at K2
          replace HX:=HX.merge K2
          simp only[lca]at HX
          obtain⟨C,kC,rfl,-⟩:=HX.formC 0 rfl
          obtain⟨R,kR,rfl,-⟩:=HX.formI 1 rfl
          clear a0 a1 K2 rV
          obtain⟨⟨a0,a1⟩,-,-⟩:=box4s HX 5 rfl
          refine hK.out _ _ (.inr (⟨a0,a1⟩)) ?_
          clear hK K
          with_reducible refine po_last ?_ (fun K hK=>?_)
          ·(go_simp;done)
          go_simp
          refine upon_makeB HX _ _ _ _ q rfl rfl (by omega) ?_
          intro gN w7 HY2 hb2
          rw[HNn.out]at HY2
          replace HX:=HY2
          replace a0:=keept a0 hb2
          replace a1:=keept a1 hb2
          clear HY2 hb2
          refine hK.out _ _ (.inr (⟨a0,a1⟩)) ?_
          clear hK K
          repeat first|(with_reducible apply po_take;(·(go_simp;done));(·(intro w' hS';(try dsimp only at hS');go_simp;try with_reducible rfl));simp only[lpa])|(with_reducible apply po_skip;(·(go_simp;done));simp only[lpa])
          with_reducible refine po_last ?_ (fun K hK=>?_)
          ·(go_simp;done)
          have HW:=HX
          obtain⟨y0,y1,y2,y3,y4,y5,y6,y7⟩:=box4 HW 5 rfl
          go_simp
          have HZ:=(((HW.putBox 5 rfl 0 (.slice C Y.store.cells.length kC)).putBox 5 rfl 1 (.slice R Y.store.roots.length kR)).putBox 5 rfl 2 (.slice A4 q k4)).putBox 5 rfl 3 (.slice (some ⟨gN,0,none⟩) q q)
          simp only[lsz]at HZ
          clear a0 a1
          obtain⟨⟨a0,a1⟩,-,-⟩:=box4s HZ 6 rfl
          refine hK.out _ _ (.inr (⟨a0,a1⟩)) ?_
          clear hK K
          repeat first|(with_reducible apply po_take;(·(go_simp;done));(·(intro w' hS';(try dsimp only at hS');go_simp;try with_reducible rfl));simp only[lpa])|(with_reducible apply po_skip;(·(go_simp;done));simp only[lpa])
          refine po_done ?_
          obtain⟨⟨z0,z1⟩,z2,z3⟩:=box4s HZ 5 rfl
          have HF:Hid (MadeAgN w (agYoung a) (.returned (.tuple #[.agg #[.slice C Y.store.cells.length kC,.slice R Y.store.roots.length kR,.slice A4 q k4,.slice (some ⟨gN,0,none⟩) q q],.int .i64 f0])) _):=hid (by rw[<-HY.out];exact⟨_,rvs,_,_,_,_,rfl,HZ.order [1,2,4,0] (by decide) rfl⟩)
          clear HZ HW HX a0 a1 y0 y1 y2 y3 y4 y5 y6 y7
          go_wp2
          exact bodyPost_ret (by simp[results,Tryz.results68,go_sem,z0,z1,z2,z3]) rfl HF.out
         with_reducible refine po_last ?_ (fun K hK=>?_)
         ·(go_simp;done)
         go_simp
         refine upon_makeB HX _ _ _ _ q rfl rfl (by omega) ?_
         intro gN w7 HY2 hb2
         rw[HNn.out]at HY2
         replace HX:=HY2
         replace a0:=keept a0 hb2
         replace a1:=keept a1 hb2
         clear HY2 hb2
         refine hK.out _ _ (.inr (⟨a0,a1⟩)) ?_
         clear hK K
         with_reducible refine po_last ?_ (fun K hK=>?_)
         ·(go_simp;done)
         go_simp
         have rV:=(HX.owB 1 rfl).rdB
         refine (l11Drop_any _ _ _ _ a.store _ _ _ ds (hst.below HX.below) rV HDl.out (by omega) (by omega) HN3.out).mono ?_
         rintro e w6 ⟨cv,rvs,rv,rfl,K2⟩
         rw[HQ.out.1]at K2
         replace HX:=HX.merge K2
         simp only[lca]at HX
         obtain⟨C,kC,rfl,-⟩:=HX.formC 0 rfl
         obtain⟨R,kR,rfl,-⟩:=HX.formI 1 rfl
         clear a0 a1 K2 rV
         obtain⟨⟨a0,a1⟩,-,-⟩:=box4s HX 6 rfl
         refine hK.out _ _ (.inr (⟨a0,a1⟩)) ?_
         clear hK K
         repeat first|(with_reducible apply po_take;(·(go_simp;done));(·(intro w' hS';(try dsimp only at hS');go_simp;try with_reducible rfl));simp only[lpa])|(with_reducible apply po_skip;(·(go_simp;done));simp only[lpa])
         with_reducible refine po_last ?_ (fun K hK=>?_)
         ·(go_simp;done)
         have HW:=HX.places [2,0,1,3,4,5,6] (by decide) (by simp);simp only[lfm]at HW
         obtain⟨y0,y1,y2,y3,y4,y5,y6,y7⟩:=box4 HW 5 rfl
         go_simp
         have HZ:=(((HW.putBox 5 rfl 0 (.slice C Y.store.cells.length kC)).putBox 5 rfl 1 (.slice R Y.store.roots.length kR)).putBox 5 rfl 2 (.slice A4 q k4)).putBox 5 rfl 3 (.slice (some ⟨gN,0,none⟩) q q)
         simp only[lsz]at HZ
         clear a0 a1
         obtain⟨⟨a0,a1⟩,-,-⟩:=box4s HZ 6 rfl
         refine hK.out _ _ (.inr (⟨a0,a1⟩)) ?_
         clear hK K
         repeat first|(with_reducible apply po_take;(·(go_simp;done));(·(intro w' hS';(try dsimp only at hS');go_simp;try with_reducible rfl));simp only[lpa])|(with_reducible apply po_skip;(·(go_simp;done));simp only[lpa])
         refine po_done ?_
         obtain⟨⟨z0,z1⟩,z2,z3⟩:=box4s HZ 5 rfl
         have HF:Hid (MadeAgN w (agYoung a) (.returned (.tuple #[.agg #[.slice C Y.store.cells.length kC,.slice R Y.store.roots.length kR,.slice A4 q k4,.slice (some ⟨gN,0,none⟩) q q],.int .i64 f0])) _):=hid (by rw[<-HY.out];exact⟨_,rvs,_,_,_,_,rfl,HZ.order [1,2,4,0] (by decide) rfl⟩)
         clear HZ HW HX a0 a1 y0 y1 y2 y3 y4 y5 y6 y7
         go_wp2
         exact bodyPost_ret (by simp[results,Tryz.results68,go_sem,z0,z1,z2,z3]) rfl HF.out
set_option maxHeartbeats 12800000 in
set_option maxRecDepth 20000 in
theorem specRunAged_any (w:World) (B:Nat) (A:Option Addr) (n c:Nat) (cs:List Cmd) (hr:RdQ w B A n c cs) (hok:cmdsOk cs=true) (E:Nat) (hE1:1<=E) (hE2:E<=40):
  Calls Tryz.prog 38 #[.slice A n c,.int .i64 (E:Int)] w (MadeAg w (mAg E cs)):=by
 have hr:=hr.top
 obtain rfl:=hr.len
 have hm:=Nat.le_trans hr.cap hr.mx
 unfold maxLen at hm
 have H:=(Owns.nil w).box [.slice none 0 0,.slice none 0 0,.slice none 0 0,.slice none 0 0] 64
 have HC:=hid hok
 have HA:=hid (cmdsOk_all hok)
 have h40:cs.length<=40:=(cmdsOk_iff.1 hok).2
 obtain⟨RR,hRR⟩:∃ r,r=(aged E).run 0 ⟨emptyH,[],[]⟩ cs:=⟨_,rfl⟩
 have HF:Hid (mAg E cs=RR):=hid (by unfold mAg;rw[hRR])
 have HR0:Hid ((aged E).run 0 ⟨emptyH,[],[]⟩ (cs.drop 0)=RR):=hid (by rw[hRR,List.drop_zero])
 have hin:inR (E:Int) 1 40=true:=by unfold inR;simp;omega
 clear hok hRR
 go_enter Tryz.func38,Tryz.ntmps38
 go_wp2_with fail
 refine (specCommandsValid_any _ _ _ _ _ cs (hr.below H.below)).mono ?_
 rintro e w1 ⟨rfl,hb⟩
 rw[HC.out]
 replace H:=H.call hb
 clear hb
 go_wp2_with (((with_reducible refine (l1In_b _ _ _ _).mono ?_);rintro e w' ⟨rfl,hw⟩;obtain rfl:=hw;rw[hin]))
 refine (specEmptyHeap_any _).mono ?_
 rintro e w3 ⟨cv,rvs,rv,rfl,K⟩
 replace K:=H.merge K
 simp only[lca]at K
 obtain⟨C,kC,rfl,-⟩:=K.formC 0 rfl
 obtain⟨R,kR,rfl,-⟩:=K.formI 1 rfl
 clear H
 have K2:=(K.litB [] zero_le_maxLen).litB [] zero_le_maxLen
 simp only[List.length_nil,List.map_nil,World.size_alloc]at K2
 have K3:=K2.box [.slice C emptyH.cells.length kC,.slice R emptyH.roots.length kR,.slice (some ⟨w3.heap.size,0,none⟩) 0 0,.slice (some ⟨w3.heap.size+1,0,none⟩) 0 0] 64
 simp only[World.size_alloc]at K3
 have H3:=K3.order [0,3,4,2,1,5] (L':=[.box (w3.heap.size+2) [.slice C emptyH.cells.length kC,.slice R emptyH.roots.length kR,.slice (some ⟨w3.heap.size,0,none⟩) 0 0,.slice (some ⟨w3.heap.size+1,0,none⟩) 0 0] 64,.cells (.slice C emptyH.cells.length kC) rvs emptyH.cells,.ints (.slice R emptyH.roots.length kR) emptyH.roots,.bools (.slice (some ⟨w3.heap.size,0,none⟩) 0 0) [],.bools (.slice (some ⟨w3.heap.size+1,0,none⟩) 0 0) [],.box w.heap.size [.slice none 0 0,.slice none 0 0,.slice none 0 0,.slice none 0 0] 64]) (by decide) rfl
 clear K K2 K3
 go_wp2_with fail
 go_loopw [6] (fun i wr=>∃ (k:Nat) (C R V W:Option Addr) (kC kR kV kW:Nat) (rvs:List Value) (a:Ag),i=.int .i64 k/\k<=cs.length/\Hid ((aged E).run k a (cs.drop k)=RR)/\Hid (AgOk a)/\a.store.cells.length<=k/\Owns w.heap.size w wr [.box (w3.heap.size+2) [.slice C a.store.cells.length kC,.slice R a.store.roots.length kR,.slice V a.old.length kV,.slice W a.noted.length kW] 64,.cells (.slice C a.store.cells.length kC) rvs a.store.cells,.ints (.slice R a.store.roots.length kR) a.store.roots,.bools (.slice V a.old.length kV) a.old,.bools (.slice W a.noted.length kW) a.noted,.box w.heap.size [.slice none 0 0,.slice none 0 0,.slice none 0 0,.slice none 0 0] 64]) (fun i _=>cs.length - (intOf i).toNat)
 case atStart=>exact⟨0,C,R,_,_,kC,kR,0,0,rvs,⟨emptyH,[],[]⟩,rfl,Nat.zero_le _,HR0,hid agEmpty_ok,Nat.le_refl _,H3⟩
 case round =>
  clear H3 HR0
  obtain⟨k,C,R,V,W,kC,kR,kV,kW,rvs,a,rfl,hk,HR,GG,hal,H⟩:=hrel
  by_cases hlt:k<cs.length
  ·obtain⟨b,o,p,rfl,hbb,hx,q1,q2,q3,q4⟩:=hr.at_ hlt
   have HP:Hid (cmdOk p=true):=hid (HA.out p (List.mem_of_getElem? hx.out))
   have HE:Hid ((aged E).run (k+1) (agNext E k a p) (cs.drop (k+1))=RR):=hid (by rw[<-HR.out,ag_next hx])
   have HTG:Hid (AgOk (agNext E k a p)):=hid (agNext_ok GG.out HP.out (by omega))
   have HSt:Hid (AgOk (agStep a p)):=hid (agStep_ok GG.out HP.out (by omega))
   have hnl:=agNext_len E k a p
   obtain⟨S,hS⟩:∃ S,S=agStep a p:=⟨_,rfl⟩
   rw[<-hS]at HSt
   have HS:=hid hS
   have HNx:Hid (agNext E k a p=if (k+1) % E=0 then agYoung S else S):=hid (by rw[hS];rfl)
   obtain⟨T,hT⟩:∃ T,T=agNext E k a p:=⟨_,rfl⟩
   rw[<-hT]at HE HTG hnl HNx
   clear hS hT HR
   go_wp2_with fail
   have HX:=H.drew
   clear H
   have hs:=box4s HX 0 rfl
   have g1:=HX.ro q1 hbb
   have g2:=HX.ro q2 hbb
   have g3:=HX.ro q3 hbb
   have g4:=HX.ro q4 hbb
   refine wp_region_tree (fun w'=>((w'.cell? ⟨w3.heap.size+2,0,none⟩=some (.slice C a.store.cells.length kC)/\w'.cell? ⟨w3.heap.size+2,1,none⟩=some (.slice R a.store.roots.length kR))/\w'.cell? ⟨w3.heap.size+2,2,none⟩=some (.slice V a.old.length kV)/\w'.cell? ⟨w3.heap.size+2,3,none⟩=some (.slice W a.noted.length kW))/\w'.cell? ⟨b,o+k*4,none⟩=some (.int .i64 p.op)/\w'.cell? ⟨b,o+k*4+1,none⟩=some (.int .i64 p.a)/\w'.cell? ⟨b,o+k*4+2,none⟩=some (.int .i64 p.b)/\w'.cell? ⟨b,o+k*4+3,none⟩=some (.int .i64 p.c)) 12 [] (.take 0 (.take 1 (.take 2 (.take 3 (.take 4 (.alt 5 (.take 6 (.take 7 (.take 8 (.alt 9 (.alt 10 (.take 11 (.done)) (.stop)) (.stop))))) (.alt 9 (.alt 5 (.take 6 (.take 7 (.take 8 (.alt 10 (.take 11 (.done)) (.stop))))) (.stop)) (.stop)))))))) (by kernel_rfl) (by kernel_rfl) (by kernel_rfl) (⟨hs,g1,g2,g3,g4⟩) ?_
   simp only[fillT,lgz,Nat.reduceBEq]
   repeat first|(with_reducible apply po_take;(·(go_simp;done));(·(intro w' hS';(try dsimp only at hS');go_simp;try with_reducible rfl));simp only[lpa])|(with_reducible apply po_skip;(·(go_simp;done));simp only[lpa])
   with_reducible refine po_run ?_ (fun K hK=>?_) ?_
   ·(go_simp;done)
   ·
    go_simp
    refine (specStepAged_any _ _ _ a (HX.rdAg 1 2 3 4 rfl rfl rfl rfl) p GG.out HP.out).mono ?_
    rintro e wa ⟨cv,rvs',rv,ov,nv,tb,rfl,K2⟩
    rw[<-HS.out]at K2
    replace K2:=HX.merge K2
    simp only[lca]at K2
    clear HX
    have HX:=K2
    clear K2
    obtain⟨C',kC',rfl,-⟩:=HX.formC 0 rfl
    obtain⟨R',kR',rfl,-⟩:=HX.formI 1 rfl
    obtain⟨V',kV',rfl,-⟩:=HX.formB 2 rfl
    obtain⟨W',kW',rfl,-⟩:=HX.formB 3 rfl
    clear hs g1 g2 g3 g4
    have hs:=box4s HX 4 rfl
    have g1:=HX.ro q1 hbb
    have g2:=HX.ro q2 hbb
    have g3:=HX.ro q3 hbb
    have g4:=HX.ro q4 hbb
    refine hK.out _ _ (.inr (⟨hs,g1,g2,g3,g4⟩)) ?_
    clear hK K
    repeat first|(with_reducible apply po_take;(·(go_simp;done));(·(intro w' hS';(try dsimp only at hS');go_simp;try with_reducible rfl));simp only[lpa])|(with_reducible apply po_skip;(·(go_simp;done));simp only[lpa])
    with_reducible refine po_last ?_ (fun K hK=>?_)
    ·(go_simp;done)
    go_simp
    have HP9:=HX
    replace HX:=HX.box [.slice none 0 0,.slice none 0 0,.slice none 0 0,.slice none 0 0] 64
    try simp only[drew_size]at HX
    clear hs g1 g2 g3 g4
    have hs:=box4s HX (1+4*1) rfl
    have g1:=HX.ro q1 hbb
    have g2:=HX.ro q2 hbb
    have g3:=HX.ro q3 hbb
    have g4:=HX.ro q4 hbb
    refine hK.out _ _ (.inr (⟨hs,g1,g2,g3,g4⟩)) ?_
    clear hK K
    with_reducible refine po_last ?_ (fun K hK=>?_)
    ·(go_simp;done)
    go_simp
    have HZ:=HP9.box [.slice C' S.store.cells.length kC',.slice R' S.store.roots.length kR',.slice V' S.old.length kV',.slice W' S.noted.length kW'] 64
    have HY:=HZ.places [0,1,2,3,4,5,10] (by decide) (by simp);simp only[lfm,lsz]at HY
    clear hs g1 g2 g3 g4 HX HZ HP9
    have hs:=box4s HY 5 rfl
    have g1:=HY.ro q1 hbb
    have g2:=HY.ro q2 hbb
    have g3:=HY.ro q3 hbb
    have g4:=HY.ro q4 hbb
    refine hK.out _ _ (.inr (⟨hs,g1,g2,g3,g4⟩)) ?_
    clear hK K
    clear hs g1 g2 g3 g4
    repeat first|(with_reducible apply po_take;(·(go_simp;done));(·(intro w' hS';(try dsimp only at hS');go_simp;try with_reducible rfl));simp only[lpa])|(with_reducible apply po_skip;(·(go_simp;done));simp only[lpa])
    refine po_done ?_
    obtain⟨x0,x1,x2,x3,x4,x5,x6,x7⟩:=box4 HY 5 rfl
    obtain⟨n0,n1,n2,n3,-,-,-,-⟩:=box4 HY 0 rfl
    have H7:=(((((HY).putBox 5 rfl 0 (.slice C' S.store.cells.length kC')).putBox 5 rfl 1 (.slice R' S.store.roots.length kR')).putBox 5 rfl 2 (.slice V' S.old.length kV')).putBox 5 rfl 3 (.slice W' S.noted.length kW')).places [5,1,2,3,4,6] (by decide) (by simp)
    simp only[lfm,lsz]at H7
    clear HY q1 q2 q3 q4
    have e1:(E:Int)≠0:=by omega
    have e2:(0:Int)<(E:Int):=by omega
    have e3:=rem_nat k E
    by_cases hmod:(k+1) % E=0
    ·have HNy:Hid (T=agYoung S):=hid (by rw[HNx.out,if_pos hmod])
     have e4:Int.tmod ((k:Int)+1) (E:Int)=0:=by rw[e3,hmod];rfl
     clear HNx hmod e3
     obtain⟨y0,y1,y2,y3,-,-,-,-⟩:=box4 H7 0 rfl
     go_wp2_with fail
     refine (specCollectYoung_any _ _ _ S (H7.rdAg 1 2 3 4 rfl rfl rfl rfl) HSt.out).mono ?_
     rintro e w6 ⟨cv,rvs2,rv,ov,nv,fn,rfl,K2⟩
     rw[<-HNy.out]at K2
     replace K2:=H7.merge K2
     simp only[lca]at K2
     obtain⟨C2,kC2,rfl,-⟩:=K2.formC 0 rfl
     obtain⟨R2,kR2,rfl,-⟩:=K2.formI 1 rfl
     obtain⟨V2,kV2,rfl,-⟩:=K2.formB 2 rfl
     obtain⟨W2,kW2,rfl,-⟩:=K2.formB 3 rfl
     have K3:=K2.box [.slice C2 T.store.cells.length kC2,.slice R2 T.store.roots.length kR2,.slice V2 T.old.length kV2,.slice W2 T.noted.length kW2] 64
     clear H7 y0 y1 y2 y3 x0 x1 x2 x3 x4 x5 x6 x7 n0 n1 n2 n3 K2
     obtain⟨x0,x1,x2,x3,x4,x5,x6,x7⟩:=box4 K3 5 rfl
     obtain⟨n0,n1,n2,n3,-,-,-,-⟩:=box4 K3 0 rfl
     have H8:=(((((K3).putBox 5 rfl 0 (.slice C2 T.store.cells.length kC2)).putBox 5 rfl 1 (.slice R2 T.store.roots.length kR2)).putBox 5 rfl 2 (.slice V2 T.old.length kV2)).putBox 5 rfl 3 (.slice W2 T.noted.length kW2)).places [5,1,2,3,4,10] (by decide) (by simp)
     simp only[lfm,lsz]at H8
     clear K3
     go_wp2_with fail
     go_roundw
     case rel=>exact⟨k+1,C2,R2,V2,W2,kC2,kR2,kV2,kW2,rvs2,T,by go_num,by omega,HE,HTG,by omega,H8⟩
     case measure=>simp[intOf];omega
    ·obtain rfl:T=S:=by rw[HNx.out,if_neg hmod]
     have e5:(((k:Int)+1) % (E:Int) == 0)=false:=by
      have h9:((k:Int)+1) % (E:Int)=(((k+1) % E:Nat):Int):=by rw[Int.natCast_emod];rfl
      rw[h9]
      simp only[beq_eq_false_iff_ne,ne_eq]
      omega
     clear HNx hmod
     go_wp2_with fail
     go_roundw
     case rel=>exact⟨k+1,C',R',V',W',kC',kR',kV',kW',rvs',T,by go_num,by omega,HE,HTG,by omega,H7⟩
     case measure=>simp[intOf];omega
   with_reducible refine po_last ?_ (fun K hK=>?_)
   ·(go_simp;done)
   go_simp
   have HP9:=HX
   replace HX:=HX.box [.slice none 0 0,.slice none 0 0,.slice none 0 0,.slice none 0 0] 64
   try simp only[drew_size]at HX
   clear hs g1 g2 g3 g4
   have hs:=box4s HX (1+4*0) rfl
   have g1:=HX.ro q1 hbb
   have g2:=HX.ro q2 hbb
   have g3:=HX.ro q3 hbb
   have g4:=HX.ro q4 hbb
   refine hK.out _ _ (.inr (⟨hs,g1,g2,g3,g4⟩)) ?_
   clear hK K
   with_reducible refine po_last ?_ (fun K hK=>?_)
   ·(go_simp;done)
   go_simp
   refine (specStepAged_any _ _ _ a (HX.rdAg 2 3 4 5 rfl rfl rfl rfl) p GG.out HP.out).mono ?_
   rintro e wa ⟨cv,rvs',rv,ov,nv,tb,rfl,K2⟩
   rw[<-HS.out]at K2
   replace K2:=HX.merge K2
   simp only[lca]at K2
   clear HX
   have HX:=K2
   clear K2
   obtain⟨C',kC',rfl,-⟩:=HX.formC 0 rfl
   obtain⟨R',kR',rfl,-⟩:=HX.formI 1 rfl
   obtain⟨V',kV',rfl,-⟩:=HX.formB 2 rfl
   obtain⟨W',kW',rfl,-⟩:=HX.formB 3 rfl
   clear hs g1 g2 g3 g4
   have hs:=box4s HX 5 rfl
   have g1:=HX.ro q1 hbb
   have g2:=HX.ro q2 hbb
   have g3:=HX.ro q3 hbb
   have g4:=HX.ro q4 hbb
   refine hK.out _ _ (.inr (⟨hs,g1,g2,g3,g4⟩)) ?_
   clear hK K
   repeat first|(with_reducible apply po_take;(·(go_simp;done));(·(intro w' hS';(try dsimp only at hS');go_simp;try with_reducible rfl));simp only[lpa])|(with_reducible apply po_skip;(·(go_simp;done));simp only[lpa])
   with_reducible refine po_last ?_ (fun K hK=>?_)
   ·(go_simp;done)
   obtain⟨e0,e1,e2,e3,e4,e5,e6,e7⟩:=box4 HX 4 rfl
   go_simp
   have HZ:=((((HX).putBox 4 rfl 0 (.slice C' S.store.cells.length kC')).putBox 4 rfl 1 (.slice R' S.store.roots.length kR')).putBox 4 rfl 2 (.slice V' S.old.length kV')).putBox 4 rfl 3 (.slice W' S.noted.length kW')
   have HY:=HZ.places [4,0,1,2,3,5,10] (by decide) (by simp);simp only[lfm,lsz]at HY
   clear hs g1 g2 g3 g4 HX HZ HP9
   have hs:=box4s HY 5 rfl
   have g1:=HY.ro q1 hbb
   have g2:=HY.ro q2 hbb
   have g3:=HY.ro q3 hbb
   have g4:=HY.ro q4 hbb
   refine hK.out _ _ (.inr (⟨hs,g1,g2,g3,g4⟩)) ?_
   clear hK K
   clear hs g1 g2 g3 g4
   repeat first|(with_reducible apply po_take;(·(go_simp;done));(·(intro w' hS';(try dsimp only at hS');go_simp;try with_reducible rfl));simp only[lpa])|(with_reducible apply po_skip;(·(go_simp;done));simp only[lpa])
   refine po_done ?_
   obtain⟨x0,x1,x2,x3,x4,x5,x6,x7⟩:=box4 HY 5 rfl
   obtain⟨n0,n1,n2,n3,-,-,-,-⟩:=box4 HY 0 rfl
   have H7:=(((((HY).putBox 5 rfl 0 (.slice C' S.store.cells.length kC')).putBox 5 rfl 1 (.slice R' S.store.roots.length kR')).putBox 5 rfl 2 (.slice V' S.old.length kV')).putBox 5 rfl 3 (.slice W' S.noted.length kW')).places [5,1,2,3,4,6] (by decide) (by simp)
   simp only[lfm,lsz]at H7
   clear HY q1 q2 q3 q4
   have e1:(E:Int)≠0:=by omega
   have e2:(0:Int)<(E:Int):=by omega
   have e3:=rem_nat k E
   by_cases hmod:(k+1) % E=0
   ·have HNy:Hid (T=agYoung S):=hid (by rw[HNx.out,if_pos hmod])
    have e4:Int.tmod ((k:Int)+1) (E:Int)=0:=by rw[e3,hmod];rfl
    clear HNx hmod e3
    obtain⟨y0,y1,y2,y3,-,-,-,-⟩:=box4 H7 0 rfl
    go_wp2_with fail
    refine (specCollectYoung_any _ _ _ S (H7.rdAg 1 2 3 4 rfl rfl rfl rfl) HSt.out).mono ?_
    rintro e w6 ⟨cv,rvs2,rv,ov,nv,fn,rfl,K2⟩
    rw[<-HNy.out]at K2
    replace K2:=H7.merge K2
    simp only[lca]at K2
    obtain⟨C2,kC2,rfl,-⟩:=K2.formC 0 rfl
    obtain⟨R2,kR2,rfl,-⟩:=K2.formI 1 rfl
    obtain⟨V2,kV2,rfl,-⟩:=K2.formB 2 rfl
    obtain⟨W2,kW2,rfl,-⟩:=K2.formB 3 rfl
    have K3:=K2.box [.slice C2 T.store.cells.length kC2,.slice R2 T.store.roots.length kR2,.slice V2 T.old.length kV2,.slice W2 T.noted.length kW2] 64
    clear H7 y0 y1 y2 y3 x0 x1 x2 x3 x4 x5 x6 x7 n0 n1 n2 n3 K2
    obtain⟨x0,x1,x2,x3,x4,x5,x6,x7⟩:=box4 K3 5 rfl
    obtain⟨n0,n1,n2,n3,-,-,-,-⟩:=box4 K3 0 rfl
    have H8:=(((((K3).putBox 5 rfl 0 (.slice C2 T.store.cells.length kC2)).putBox 5 rfl 1 (.slice R2 T.store.roots.length kR2)).putBox 5 rfl 2 (.slice V2 T.old.length kV2)).putBox 5 rfl 3 (.slice W2 T.noted.length kW2)).places [5,1,2,3,4,10] (by decide) (by simp)
    simp only[lfm,lsz]at H8
    clear K3
    go_wp2_with fail
    go_roundw
    case rel=>exact⟨k+1,C2,R2,V2,W2,kC2,kR2,kV2,kW2,rvs2,T,by go_num,by omega,HE,HTG,by omega,H8⟩
    case measure=>simp[intOf];omega
   ·obtain rfl:T=S:=by rw[HNx.out,if_neg hmod]
    have e5:(((k:Int)+1) % (E:Int) == 0)=false:=by
     have h9:((k:Int)+1) % (E:Int)=(((k+1) % E:Nat):Int):=by rw[Int.natCast_emod];rfl
     rw[h9]
     simp only[beq_eq_false_iff_ne,ne_eq]
     omega
    clear HNx hmod
    go_wp2_with fail
    go_roundw
    case rel=>exact⟨k+1,C',R',V',W',kC',kR',kV',kW',rvs',T,by go_num,by omega,HE,HTG,by omega,H7⟩
    case measure=>simp[intOf];omega
  ·have HE:Hid (RR=a):=hid (by rw[<-HR.out,Manager.run_out (by omega)])
   obtain⟨x0,x1,x2,x3,-,-,-,-⟩:=box4 H 0 rfl
   obtain⟨y0,y1,y2,y3,y4,y5,y6,y7⟩:=box4 H 5 rfl
   have HZ:=((((H).putBox 5 rfl 0 (.slice C a.store.cells.length kC)).putBox 5 rfl 1 (.slice R a.store.roots.length kR)).putBox 5 rfl 2 (.slice V a.old.length kV)).putBox 5 rfl 3 (.slice W a.noted.length kW)
   simp only[lsz]at HZ
   obtain⟨z0,z1,z2,z3,-,-,-,-⟩:=box4 HZ 5 rfl
   have HS:Hid (MadeAg w (mAg E cs) (.returned (.agg #[.slice C a.store.cells.length kC,.slice R a.store.roots.length kR,.slice V a.old.length kV,.slice W a.noted.length kW])) _):=hid (by rw[HF.out,HE.out];exact⟨_,rvs,_,_,_,rfl,HZ.order [1,2,3,4] (by decide) rfl⟩)
   clear H HZ
   go_wp2
   exact bodyPost_ret (by simp[results,Tryz.results38,go_sem,z0,z1,z2,z3]) rfl HS.out
theorem ptIter_snoc:∀ (n:Nat) (p:Pt),ptIter (n+1) p=ptStep (ptIter n p)
 | 0,_=>rfl
 | n+1,p=>by rw[ptIter,ptIter_snoc n,ptIter]
theorem pre_script {k:Nat}{p:Pt}{y:Int}(hy:([1,0,-1]:List Int)[k % 3]?=some y):∃ N:Nat,N<=1/\(∀ j:Nat,j<=N->((j:Int)<y ↔ j<N))/\ptPre k p=ptIter N (if y<0 then ptFinish p else ptStart p):=by
 rcases (show k % 3=0\/k % 3=1\/k % 3=2 by omega) with h|h|h
 ·rw[h]at hy
  obtain rfl:y=1:=by simpa using hy.symm
  refine⟨1,by omega,fun j hj=>by omega,?_⟩
  unfold ptPre;rw[if_pos h];rfl
 ·rw[h]at hy
  obtain rfl:y=0:=by simpa using hy.symm
  refine⟨0,by omega,fun j hj=>by omega,?_⟩
  unfold ptPre;rw[if_neg (by omega),if_pos h];rfl
 ·rw[h]at hy
  obtain rfl:y=-1:=by simpa using hy.symm
  refine⟨0,by omega,fun j hj=>by omega,?_⟩
  unfold ptPre;rw[if_neg (by omega),if_neg (by omega)];rfl
set_option maxHeartbeats 12800000 in
set_option maxRecDepth 20000 in
theorem specRunPaint_any (w:World) (B:Nat) (A:Option Addr) (n0 c0:Nat) (cs:List Cmd) (hr:RdQ w B A n0 c0 cs) (hok:cmdsOk cs=true) (B2:Nat) (A2:Option Addr) (c2:Nat) (hs:RdI w B2 A2 3 c2 [1,0,-1]):
  Calls Tryz.prog 39 #[.slice A n0 c0,.slice A2 3 c2] w (MadeHp w (mPaint cs)):=by
 have hr:=hr.top
 have hs:=hs.top
 obtain rfl:=hr.len
 have hm:=Nat.le_trans hr.cap hr.mx
 unfold maxLen at hm
 have H:=(Owns.nil w).box [.slice none 0 0,.slice none 0 0] 29
 have HC:=hid hok
 have HA:=hid (cmdsOk_all hok)
 have h40:cs.length<=40:=(cmdsOk_iff.1 hok).2
 obtain⟨RR,hRR⟩:∃ r,r=runPt 0 ⟨emptyH,[],false⟩ cs:=⟨_,rfl⟩
 have HF:Hid (mPaint cs=(ptFinish RR).store):=hid (by unfold mPaint;rw[if_pos hok,hRR])
 have HR0:Hid (runPt 0 ⟨emptyH,[],false⟩ (cs.drop 0)=RR):=hid (by rw[hRR,List.drop_zero])
 have hin3:inR 3 1 40=true:=by decide
 clear hok hRR
 go_enter Tryz.func39,Tryz.ntmps39
 go_wp2_with fail
 refine (specCommandsValid_any _ _ _ _ _ cs (hr.below H.below)).mono ?_
 rintro e w1 ⟨rfl,hb⟩
 rw[HC.out]
 replace H:=H.call hb
 clear hb
 go_wp2_with (((with_reducible refine (l1In_b _ _ _ _).mono ?_);rintro e w' ⟨rfl,hw⟩;obtain rfl:=hw;rw[hin3]))
 go_loopw [5] (fun i wr=>∃ k:Nat,i=.int .i64 k/\k<=3/\w1=wr) (fun i _=>3 - (intOf i).toNat)
 case atStart=>first|exact⟨0,rfl,Nat.zero_le _,trivial⟩|exact⟨0,rfl,Nat.zero_le _,rfl⟩
 case round =>
 obtain⟨k,rfl,hk,rfl⟩:=hrel
 by_cases hlt:k<3
 ·obtain⟨b,o,y,rfl,hbb,hy,p1⟩:=RdI.at_ hs hlt
  have hm:=List.mem_of_getElem? hy.out
  have hin:inR y (-1) 5=true:=by unfold inR;simp at hm⊢;omega
  have g1:=H.ro p1 hbb
  clear hy hm p1
  go_wp2_with (((with_reducible refine (l1In_b _ _ _ _).mono ?_);rintro e w' ⟨rfl,hw⟩;obtain rfl:=hw;rw[hin]))
  go_roundw
  case rel=>first|exact⟨k+1,by go_num,by omega,trivial⟩|exact⟨k+1,by go_num,by omega,rfl⟩
  case measure=>simp[intOf];omega
 go_wp2_with fail
 refine (specEmptyHeap_any _).mono ?_
 rintro e w3 ⟨cv,rvs,rv,rfl,K⟩
 replace K:=H.merge K
 simp only[lca]at K
 obtain⟨C,kC,rfl,-⟩:=K.formC 0 rfl
 obtain⟨R,kR,rfl,-⟩:=K.formI 1 rfl
 clear H
 have K2:=K.litI [] zero_le_maxLen
 simp only[List.length_nil,List.map_nil,World.size_alloc]at K2
 have K3:=K2.box [.slice C emptyH.cells.length kC,.slice R emptyH.roots.length kR,.slice (some ⟨w3.heap.size,0,none⟩) 0 0,.bool false] 109
 simp only[World.size_alloc]at K3
 have H3:=K3.order [0,2,3,1,4] (L':=[.box (w3.heap.size+1) [.slice C emptyH.cells.length kC,.slice R emptyH.roots.length kR,.slice (some ⟨w3.heap.size,0,none⟩) 0 0,.bool false] 109,.cells (.slice C emptyH.cells.length kC) rvs emptyH.cells,.ints (.slice R emptyH.roots.length kR) emptyH.roots,.ints (.slice (some ⟨w3.heap.size,0,none⟩) 0 0) [],.box w.heap.size [.slice none 0 0,.slice none 0 0] 29]) (by decide) rfl
 clear K K2 K3
 go_wp2_with fail
 generalize hgx:w3.heap.size+1=gx at *
 go_loopg [7] cs.length (fun gk i wr=>∃ (k:Nat) (C R V:Option Addr) (kC kR kV:Nat) (rvs:List Value) (p:Pt),i=.int .i64 k/\gk=cs.length - k/\k<=cs.length/\Hid (runPt k p (cs.drop k)=RR)/\Hid (PtOk p)/\p.store.cells.length<=k/\Owns w.heap.size w wr [.box gx [.slice C p.store.cells.length kC,.slice R p.store.roots.length kR,.slice V p.cols.length kV,.bool p.act] 109,.cells (.slice C p.store.cells.length kC) rvs p.store.cells,.ints (.slice R p.store.roots.length kR) p.store.roots,.ints (.slice V p.cols.length kV) p.cols,.box w.heap.size [.slice none 0 0,.slice none 0 0] 29])
 case atStart=>exact⟨0,C,R,_,kC,kR,0,rvs,⟨emptyH,[],false⟩,rfl,rfl,Nat.zero_le _,HR0,hid ptEmpty_ok,Nat.le_refl _,H3⟩
 case round =>
  clear H3 HR0 hgx
  obtain⟨k,C,R,V,kC,kR,kV,rvs,p,rfl,rfl,hk,HR,GG,hal,H⟩:=hrel
  by_cases hlt:k<cs.length
  ·obtain⟨b,ob,o,rfl,hbb,hx,q1,q2,q3,q4⟩:=hr.at_ hlt
   have HP:Hid (cmdOk o=true):=hid (HA.out o (List.mem_of_getElem? hx.out))
   obtain⟨bs,os,ys,rfl,hbs,hys,ps⟩:=RdI.at_ hs (show k % 3<3 by omega)
   have gs:=H.ro ps hbs
   have e1:Int.tmod (k:Int) 3=((k % 3:Nat):Int):=(Int.ofNat_tmod k 3).symm
   have e2:(0:Int)<=((k % 3:Nat):Int):=by omega
   have e3:((k % 3:Nat):Int)<3:=by omega
   obtain⟨N,hN1,hNj,hpre⟩:=pre_script (p:=p) hys.out
   have HNj:=hid hNj
   have hlen:=(ptPre_ok (k:=k) GG.out).2.2
   have HQ2:Hid (PtOk (ptPre k p)):=hid (ptPre_ok (k:=k) GG.out).1
   have HL2:Hid ((ptPre k p).store.cells.length<40):=hid (by rw[hlen];omega)
   have HE:Hid (runPt (k+1) (ptCmd (ptPre k p) o) (cs.drop (k+1))=RR):=hid (by rw[<-HR.out,drop_cmd hx];rfl)
   have HTG:Hid (PtOk (ptCmd (ptPre k p) o)):=hid (ptCmd_ok HQ2.out HP.out HL2.out)
   have HNl:Hid ((ptCmd (ptPre k p) o).store.cells.length<=k+1):=hid (by have h1:=ptCmd_len (ptPre k p) o;rw[hlen]at h1;omega)
   obtain⟨p1,hp1⟩:∃ p1,p1=(if ys<0 then ptFinish p else ptStart p):=⟨_,rfl⟩
   rw[<-hp1]at hpre
   have HI:Hid (∀ j,PtOk (ptIter j p1)):=hid fun j=>ptIter_ok j (by rw[hp1];split;exact (ptFinish_ok GG.out).1;exact ptStart_ok GG.out)
   have Hp1:=hid hp1
   obtain⟨P2,hP2⟩:∃ P2,P2=ptPre k p:=⟨_,rfl⟩
   rw[<-hP2]at HQ2 HL2 HE HTG HNl hpre
   have HPre:=hid hpre
   clear hys ps hNj hpre hlen hp1 hP2 HR
   go_upto_if 58 with fail
   clear gs e1 e2 e3
   go_cut [] (fun wx=>∃ (C R V:Option Addr) (kC kR kV:Nat) (rvs:List Value),Owns w.heap.size w wx [.box gx [.slice C p1.store.cells.length kC,.slice R p1.store.roots.length kR,.slice V p1.cols.length kV,.bool p1.act] 109,.cells (.slice C p1.store.cells.length kC) rvs p1.store.cells,.ints (.slice R p1.store.roots.length kR) p1.store.roots,.ints (.slice V p1.cols.length kV) p1.cols,.box w.heap.size [.slice none 0 0,.slice none 0 0] 29])
   case first =>
    obtain⟨⟨a0,a1⟩,a2,a3⟩:=box4s H 0 rfl
    by_cases hy0:ys<0
    ·have HS:Hid (ptFinish p=p1):=hid (by rw[Hp1.out,if_pos hy0])
     have hy1:decide (ys<0)=true:=decide_eq_true hy0
     go_wp2_with fail
     refine (specPaintFinish_any _ _ _ p (H.rdPt 1 2 3 rfl rfl rfl) GG.out).mono ?_
     rintro e w5 ⟨cv,rvs',rv,ov,fr,rfl,K⟩
     rw[HS.out]at K⊢
     replace K:=H.merge K
     simp only[lca]at K
     clear H a0 a1 a2 a3
     obtain⟨C',kC',rfl,-⟩:=K.formC 0 rfl
     obtain⟨R',kR',rfl,-⟩:=K.formI 1 rfl
     obtain⟨V',kV',rfl,-⟩:=K.formI 2 rfl
     have K2:=K.box [.slice C' p1.store.cells.length kC',.slice R' p1.store.roots.length kR',.slice V' p1.cols.length kV',.bool p1.act] 109
     clear K
     obtain⟨⟨y0,y1⟩,y2,y3⟩:=box4s K2 0 rfl
     obtain⟨x0,x1,x2,x3,x4,x5,x6,x7⟩:=box4 K2 4 rfl
     have H3:=(((((K2).putBox 4 rfl 0 (.slice C' p1.store.cells.length kC')).putBox 4 rfl 1 (.slice R' p1.store.roots.length kR')).putBox 4 rfl 2 (.slice V' p1.cols.length kV')).putBox 4 rfl 3 (.bool p1.act)).places [4,1,2,3,8] (by decide) (by simp)
     simp only[lfm,lsz]at H3
     clear K2
     go_wp2_with fail
     go_meet
     exact⟨C',R',V',kC',kR',kV',rvs',H3⟩
    ·have HS:Hid (ptStart p=p1):=hid (by rw[Hp1.out,if_neg hy0])
     have hy1:decide (ys<0)=false:=decide_eq_false hy0
     go_wp2_with fail
     refine (specPaintStart_any _ _ _ p (H.rdPt 1 2 3 rfl rfl rfl) GG.out).mono ?_
     rintro e w5 ⟨cv,rvs',rv,ov,rfl,K⟩
     rw[HS.out]at K⊢
     replace K:=H.merge K
     simp only[lca]at K
     clear H a0 a1 a2 a3
     obtain⟨C',kC',rfl,-⟩:=K.formC 0 rfl
     obtain⟨R',kR',rfl,-⟩:=K.formI 1 rfl
     obtain⟨V',kV',rfl,-⟩:=K.formI 2 rfl
     obtain⟨x0,x1,x2,x3,x4,x5,x6,x7⟩:=box4 K 3 rfl
     have H3:=(((((K).putBox 3 rfl 0 (.slice C' p1.store.cells.length kC')).putBox 3 rfl 1 (.slice R' p1.store.roots.length kR')).putBox 3 rfl 2 (.slice V' p1.cols.length kV')).putBox 3 rfl 3 (.bool p1.act)).places [3,0,1,2,7] (by decide) (by simp)
     simp only[lfm,lsz]at H3
     clear K
     go_wp2_with fail
     go_meet
     exact⟨C',R',V',kC',kR',kV',rvs',H3⟩
   case rest =>
   clear H Hp1
   obtain⟨C,R,V,kC,kR,kV,rvs,H⟩:=hcut
   go_wp2_with fail
   go_loopg [11] N (fun gk i ws=>∃ (j:Nat) (C R V:Option Addr) (kC kR kV:Nat) (rvs:List Value),i=.int .i64 j/\gk=N - j/\j<=N/\Owns w.heap.size w ws [.box gx [.slice C (ptIter j p1).store.cells.length kC,.slice R (ptIter j p1).store.roots.length kR,.slice V (ptIter j p1).cols.length kV,.bool (ptIter j p1).act] 109,.cells (.slice C (ptIter j p1).store.cells.length kC) rvs (ptIter j p1).store.cells,.ints (.slice R (ptIter j p1).store.roots.length kR) (ptIter j p1).store.roots,.ints (.slice V (ptIter j p1).cols.length kV) (ptIter j p1).cols,.box w.heap.size [.slice none 0 0,.slice none 0 0] 29])
   case atStart=>exact⟨0,C,R,V,kC,kR,kV,rvs,rfl,rfl,Nat.zero_le _,H⟩
   case round =>
   clear H
   obtain⟨j,C,R,V,kC,kR,kV,rvs,rfl,rfl,hj,H⟩:=hrel
   by_cases hlj:j<N
   ·have hjy:(j:Int)<ys:=(HNj.out j hj).2 hlj
    have HPj:=hid (HI.out j)
    have HS:Hid (ptIter (j+1) p1=ptStep (ptIter j p1)):=hid (ptIter_snoc j p1)
    obtain⟨pj,hpj⟩:∃ pj,pj=ptIter j p1:=⟨_,rfl⟩
    rw[<-hpj]at H HS HPj
    obtain⟨pn,hpn⟩:∃ pn,pn=ptStep pj:=⟨_,rfl⟩
    rw[<-hpn]at HS
    have HPn:=hid hpn
    clear hpj hpn
    obtain⟨⟨a0,a1⟩,a2,a3⟩:=box4s H 0 rfl
    go_wp2_with fail
    refine (specPaintStep_any _ _ _ pj (H.rdPt 1 2 3 rfl rfl rfl) HPj.out).mono ?_
    rintro e w5 ⟨cv,rvs',rv,ov,rfl,K⟩
    rw[<-HPn.out]at K⊢
    replace K:=H.merge K
    simp only[lca]at K
    clear H a0 a1 a2 a3
    obtain⟨C',kC',rfl,-⟩:=K.formC 0 rfl
    obtain⟨R',kR',rfl,-⟩:=K.formI 1 rfl
    obtain⟨V',kV',rfl,-⟩:=K.formI 2 rfl
    have K2:=K.box [.slice C' pn.store.cells.length kC',.slice R' pn.store.roots.length kR',.slice V' pn.cols.length kV',.bool pn.act] 109
    clear K
    obtain⟨⟨y0,y1⟩,y2,y3⟩:=box4s K2 0 rfl
    obtain⟨x0,x1,x2,x3,x4,x5,x6,x7⟩:=box4 K2 4 rfl
    have H3:=(((((K2).putBox 4 rfl 0 (.slice C' pn.store.cells.length kC')).putBox 4 rfl 1 (.slice R' pn.store.roots.length kR')).putBox 4 rfl 2 (.slice V' pn.cols.length kV')).putBox 4 rfl 3 (.bool pn.act)).places [4,1,2,3,8] (by decide) (by simp)
    simp only[lfm,lsz]at H3
    clear K2
    generalize decide (ptNext pj<pj.cols.length)=dd
    go_wp2_with fail
    go_roundg (N - (j+1))
    case measure=>omega
    case rel=>exact⟨j+1,C',R',V',kC',kR',kV',rvs',by go_num,rfl,by omega,by rw[HS.out];exact H3⟩
   ·have hjy:¬ (j:Int)<ys:=fun h=>hlj ((HNj.out j hj).1 h)
    obtain rfl:j=N:=by omega
    rw[<-HPre.out]at H
    clear HPre HI HNj
    go_wp2_with fail
    have HX:=H.drew
    clear H
    have hs:=box4s HX 0 rfl
    have g1:=HX.ro q1 hbb
    have g2:=HX.ro q2 hbb
    have g3:=HX.ro q3 hbb
    have g4:=HX.ro q4 hbb
    obtain⟨S,hS⟩:∃ S,S=ptCmd P2 o:=⟨_,rfl⟩
    rw[<-hS]at HE HTG HNl
    have HS:=hid hS
    clear hS
    refine wp_region_tree (fun w'=>((w'.cell? ⟨gx,0,none⟩=some (.slice C P2.store.cells.length kC)/\w'.cell? ⟨gx,1,none⟩=some (.slice R P2.store.roots.length kR))/\w'.cell? ⟨gx,2,none⟩=some (.slice V P2.cols.length kV)/\w'.cell? ⟨gx,3,none⟩=some (.bool P2.act))/\w'.cell? ⟨b,ob+k*4,none⟩=some (.int .i64 o.op)/\w'.cell? ⟨b,ob+k*4+1,none⟩=some (.int .i64 o.a)/\w'.cell? ⟨b,ob+k*4+2,none⟩=some (.int .i64 o.b)/\w'.cell? ⟨b,ob+k*4+3,none⟩=some (.int .i64 o.c)) 12 [] (.take 0 (.take 1 (.take 2 (.take 3 (.take 4 (.alt 5 (.take 6 (.take 7 (.take 8 (.alt 9 (.alt 10 (.take 11 (.done)) (.stop)) (.stop))))) (.alt 9 (.alt 5 (.take 6 (.take 7 (.take 8 (.alt 10 (.take 11 (.done)) (.stop))))) (.stop)) (.stop)))))))) (by kernel_rfl) (by kernel_rfl) (by kernel_rfl) (⟨hs,g1,g2,g3,g4⟩) ?_
    simp only[fillT,lgz,Nat.reduceBEq]
    repeat first|(with_reducible apply po_take;(·(go_simp;done));(·(intro w' hS';(try dsimp only at hS');go_simp;try with_reducible rfl));simp only[lpa])|(with_reducible apply po_skip;(·(go_simp;done));simp only[lpa])
    with_reducible refine po_run ?_ (fun K hK=>?_) ?_
    ·(go_simp;done)
    ·
     go_simp
     refine (specPaintCommand_any _ _ _ P2 (HX.rdPt 1 2 3 rfl rfl rfl) o HQ2.out HP.out HL2.out).mono ?_
     rintro e wa ⟨tb,cv,rvs',rv,ov,rfl,K2⟩
     rw[<-HS.out]at K2⊢
     replace K2:=HX.merge K2
     simp only[lca]at K2
     clear HX
     have HX:=K2
     clear K2
     obtain⟨C',kC',rfl,-⟩:=HX.formC 0 rfl
     obtain⟨R',kR',rfl,-⟩:=HX.formI 1 rfl
     obtain⟨V',kV',rfl,-⟩:=HX.formI 2 rfl
     clear hs g1 g2 g3 g4
     have hs:=box4s HX 3 rfl
     have g1:=HX.ro q1 hbb
     have g2:=HX.ro q2 hbb
     have g3:=HX.ro q3 hbb
     have g4:=HX.ro q4 hbb
     refine hK.out _ _ (.inr (⟨hs,g1,g2,g3,g4⟩)) ?_
     clear hK K
     repeat first|(with_reducible apply po_take;(·(go_simp;done));(·(intro w' hS';(try dsimp only at hS');go_simp;try with_reducible rfl));simp only[lpa])|(with_reducible apply po_skip;(·(go_simp;done));simp only[lpa])
     with_reducible refine po_last ?_ (fun K hK=>?_)
     ·(go_simp;done)
     go_simp
     have HP9:=HX
     replace HX:=HX.box [.slice none 0 0,.slice none 0 0,.slice none 0 0,.bool false] 109
     try simp only[drew_size]at HX
     clear hs g1 g2 g3 g4
     have hs:=box4s HX (1+3*1) rfl
     have g1:=HX.ro q1 hbb
     have g2:=HX.ro q2 hbb
     have g3:=HX.ro q3 hbb
     have g4:=HX.ro q4 hbb
     refine hK.out _ _ (.inr (⟨hs,g1,g2,g3,g4⟩)) ?_
     clear hK K
     with_reducible refine po_last ?_ (fun K hK=>?_)
     ·(go_simp;done)
     go_simp
     have HZ:=HP9.box [.slice C' S.store.cells.length kC',.slice R' S.store.roots.length kR',.slice V' S.cols.length kV',.bool S.act] 109
     have HY:=HZ.places [0,1,2,3,4,8] (by decide) (by simp);simp only[lfm,lsz]at HY
     clear hs g1 g2 g3 g4 HX HZ HP9
     have hs:=box4s HY 4 rfl
     have g1:=HY.ro q1 hbb
     have g2:=HY.ro q2 hbb
     have g3:=HY.ro q3 hbb
     have g4:=HY.ro q4 hbb
     refine hK.out _ _ (.inr (⟨hs,g1,g2,g3,g4⟩)) ?_
     clear hK K
     clear hs g1 g2 g3 g4
     repeat first|(with_reducible apply po_take;(·(go_simp;done));(·(intro w' hS';(try dsimp only at hS');go_simp;try with_reducible rfl));simp only[lpa])|(with_reducible apply po_skip;(·(go_simp;done));simp only[lpa])
     refine po_done ?_
     obtain⟨x0,x1,x2,x3,x4,x5,x6,x7⟩:=box4 HY 4 rfl
     obtain⟨n0,n1,n2,n3,-,-,-,-⟩:=box4 HY 0 rfl
     have H7:=(((((HY).putBox 4 rfl 0 (.slice C' S.store.cells.length kC')).putBox 4 rfl 1 (.slice R' S.store.roots.length kR')).putBox 4 rfl 2 (.slice V' S.cols.length kV')).putBox 4 rfl 3 (.bool S.act)).places [4,1,2,3,5] (by decide) (by simp)
     simp only[lfm,lsz]at H7
     have hnl:=HNl.out
     clear HY q1 q2 q3 q4
     go_wp2_with fail
     go_roundg (cs.length - (k+1))
     case measure=>omega
     case rel=>exact⟨k+1,C',R',V',kC',kR',kV',rvs',S,by go_num,rfl,by omega,HE,HTG,hnl,H7⟩
    with_reducible refine po_last ?_ (fun K hK=>?_)
    ·(go_simp;done)
    go_simp
    have HP9:=HX
    replace HX:=HX.box [.slice none 0 0,.slice none 0 0,.slice none 0 0,.bool false] 109
    try simp only[drew_size]at HX
    clear hs g1 g2 g3 g4
    have hs:=box4s HX (1+3*0) rfl
    have g1:=HX.ro q1 hbb
    have g2:=HX.ro q2 hbb
    have g3:=HX.ro q3 hbb
    have g4:=HX.ro q4 hbb
    refine hK.out _ _ (.inr (⟨hs,g1,g2,g3,g4⟩)) ?_
    clear hK K
    with_reducible refine po_last ?_ (fun K hK=>?_)
    ·(go_simp;done)
    go_simp
    refine (specPaintCommand_any _ _ _ P2 (HX.rdPt 2 3 4 rfl rfl rfl) o HQ2.out HP.out HL2.out).mono ?_
    rintro e wa ⟨tb,cv,rvs',rv,ov,rfl,K2⟩
    rw[<-HS.out]at K2⊢
    replace K2:=HX.merge K2
    simp only[lca]at K2
    clear HX
    have HX:=K2
    clear K2
    obtain⟨C',kC',rfl,-⟩:=HX.formC 0 rfl
    obtain⟨R',kR',rfl,-⟩:=HX.formI 1 rfl
    obtain⟨V',kV',rfl,-⟩:=HX.formI 2 rfl
    clear hs g1 g2 g3 g4
    have hs:=box4s HX 4 rfl
    have g1:=HX.ro q1 hbb
    have g2:=HX.ro q2 hbb
    have g3:=HX.ro q3 hbb
    have g4:=HX.ro q4 hbb
    refine hK.out _ _ (.inr (⟨hs,g1,g2,g3,g4⟩)) ?_
    clear hK K
    repeat first|(with_reducible apply po_take;(·(go_simp;done));(·(intro w' hS';(try dsimp only at hS');go_simp;try with_reducible rfl));simp only[lpa])|(with_reducible apply po_skip;(·(go_simp;done));simp only[lpa])
    with_reducible refine po_last ?_ (fun K hK=>?_)
    ·(go_simp;done)
    obtain⟨e0,e1,e2,e3,e4,e5,e6,e7⟩:=box4 HX 3 rfl
    go_simp
    have HZ:=((((HX).putBox 3 rfl 0 (.slice C' S.store.cells.length kC')).putBox 3 rfl 1 (.slice R' S.store.roots.length kR')).putBox 3 rfl 2 (.slice V' S.cols.length kV')).putBox 3 rfl 3 (.bool S.act)
    have HY:=HZ.places [3,0,1,2,4,8] (by decide) (by simp);simp only[lfm,lsz]at HY
    clear hs g1 g2 g3 g4 HX HZ HP9
    have hs:=box4s HY 4 rfl
    have g1:=HY.ro q1 hbb
    have g2:=HY.ro q2 hbb
    have g3:=HY.ro q3 hbb
    have g4:=HY.ro q4 hbb
    refine hK.out _ _ (.inr (⟨hs,g1,g2,g3,g4⟩)) ?_
    clear hK K
    clear hs g1 g2 g3 g4
    repeat first|(with_reducible apply po_take;(·(go_simp;done));(·(intro w' hS';(try dsimp only at hS');go_simp;try with_reducible rfl));simp only[lpa])|(with_reducible apply po_skip;(·(go_simp;done));simp only[lpa])
    refine po_done ?_
    obtain⟨x0,x1,x2,x3,x4,x5,x6,x7⟩:=box4 HY 4 rfl
    obtain⟨n0,n1,n2,n3,-,-,-,-⟩:=box4 HY 0 rfl
    have H7:=(((((HY).putBox 4 rfl 0 (.slice C' S.store.cells.length kC')).putBox 4 rfl 1 (.slice R' S.store.roots.length kR')).putBox 4 rfl 2 (.slice V' S.cols.length kV')).putBox 4 rfl 3 (.bool S.act)).places [4,1,2,3,5] (by decide) (by simp)
    simp only[lfm,lsz]at H7
    have hnl:=HNl.out
    clear HY q1 q2 q3 q4
    go_wp2_with fail
    go_roundg (cs.length - (k+1))
    case measure=>omega
    case rel=>exact⟨k+1,C',R',V',kC',kR',kV',rvs',S,by go_num,rfl,by omega,HE,HTG,hnl,H7⟩
  ·have HE:Hid (p=RR):=hid (by have:=HR.out;rwa [List.drop_eq_nil_of_le (by omega)]at this)
   obtain⟨⟨a0,a1⟩,a2,a3⟩:=box4s H 0 rfl
   obtain⟨T,hT⟩:∃ T,T=ptFinish p:=⟨_,rfl⟩
   have HT:=hid hT
   have HFT:Hid (mPaint cs=T.store):=hid (by rw[HF.out,hT,HE.out])
   clear hT
   go_wp2_with fail
   refine (specPaintFinish_any _ _ _ p (H.rdPt 1 2 3 rfl rfl rfl) GG.out).mono ?_
   rintro e w5 ⟨cv,rvs',rv,ov,fr,rfl,K⟩
   rw[<-HT.out]at K⊢
   replace K:=H.merge K
   simp only[lca]at K
   clear H a0 a1 a2 a3
   obtain⟨C',kC',rfl,-⟩:=K.formC 0 rfl
   obtain⟨R',kR',rfl,-⟩:=K.formI 1 rfl
   obtain⟨V',kV',rfl,-⟩:=K.formI 2 rfl
   have K2:=K.box [.slice C' T.store.cells.length kC',.slice R' T.store.roots.length kR',.slice V' T.cols.length kV',.bool T.act] 109
   clear K
   obtain⟨⟨y0,y1⟩,y2,y3⟩:=box4s K2 0 rfl
   obtain⟨u0,u1,u2,u3⟩:=K2.box2 8 rfl
   have HZ:=(K2.putBox 8 rfl 0 (.slice C' T.store.cells.length kC')).putBox 8 rfl 1 (.slice R' T.store.roots.length kR')
   simp only[lsz]at HZ
   obtain⟨z0,z1,-,-⟩:=HZ.box2 8 rfl
   have HS:Hid (MadeHp w (mPaint cs) (.returned (.agg #[.slice C' T.store.cells.length kC',.slice R' T.store.roots.length kR'])) _):=hid (by rw[HFT.out];exact⟨_,rvs',_,rfl,HZ.order [1,2] (by decide) rfl⟩)
   clear K2 HZ
   go_wp2
   exact bodyPost_ret (by simp[results,Tryz.results39,go_sem,z0,z1]) rfl HS.out
set_option maxHeartbeats 12800000 in
set_option maxRecDepth 20000 in
theorem specRunManager_any (w:World) (B:Nat) (A:Option Addr) (n c:Nat) (cs:List Cmd) (hr:RdQ w B A n c cs) (m LI:Int):
  Calls Tryz.prog 9 #[.int .i64 m,.slice A n c,.int .i64 LI] w (MadeHBl w (mManH m cs LI) (mManB m cs LI)):=by
 have hr:=hr.top
 have H:=(Owns.nil w).box [.slice none 0 0,.slice none 0 0] 29
 go_enter Tryz.func9,Tryz.ntmps9
 go_wp2_with fail
 refine (specCommandsValid_any _ _ _ _ _ cs (hr.below H.below)).mono ?_
 rintro e w1 ⟨rfl,hb⟩
 replace H:=H.call hb
 clear hb
 obtain⟨y0,y1,y2,y3⟩:=H.box2 0 rfl
 cases hc:cmdsOk cs
 ·skip
  have HF:Hid (mManB m cs LI=false):=hid (by rw[manB_eq,hc];simp)
  have HF2:Hid (mManH m cs LI=⟨[],[]⟩):=hid (by unfold mManH;rw[HF.out];rfl)
  have HZ:=(((H.putBox 0 rfl 0 (.slice none 0 0)).putBox 0 rfl 1 (.slice none 0 0)).noInts).noCells
  try simp only[lsz]at HZ
  obtain⟨z0,z1,-,-⟩:=HZ.box2 2 rfl
  have HS:Hid (MadeHBl w (mManH m cs LI) (mManB m cs LI) (.returned (.tuple #[.agg #[.slice none 0 0,.slice none 0 0],.bool false])) _):=hid (by rw[HF.out,HF2.out];exact⟨_,[],_,rfl,HZ.take 2⟩)
  clear HZ H
  go_wp2
  exact bodyPost_ret (by simp[results,Tryz.results9,go_sem,z0,z1]) rfl HS.out
 have HC:=hid hc
 clear hc
 go_wp2_with fail
 refine (l1In_b _ _ _ _).mono ?_
 rintro e w2 ⟨rfl,hw⟩
 obtain rfl:=hw
 cases hl:inR LI 1 40
 ·skip
  have HF:Hid (mManB m cs LI=false):=hid (by rw[manB_eq,hl];simp)
  have HF2:Hid (mManH m cs LI=⟨[],[]⟩):=hid (by unfold mManH;rw[HF.out];rfl)
  have HZ:=(((H.putBox 0 rfl 0 (.slice none 0 0)).putBox 0 rfl 1 (.slice none 0 0)).noInts).noCells
  try simp only[lsz]at HZ
  obtain⟨z0,z1,-,-⟩:=HZ.box2 2 rfl
  have HS:Hid (MadeHBl w (mManH m cs LI) (mManB m cs LI) (.returned (.tuple #[.agg #[.slice none 0 0,.slice none 0 0],.bool false])) _):=hid (by rw[HF.out,HF2.out];exact⟨_,[],_,rfl,HZ.take 2⟩)
  clear HZ H
  go_wp2
  exact bodyPost_ret (by simp[results,Tryz.results9,go_sem,z0,z1]) rfl HS.out
 obtain⟨q1,q2⟩:=inR_iff.1 hl
 have HL:=hid hl
 clear hl y0 y1 y2 y3
 replace H:=H.box [.slice none 0 0,.slice none 0 0] 29
 go_upto_block 0 with fail
 generalize w1.heap.size=g8 at *
 go_cut [8,9] (fun s8 s9 wx=>∃ (g:Nat) (T:Hp) (C R:Option Addr) (kC kR:Nat) (rvs:List Value),s8=.pointer (some ⟨g,0,none⟩)/\s9=.bool (inR m 1 7 && mManR m cs LI)/\Hid (inR m 1 7=true->T=mManX m cs LI)/\Owns w.heap.size w wx [.box g [.slice C T.cells.length kC,.slice R T.roots.length kR] 29,.cells (.slice C T.cells.length kC) rvs T.cells,.ints (.slice R T.roots.length kR) T.roots,.box w.heap.size [.slice none 0 0,.slice none 0 0] 29])
 case first =>
  obtain⟨y0,y1,y2,y3⟩:=H.box2 0 rfl
  by_cases hm:1<=m/\m<=7
  ·obtain⟨p1,p2⟩:=hm
   rcases (show m=1\/m=2\/m=3\/m=4\/m=5\/m=6\/m=7 by omega) with rfl|rfl|rfl|rfl|rfl|rfl|rfl
   ·have HX:=hid (manX_1 HC.out LI)
    have HR:=hid (manR_1 cs LI)
    have k1:((1:Int) == 1)=true:=by decide
    go_wp2_with fail
    refine (specRunHeap_any _ _ _ _ _ cs (hr.below H.below)).mono ?_
    rintro e w3 ⟨cv,rvs,rv,rfl,K⟩
    replace K:=H.merge K
    simp only[lca]at K
    rw[<-HX.out]at K
    generalize mManX 1 cs LI=T at *
    obtain⟨C,kC,rfl,-⟩:=K.formC 0 rfl
    obtain⟨R,kR,rfl,-⟩:=K.formI 1 rfl
    clear H y0 y1 y2 y3
    obtain⟨y0,y1,y2,y3⟩:=K.box2 2 rfl
    have K2:=((K.putBox 2 rfl 0 (.slice C T.cells.length kC)).putBox 2 rfl 1 (.slice R T.roots.length kR)).places [2,0,1,3] (by decide) (by simp)
    simp only[lfm,lsz]at K2
    clear K
    go_wp2_with fail
    go_meet
    exact⟨_,T,C,R,kC,kR,rvs,rfl,by rw[HR.out],hid (fun _=>rfl),K2⟩
   ·have HX:=hid (manX_2 HC.out LI)
    have HR:=hid (manR_2 cs LI)
    have k1:((2:Int) == 1)=false:=by decide
    have k2:((2:Int) == 2)=true:=by decide
    go_wp2_with fail
    refine (specRunCounted_any _ _ _ _ _ cs (hr.below H.below) HC.out).mono ?_
    rintro e w3 ⟨cv,rvs,rv,nv,rfl,K⟩
    replace K:=H.merge K
    simp only[lca]at K
    rw[<-HX.out]at K
    generalize mManX 2 cs LI=T at *
    obtain⟨C,kC,rfl,-⟩:=K.formC 0 rfl
    obtain⟨R,kR,rfl,-⟩:=K.formI 1 rfl
    clear H y0 y1 y2 y3
    obtain⟨N,kN,rfl,-⟩:=K.formI 2 rfl
    have hfd:=field_counts C R N T.cells.length T.roots.length (mCounts T).length kC kR kN
    obtain⟨y0,y1,y2,y3⟩:=K.box2 3 rfl
    have K2:=((K.putBox 3 rfl 0 (.slice C T.cells.length kC)).putBox 3 rfl 1 (.slice R T.roots.length kR)).places [3,0,1,4] (by decide) (by simp)
    simp only[lfm,lsz]at K2
    clear K
    go_wp2_with fail
    go_meet
    exact⟨_,T,C,R,kC,kR,rvs,rfl,by rw[HR.out],hid (fun _=>rfl),K2⟩
   ·have HX:=hid (manX_3 HC.out LI)
    have HR:=hid (manR_3 cs LI)
    have k1:((3:Int) == 1)=false:=by decide
    have k2:((3:Int) == 2)=false:=by decide
    have k3:((3:Int) == 3)=true:=by decide
    go_wp2_with fail
    refine (specRunSweep_any _ _ _ _ _ cs (hr.below H.below) LI).mono ?_
    rintro e w3 ⟨cv,rvs,rv,rfl,K⟩
    replace K:=H.merge K
    simp only[lca]at K
    rw[<-HX.out]at K
    generalize mManX 3 cs LI=T at *
    generalize mRunSwB cs LI=tb at *
    obtain⟨C,kC,rfl,-⟩:=K.formC 0 rfl
    obtain⟨R,kR,rfl,-⟩:=K.formI 1 rfl
    clear H y0 y1 y2 y3
    replace K:=K.box [.slice C T.cells.length kC,.slice R T.roots.length kR] 29
    obtain⟨x0,x1,-,-⟩:=K.box2 0 rfl
    obtain⟨y0,y1,y2,y3⟩:=K.box2 3 rfl
    have K2:=((K.putBox 3 rfl 0 (.slice C T.cells.length kC)).putBox 3 rfl 1 (.slice R T.roots.length kR)).places [3,1,2,4] (by decide) (by simp)
    simp only[lfm,lsz]at K2
    clear K
    go_wp2_with fail
    go_meet
    exact⟨_,T,C,R,kC,kR,rvs,rfl,by rw[HR.out],hid (fun _=>rfl),K2⟩
   ·have HX:=hid (manX_4 HC.out LI)
    have HR:=hid (manR_4 cs LI)
    have k1:((4:Int) == 1)=false:=by decide
    have k2:((4:Int) == 2)=false:=by decide
    have k3:((4:Int) == 3)=false:=by decide
    have k4:((4:Int) == 4)=true:=by decide
    go_wp2_with fail
    refine (specRunCopy_any _ _ _ _ _ cs (hr.below H.below) LI).mono ?_
    rintro e w3 ⟨cv,rvs,rv,rfl,K⟩
    replace K:=H.merge K
    simp only[lca]at K
    rw[<-HX.out]at K
    generalize mManX 4 cs LI=T at *
    generalize mRunCpB mCopy cs LI=tb at *
    obtain⟨C,kC,rfl,-⟩:=K.formC 0 rfl
    obtain⟨R,kR,rfl,-⟩:=K.formI 1 rfl
    clear H y0 y1 y2 y3
    replace K:=K.box [.slice C T.cells.length kC,.slice R T.roots.length kR] 29
    obtain⟨x0,x1,-,-⟩:=K.box2 0 rfl
    obtain⟨y0,y1,y2,y3⟩:=K.box2 3 rfl
    have K2:=((K.putBox 3 rfl 0 (.slice C T.cells.length kC)).putBox 3 rfl 1 (.slice R T.roots.length kR)).places [3,1,2,4] (by decide) (by simp)
    simp only[lfm,lsz]at K2
    clear K
    go_wp2_with fail
    go_meet
    exact⟨_,T,C,R,kC,kR,rvs,rfl,by rw[HR.out],hid (fun _=>rfl),K2⟩
   ·have HX:=hid (manX_5 HC.out LI)
    have HR:=hid (manR_5 cs LI)
    have k1:((5:Int) == 1)=false:=by decide
    have k2:((5:Int) == 2)=false:=by decide
    have k3:((5:Int) == 3)=false:=by decide
    have k4:((5:Int) == 4)=false:=by decide
    have k5:((5:Int) == 5)=true:=by decide
    go_wp2_with fail
    refine (specRunSlide_any _ _ _ _ _ cs (hr.below H.below) LI).mono ?_
    rintro e w3 ⟨cv,rvs,rv,rfl,K⟩
    replace K:=H.merge K
    simp only[lca]at K
    rw[<-HX.out]at K
    generalize mManX 5 cs LI=T at *
    generalize mRunCpB mSlide cs LI=tb at *
    obtain⟨C,kC,rfl,-⟩:=K.formC 0 rfl
    obtain⟨R,kR,rfl,-⟩:=K.formI 1 rfl
    clear H y0 y1 y2 y3
    replace K:=K.box [.slice C T.cells.length kC,.slice R T.roots.length kR] 29
    obtain⟨x0,x1,-,-⟩:=K.box2 0 rfl
    obtain⟨y0,y1,y2,y3⟩:=K.box2 3 rfl
    have K2:=((K.putBox 3 rfl 0 (.slice C T.cells.length kC)).putBox 3 rfl 1 (.slice R T.roots.length kR)).places [3,1,2,4] (by decide) (by simp)
    simp only[lfm,lsz]at K2
    clear K
    go_wp2_with fail
    go_meet
    exact⟨_,T,C,R,kC,kR,rvs,rfl,by rw[HR.out],hid (fun _=>rfl),K2⟩
   ·have HX:=hid (manX_6 HC.out LI)
    have HR:=hid (manR_6 cs LI)
    have k1:((6:Int) == 1)=false:=by decide
    have k2:((6:Int) == 2)=false:=by decide
    have k3:((6:Int) == 3)=false:=by decide
    have k4:((6:Int) == 4)=false:=by decide
    have k5:((6:Int) == 5)=false:=by decide
    have k6:((6:Int) == 6)=true:=by decide
    obtain⟨E,rfl⟩:=Int.eq_ofNat_of_zero_le (by omega:0<=LI)
    have m1:min (E:Int) 40=(E:Int):=by omega
    have m2:¬ (40:Int)<(E:Int):=by omega
    simp only[Int.toNat_natCast]at HX
    go_wp2_with fail
    refine (specRunAged_any _ _ _ _ _ cs (hr.below H.below) HC.out E (by omega) (by omega)).mono ?_
    rintro e w3 ⟨cv,rvs,rv,ov,nv,rfl,K⟩
    replace K:=H.merge K
    simp only[lca]at K
    rw[<-HX.out]at K
    generalize mManX 6 cs (E:Int)=T at *
    obtain⟨C,kC,rfl,-⟩:=K.formC 0 rfl
    obtain⟨R,kR,rfl,-⟩:=K.formI 1 rfl
    clear H y0 y1 y2 y3
    obtain⟨V,kV,rfl,-⟩:=K.formB 2 rfl
    obtain⟨W,kW,rfl,-⟩:=K.formB 3 rfl
    have hfd:=field_aged C R V W T.cells.length T.roots.length (mAg E cs).old.length (mAg E cs).noted.length kC kR kV kW
    obtain⟨y0,y1,y2,y3⟩:=K.box2 4 rfl
    have K2:=((K.putBox 4 rfl 0 (.slice C T.cells.length kC)).putBox 4 rfl 1 (.slice R T.roots.length kR)).places [4,0,1,5] (by decide) (by simp)
    simp only[lfm,lsz]at K2
    clear K
    go_wp2_with fail
    go_meet
    exact⟨_,T,C,R,kC,kR,rvs,rfl,by rw[HR.out],hid (fun _=>rfl),K2⟩
   ·have HX:=hid (manX_7 HC.out LI)
    have HR:=hid (manR_7 cs LI)
    have k1:((7:Int) == 1)=false:=by decide
    have k2:((7:Int) == 2)=false:=by decide
    have k3:((7:Int) == 3)=false:=by decide
    have k4:((7:Int) == 4)=false:=by decide
    have k5:((7:Int) == 5)=false:=by decide
    have k6:((7:Int) == 6)=false:=by decide
    have k7:((7:Int) == 7)=true:=by decide
    have H1:=H.litI [1,0,-1] (by unfold maxLen;decide)
    simp only[lml,Nat.reduceAdd,World.size_alloc]at H1
    go_wp2_with fail
    refine (specRunPaint_any _ _ _ _ _ cs (hr.below H1.below) HC.out _ _ _ (H1.owI 0 rfl).rdI).mono ?_
    rintro e w3 ⟨cv,rvs,rv,rfl,K⟩
    replace K:=H1.merge K
    simp only[lca]at K
    rw[<-HX.out]at K
    generalize mManX 7 cs LI=T at *
    obtain⟨C,kC,rfl,-⟩:=K.formC 0 rfl
    obtain⟨R,kR,rfl,-⟩:=K.formI 1 rfl
    clear H H1 y0 y1 y2 y3
    obtain⟨y0,y1,y2,y3⟩:=K.box2 3 rfl
    have K2:=((K.putBox 3 rfl 0 (.slice C T.cells.length kC)).putBox 3 rfl 1 (.slice R T.roots.length kR)).places [3,0,1,4] (by decide) (by simp)
    simp only[lfm,lsz]at K2
    clear K
    go_wp2_with fail
    go_meet
    exact⟨_,T,C,R,kC,kR,rvs,rfl,by rw[HR.out],hid (fun _=>rfl),K2⟩
  ·have HI:Hid (inR m 1 7=false):=hid (by rw[<-Bool.not_eq_true,inR_iff];exact hm)
   have k1:(m == 1)=false:=by simp only[beq_eq_false_iff_ne,ne_eq];omega
   have k2:(m == 2)=false:=by simp only[beq_eq_false_iff_ne,ne_eq];omega
   have k3:(m == 3)=false:=by simp only[beq_eq_false_iff_ne,ne_eq];omega
   have k4:(m == 4)=false:=by simp only[beq_eq_false_iff_ne,ne_eq];omega
   have k5:(m == 5)=false:=by simp only[beq_eq_false_iff_ne,ne_eq];omega
   have k6:(m == 6)=false:=by simp only[beq_eq_false_iff_ne,ne_eq];omega
   have k7:(m == 7)=false:=by simp only[beq_eq_false_iff_ne,ne_eq];omega
   have K2:=((H.noInts).noCells).places [2,0,1,3] (by decide) (by simp)
   simp only[lfm]at K2
   clear hm H
   go_wp2_with fail
   go_meet
   exact⟨_,⟨[],[]⟩,none,none,0,0,[],rfl,by rw[HI.out];rfl,hid (fun h=>by rw[HI.out]at h;cases h),K2⟩
 case rest =>
  clear H
  obtain⟨g,T,C,R,kC,kR,rvs,rfl,rfl,HT,H⟩:=hcut
  obtain⟨y0,y1,-,-⟩:=H.box2 0 rfl
  obtain⟨x0,x1,x2,x3⟩:=H.box2 3 rfl
  have HB:Hid (mManB m cs LI=(inR m 1 7 && mManR m cs LI)):=hid (by rw[manB_eq,HC.out,HL.out];simp)
  cases hb:(inR m 1 7 && mManR m cs LI)
  ·rw[hb]at HB
   have HF2:Hid (mManH m cs LI=⟨[],[]⟩):=hid (by unfold mManH;rw[HB.out];rfl)
   have HZ:=(((H.putBox 3 rfl 0 (.slice none 0 0)).putBox 3 rfl 1 (.slice none 0 0)).noInts).noCells
   simp only[lnm]at HZ
   obtain⟨z0,z1,-,-⟩:=HZ.box2 5 rfl
   have HS:Hid (MadeHBl w (mManH m cs LI) (mManB m cs LI) (.returned (.tuple #[.agg #[.slice none 0 0,.slice none 0 0],.bool false])) _):=hid (by rw[HB.out,HF2.out];exact⟨_,[],_,rfl,HZ.take 2⟩)
   clear HZ H HT hb
   go_wp2
   exact bodyPost_ret (by simp[results,Tryz.results9,go_sem,z0,z1]) rfl HS.out
  ·rw[hb]at HB
   have HF2:Hid (mManH m cs LI=T):=hid (by
    unfold mManH
    rw[HB.out,if_pos rfl]
    simp only[Bool.and_eq_true]at hb
    exact (HT.out hb.1).symm)
   have HZ:=(H.putBox 3 rfl 0 (.slice C T.cells.length kC)).putBox 3 rfl 1 (.slice R T.roots.length kR)
   simp only[lsz]at HZ
   obtain⟨z0,z1,-,-⟩:=HZ.box2 3 rfl
   have HS:Hid (MadeHBl w (mManH m cs LI) (mManB m cs LI) (.returned (.tuple #[.agg #[.slice C T.cells.length kC,.slice R T.roots.length kR],.bool true])) _):=hid (by rw[HB.out,HF2.out];exact⟨_,rvs,_,rfl,HZ.order [1,2] (by decide) rfl⟩)
   clear HZ H HT hb
   go_wp2
   exact bodyPost_ret (by simp[results,Tryz.results9,go_sem,z0,z1]) rfl HS.out
set_option maxHeartbeats 6400000 in
set_option maxRecDepth 20000 in
theorem specViewOf_any (w:World) (B:Nat) (v:Value) (h:Hp) (hh:RdH w B v h) (hok:heapOk h=true):
  Calls Tryz.prog 81 #[v] w (MadeI w (viewH h)):=by
 have hh':=hh.top
 obtain⟨D,m,d,D',m',d',rfl,hC,hR⟩:=hh.top
 have l3:=hC.le1;have l4:=hC.le2
 have l1:=RdI.le1 hR;have l2:=RdI.le2 hR
 obtain⟨s4,s5⟩:=heapOk_small hok
 have HOk:=hid hok
 obtain⟨o,ho⟩:∃ o,o=ordH h:=⟨_,rfl⟩
 have HOr:Hid (∀ x∈o,0<=x/\x<h.cells.length):=hid fun x hx=>by rw[ho]at hx;exact⟨(ordH_reach hok x hx).1,reach_lt (ordH_reach hok x hx)⟩
 have hol:o.length<=40:=by have:=ordH_len hok;rw[<-ho]at this;omega
 have HOe:=hid ho
 have HVw:Hid (viewH h=h.roots.map (nameI o)++o.flatMap (viewC h.cells o)):=hid (by rw[ho];rfl)
 have HCl:Hid (∀ (c:Nat) (l:Cel),h.cells[c]?=some l->l.refs.length<=3):=hid fun c l hl=>(refs3 hok hl).1
 have HLen:Hid (∀ k,(h.roots.map (nameI o)++(o.take k).flatMap (viewC h.cells o)).length<=1000):=hid fun k=>by
  have h1:=flat_len (viewC h.cells o) 5 (o.take k) fun x hx=>by
   have hx:=List.mem_of_mem_take hx
   obtain⟨p0,p1⟩:=HOr.out x hx
   have hl:=HCl.out x.toNat _ (List.getElem?_eq_getElem (by omega))
   unfold viewC cel
   rw[List.getD_eq_getElem?_getD,List.getElem?_eq_getElem (by omega:x.toNat<h.cells.length)]
   simpa using hl
  rw[List.length_take]at h1
  have:min k o.length<=40:=by omega
  have h2:min k o.length*5<=40*5:=Nat.mul_le_mul_right 5 this
  rw[List.length_append,List.length_map]
  omega
 rw[HVw.out]
 clear hok ho HVw
 have H1:=((Owns.nil w).box [.slice D m d,.slice D' m' d'] 29).litI [] zero_le_maxLen
 simp only[lnm]at H1
 obtain⟨a0,a1,-,-⟩:=H1.box2 1 rfl
 go_enter Tryz.func81,Tryz.ntmps81
 go_wp2_with fail
 refine (specHeapValid_any _ _ _ h (hh'.below H1.below)).mono ?_
 rintro e w1 ⟨rfl,hb1⟩
 rw[HOk.out]
 have H2:=H1.call hb1
 clear H1 hb1 a0 a1
 obtain⟨a0,a1,-,-⟩:=H2.box2 1 rfl
 go_wp2_with fail
 refine (l9Order_any _ _ _ h (hh'.below H2.below) HOk.out).mono ?_
 rintro e w2 ⟨v2,rfl,ho2,hb2⟩
 rw[<-HOe.out]at ho2
 have H3:=H2.madeI ho2 hb2
 clear H2 ho2 hb2 a0 a1
 obtain⟨O,kO,rfl,-⟩:=H3.formI 0 rfl
 have H4:=H3.order [1,0,2] (L':=[.ints (.slice (some ⟨w.heap.size+1,0,none⟩) 0 0) ((h.roots.take 0).map (nameI o)),.ints (.slice O o.length kO) o,.box w.heap.size [.slice D m d,.slice D' m' d'] 29]) (by decide) rfl
 clear H3
 go_wp2_with fail
 go_loopw [3,5] (fun v3 i wr=>∃ k:Nat,i=.int .i64 k/\k<=m'/\Owns w.heap.size w wr [.ints v3 ((h.roots.take k).map (nameI o)),.ints (.slice O o.length kO) o,.box w.heap.size [.slice D m d,.slice D' m' d'] 29]) (fun _ i _=>m' - (intOf i).toNat)
 case atStart=>exact⟨0,rfl,Nat.zero_le _,H4⟩
 case round =>
 clear H4
 obtain⟨k,rfl,hk,H⟩:=hrel
 obtain⟨a0,a1,-,-⟩:=H.box2 2 rfl
 by_cases hlt:k<m'
 ·obtain⟨b,ob,y,rfl,hbb,hx,p1⟩:=RdI.at_ hR hlt
  have g1:=H.ro p1 hbb
  have hT:=nameI_next (o:=o) hx
  obtain⟨Y,hY⟩:∃ Y,Y=(h.roots.take k).map (nameI o):=⟨_,rfl⟩
  have hYl:Y.length<=k:=by rw[hY];simp;omega
  rw[<-hY]at H hT
  have HT:=hid hT
  obtain⟨A0,k0,rfl,-⟩:=H.formI 0 rfl
  clear p1 hx hY hT
  go_wp2_with fail
  refine (l9Name_any _ _ _ _ _ o y (H.owI 1 rfl).rdI (by omega)).mono ?_
  rintro e w3 ⟨rfl,hb⟩
  generalize nameI o y=rn at *
  have H5:=(H.call hb).litI [rn] one_le_maxLen
  clear hb H a0 a1 g1
  simp only[lml]at H5
  go_wp2_with (at_builtin;go_loud (refine wpList_pushO rfl (.tmp 23) (.tmp 31) rfl H5 1 rfl rfl rfl (rdI_new _ _ _ rfl) (by omega) ?_;intro A3 k3 w5 H6;simp only[lsz]at H6;generalize hN:Y++[rn]=N at *))
  have H7:=H6.erase 0
  simp only[List.eraseIdx_cons_zero]at H7
  clear H6
  go_roundw
  case rel=>exact⟨k+1,by go_num,by omega,by rw[HT.out];exact H7⟩
  case measure=>simp[intOf];omega
 rw[List.take_of_length_le (by omega)]at H
 have e0:h.roots.map (nameI o)=h.roots.map (nameI o)++(o.take 0).flatMap (viewC h.cells o):=by simp
 rw[e0]at H
 clear e0
 go_wp2_with fail
 clear a0 a1
 go_loopw [3,6] (fun v3 i wr=>∃ k:Nat,i=.int .i64 k/\k<=o.length/\Owns w.heap.size w wr [.ints v3 (h.roots.map (nameI o)++(o.take k).flatMap (viewC h.cells o)),.ints (.slice O o.length kO) o,.box w.heap.size [.slice D m d,.slice D' m' d'] 29]) (fun _ i _=>o.length - (intOf i).toNat)
 case atStart=>exact⟨0,rfl,Nat.zero_le _,H⟩
 case round =>
 clear H
 obtain⟨k,rfl,hk,H⟩:=hrel
 have hlen:=HLen.out k
 by_cases hlt:k<o.length
 ·obtain⟨x,hx0⟩:∃ x,Hid (o[k]?=some x):=⟨_,hid (List.getElem?_eq_getElem hlt)⟩
  obtain⟨hp0,hp1⟩:=HOr.out x (List.mem_of_getElem? hx0.out)
  obtain⟨q,rfl⟩:=Int.eq_ofNat_of_zero_le hp0
  have hq:q<m:=by omega
  obtain⟨b,ob,l,A2,n2,c2,rfl,hbb,hx,q1,q2,q3,hrf⟩:=hC.at_ hq
  obtain⟨gO,cO,eO,-,-,-,-⟩:=H.rowAt 1 rfl (by omega)
  simp only[Value.slice.injEq]at eO
  obtain⟨rfl,-,rfl⟩:=eO
  have r1:=RdI.le1 hrf;have r2:=RdI.le2 hrf
  have hn2:n2=l.refs.length:=by omega
  have hf3:=HCl.out q l hx.out
  have HS:Hid (h.roots.map (nameI o)++(o.take (k+1)).flatMap (viewC h.cells o)=((h.roots.map (nameI o)++(o.take k).flatMap (viewC h.cells o))++[l.data,((n2:Nat):Int)])++l.refs.map (nameI o)):=hid (by
   rw[flat_take _ hx0,hn2]
   unfold viewC
   rw[cel_at hx]
   simp)
  generalize h.roots.map (nameI o)++(o.take k).flatMap (viewC h.cells o)=p at *
  obtain⟨P,kP,rfl,-⟩:=H.formI 0 rfl
  have i1:(0:Int)<=(k:Int):=by omega
  have i2:(k:Int)<(o.length:Int):=by omega
  have i3:(0:Int)<=(q:Int):=by omega
  have i4:(q:Int)<(m:Int):=by omega
  have e1:(0:Int)<=1:=by decide
  clear hp0 hp1 hn2
  go_wp2_with fail
  have HX:=H.drew
  have H2:=(H.box [.bool l.used,.int .i64 l.data,.slice A2 n2 c2] 68).drew
  clear H
  obtain⟨a0,a1,-,-⟩:=HX.box2 2 rfl
  obtain⟨z0,-⟩:=HX.elem 1 rfl (j:=k) (u:=.int .i64 (q:Int)) (by rw[List.getElem?_map,hx0.out];rfl)
  have g1:=HX.ro q1 hbb
  have g2:=HX.ro q2 hbb
  have g3:=HX.ro q3 hbb
  clear q1 q2 q3 hx0
  refine wp_region_tree (fun w'=>w'.cell? ⟨w.heap.size,0,none⟩=some (.slice (some ⟨b,ob,none⟩) m d)/\w'.cell? ⟨gO,k,none⟩=some (.int .i64 (q:Int))/\w'.cell? ⟨b,ob+q*3,none⟩=some (.bool l.used)/\w'.cell? ⟨b,ob+q*3+1,none⟩=some (.int .i64 l.data)/\w'.cell? ⟨b,ob+q*3+2,none⟩=some (.slice A2 n2 c2)) 9 [] (.take 0 (.take 1 (.take 2 (.take 3 (.take 4 (.take 5 (.take 6 (.take 7 (.alt 8 (.alt 9 (.done) (.stop)) (.stop)))))))))) (by kernel_rfl) (by kernel_rfl) (by kernel_rfl) (⟨a0,z0,g1,g2,g3⟩) ?_
  simp only[fillT,lgz,Nat.reduceBEq]
  repeat first|(with_reducible apply po_take;(·(go_simp;done));(·(intro w' hS';(try dsimp only at hS');go_simp;try with_reducible rfl));simp only[lpa])|(with_reducible apply po_skip;(·(go_simp;done));simp only[lpa])
  with_reducible refine po_last ?_ (fun K hK=>?_)
  ·(go_simp;done)
  go_simp
  have hb:=below_alloc wr.drew (.cells #[.bool false,.int .i64 0,.slice none 0 0] 68)
  refine hK.out _ _ (.inr (⟨keept a0 hb,keept z0 hb,keept g1 hb,keept g2 hb,keept g3 hb⟩)) ?_
  clear hK K
  with_reducible refine po_last ?_ (fun K hK=>?_)
  ·(go_simp;done)
  go_simp
  refine hK.out _ _ (.inl rfl) ?_
  clear hK K
  refine po_done ?_
  generalize World.drew (World.alloc _ _)=wz at H2⊢
  clear hb a0 a1 z0 g1 g2 g3 HX
  have H6:=H2.litI [l.data,((n2:Nat):Int)] two_le_maxLen
  have HRd:=hid ((H6.owI 0 rfl).rdI)
  simp only[lml,Nat.reduceAdd,World.size_alloc,drew_size]at H6 HRd
  obtain⟨c0,c1,c2',-,-,-⟩:=H2.box3 0 rfl
  obtain⟨d0,d1,d2,-,-,-⟩:=H6.box3 1 rfl
  generalize hzz:wr.heap.size=zz at *
  clear H2 hzz
  go_wp2_with (at_builtin;go_loud (refine wpList_pushO rfl (.tmp 47) (.tmp 53) rfl H6 2 rfl rfl rfl HRd.out (by omega) ?_;intro A3 k3 w5 H7;simp only[lsz]at H7;clear c0 c1 c2' d0 d1 d2;obtain⟨d0,d1,d2,-,-,-⟩:=H7.box3 1 rfl))
  have H8:=H7.order [2,1,3,4] (L':=[.ints (.slice A3 (p++[l.data,((n2:Nat):Int)]).length k3) ((p++[l.data,((n2:Nat):Int)])++(l.refs.take 0).map (nameI o)),.box zz [.bool l.used,.int .i64 l.data,.slice A2 n2 c2] 68,.ints (.slice (some ⟨gO,0,none⟩) o.length kO) o,.box w.heap.size [.slice (some ⟨b,ob,none⟩) m d,.slice D' m' d'] 29]) (by decide) (by simp)
  rw[show Value.slice A3 (p++[l.data,((n2:Nat):Int)]).length k3=.slice A3 (p.length+2) k3 from by simp]at H8
  have hp2:(p++[l.data,((n2:Nat):Int)]).length<=1002:=by simp;omega
  generalize p++[l.data,((n2:Nat):Int)]=p2 at *
  clear H6 H7 HRd d0 d1 d2
  go_loopw [3,8] (fun v3 i ws=>∃ j:Nat,i=.int .i64 j/\j<=n2/\Owns w.heap.size w ws [.ints v3 (p2++(l.refs.take j).map (nameI o)),.box zz [.bool l.used,.int .i64 l.data,.slice A2 n2 c2] 68,.ints (.slice (some ⟨gO,0,none⟩) o.length kO) o,.box w.heap.size [.slice (some ⟨b,ob,none⟩) m d,.slice D' m' d'] 29]) (fun _ i _=>n2 - (intOf i).toNat)
  case atStart=>exact⟨0,rfl,Nat.zero_le _,H8⟩
  case round =>
   clear H8
   obtain⟨j,rfl,hj,H⟩:=hrel
   obtain⟨y0,y1,y2,-,-,-⟩:=H.box3 1 rfl
   by_cases hlj:j<n2
   ·obtain⟨b2,o2,r,rfl,hbb2,hx2,p1⟩:=RdI.at_ hrf hlj
    have g1:=H.ro p1 hbb2
    have hT2:=nameI_next (o:=o) hx2
    obtain⟨Y,hY⟩:∃ Y,Y=p2++(l.refs.take j).map (nameI o):=⟨_,rfl⟩
    have HY:Hid (p2++(l.refs.take (j+1)).map (nameI o)=Y++[nameI o r]):=hid (by rw[hY,hT2,List.append_assoc])
    have hYl:Y.length<=1002+j:=by rw[hY,List.length_append,List.length_map,List.length_take];omega
    rw[<-hY]at H
    obtain⟨A0,k0,rfl,-⟩:=H.formI 0 rfl
    clear p1 hx2 hY hT2
    go_wp2_with fail
    refine (l9Name_any _ _ _ _ _ o r (H.owI 2 rfl).rdI (by omega)).mono ?_
    rintro e w3 ⟨rfl,hb⟩
    generalize nameI o r=rn at *
    have H5:=(H.call hb).litI [rn] one_le_maxLen
    clear hb H y0 y1 y2 g1
    simp only[lml]at H5
    go_wp2_with (at_builtin;go_loud (refine wpList_pushO rfl (.tmp 62) (.tmp 70) rfl H5 1 rfl rfl rfl (rdI_new _ _ _ rfl) (by omega) ?_;intro A3 k3 w5 H6;simp only[lsz]at H6;generalize hN:Y++[rn]=N at *))
    have H7:=H6.erase 0
    simp only[List.eraseIdx_cons_zero]at H7
    clear H6
    go_roundw
    case rel=>exact⟨j+1,by go_num,by omega,by rw[HY.out];exact H7⟩
    case measure=>simp[intOf];omega
   ·rw[List.take_of_length_le (by omega),<-HS.out]at H
    have H9:=H.order [0,2,3] (L':=[.ints _ (h.roots.map (nameI o)++(o.take (k+1)).flatMap (viewC h.cells o)),.ints (.slice (some ⟨gO,0,none⟩) o.length kO) o,.box w.heap.size [.slice (some ⟨b,ob,none⟩) m d,.slice D' m' d'] 29]) (by decide) rfl
    clear H
    go_wp2
    go_roundw
    case rel=>exact⟨k+1,by go_num,by omega,H9⟩
    case measure=>simp[intOf];omega
 ·rw[List.take_of_length_le (by omega)]at H
  obtain⟨P,kP,rfl,-⟩:=H.formI 0 rfl
  have HO2:=hid H
  clear H hlen
  go_wp2
  go_ret
  exact HO2.out.toI 0 rfl
set_option maxHeartbeats 3200000 in
set_option maxRecDepth 20000 in
theorem specSameView_yes (w:World) (B B':Nat) (u v:Value) (a b:Hp) (ha:RdH w B u a) (hb:RdH w B' v b) (oka:heapOk a=true) (okb:heapOk b=true) (he:mView a=mView b):
  Calls Tryz.prog 56 #[u,v] w fun e w'=>e=.returned (.bool true)/\Below w.heap.size w w':=by
 have ha':=ha.top
 have hb':=hb.top
 obtain⟨D,m,d,D',m',d',rfl,hC,hR⟩:=ha.top
 obtain⟨E,q,f,E',q',f',rfl,hC2,hR2⟩:=hb.top
 rw[mView_yes oka,mView_yes okb]at he
 obtain⟨V,hV⟩:∃ V,V=viewH a:=⟨_,rfl⟩
 have hVl:4<=V.length:=by
  rw[hV]
  unfold viewH
  rw[List.length_append,List.length_map,(heapOk_small oka).2]
  omega
 have HVa:=hid hV
 have HVb:Hid (V=viewH b):=hid (hV.trans he)
 have HA:=hid oka
 have HB:=hid okb
 clear hV he oka okb
 have H:=((Owns.nil w).box [.slice D m d,.slice D' m' d'] 29).box [.slice E q f,.slice E' q' f'] 29
 simp only[lnm]at H
 obtain⟨x0,x1,-,-⟩:=H.box2 1 rfl
 go_enter Tryz.func56,Tryz.ntmps56
 go_wp2_with fail
 refine (specViewOf_any _ _ _ a (ha'.below H.below) HA.out).mono ?_
 rintro e w1 ⟨va,rfl,ho,hb1⟩
 rw[<-HVa.out]at ho
 replace H:=H.madeI ho hb1
 clear ho hb1 x0 x1
 obtain⟨VA,kA,rfl,-⟩:=H.formI 0 rfl
 obtain⟨y0,y1,-,-⟩:=H.box2 1 rfl
 go_wp2_with fail
 refine (specViewOf_any _ _ _ b (hb'.below H.below) HB.out).mono ?_
 rintro e w2 ⟨vb,rfl,ho,hb1⟩
 rw[<-HVb.out]at ho
 replace H:=H.madeI ho hb1
 clear ho hb1 y0 y1
 obtain⟨VB,kB,rfl,-⟩:=H.formI 0 rfl
 have k0:((V.length:Int) == 0)=false:=by simp;intro h;rw[h]at hVl;simp at hVl
 obtain⟨gA,cA,eA,hn1,hm1,-,-⟩:=H.rowAt 1 rfl (by omega)
 unfold maxLen at hm1
 have hV40:V.length<=9223372036854775807:=by omega
 clear hn1 hm1
 obtain⟨gB,cB,eB,-,-,-,-⟩:=H.rowAt 0 rfl (by omega)
 simp only[Value.slice.injEq,true_and]at eA eB
 obtain⟨rfl,rfl⟩:=eA
 obtain⟨rfl,rfl⟩:=eB
 go_wp2_with fail
 go_loopw [7] (fun i wr=>∃ k:Nat,i=.int .i64 k/\k<=V.length/\Owns w.heap.size w wr [.ints (.slice (some ⟨gB,0,none⟩) V.length kB) V,.ints (.slice (some ⟨gA,0,none⟩) V.length kA) V,.box (w.heap.size+1) [.slice E q f,.slice E' q' f'] 29,.box w.heap.size [.slice D m d,.slice D' m' d'] 29]) (fun i _=>V.length - (intOf i).toNat)
 case atStart=>exact⟨0,rfl,Nat.zero_le _,H⟩
 case round =>
  clear H
  obtain⟨k,rfl,hk,H⟩:=hrel
  by_cases hlt:k<V.length
  ·obtain⟨z,hz⟩:∃ z,Hid (V[k]?=some z):=⟨_,hid (List.getElem?_eq_getElem hlt)⟩
   have i1:(k:Int)<(V.length:Int):=by omega
   go_wp2_with fail
   have HX:=H.drew
   obtain⟨m0,-⟩:=HX.elem 0 rfl (j:=k) (u:=.int .i64 z) (by rw[List.getElem?_map,hz.out];rfl)
   obtain⟨m1,-⟩:=HX.elem 1 rfl (j:=k) (u:=.int .i64 z) (by rw[List.getElem?_map,hz.out];rfl)
   clear H
   refine wp_region_tree (fun w'=>w'.cell? ⟨gA,k,none⟩=some (.int .i64 z)/\w'.cell? ⟨gB,k,none⟩=some (.int .i64 z)) 9 [] (.take 0 (.take 1 (.take 2 (.take 3 (.take 4 (.take 5 (.take 6 (.take 7 (.take 8 (.done)))))))))) (by kernel_rfl) (by kernel_rfl) (by kernel_rfl) (⟨m1,m0⟩) ?_
   simp only[fillT,lgz,Nat.reduceBEq]
   repeat first|(with_reducible apply po_take;(·(go_simp;done));(·(intro w' hS';(try dsimp only at hS');go_simp;try with_reducible rfl));simp only[lpa])|(with_reducible apply po_skip;(·(go_simp;done));simp only[lpa])
   refine po_done ?_
   go_wp2_with fail
   go_roundw
   case rel=>exact⟨k+1,by go_num,by omega,HX⟩
   case measure=>simp[intOf];omega
  ·have HD:=hid H.below
   clear H
   go_wp2
   go_ret
   exact⟨rfl,HD.out⟩
theorem manB_one (cs:List Cmd) (L:Int):mManB 1 cs L=(cmdsOk cs && inR L 1 40):=by
 rw[manB_eq]
 show (_ && true && true)=_
 rw[Bool.and_true,Bool.and_true]
theorem man_same (cs:List Cmd) (L m:Int) (h:mManB m cs L=true):heapOk (mManH m cs L)=true/\heapOk (mManH 1 cs L)=true/\mView (mManH 1 cs L)=mView (mManH m cs L):=by
 have h1:mManB 1 cs L=true:=by
  rw[manB_eq]at h
  simp only[Bool.and_eq_true]at h
  rw[manB_one,h.1.1.1,h.1.1.2];rfl
 obtain⟨a1,a2⟩:=man_view h
 obtain⟨b1,b2⟩:=man_view h1
 exact⟨a1,b1,b2.trans a2.symm⟩
theorem man_run (cs:List Cmd) (L m:Int) (h:mManB m cs L=true):heapOk (mManH m cs L)=true/\heapOk (mRun cs)=true/\mView (mManH m cs L)=mView (mRun cs):=by
 obtain⟨a1,a2⟩:=man_view h
 rw[manB_eq]at h
 simp only[Bool.and_eq_true]at h
 exact⟨a1,run_ok h.1.1.1,a2⟩
set_option maxHeartbeats 6400000 in
set_option maxRecDepth 20000 in
theorem implSameManagers_any (w:World) (B:Nat) (A:Option Addr) (n c:Nat) (cs:List Cmd) (hr:RdQ w B A n c cs) (LI:Int):
  Calls Tryz.prog 23 #[.slice A n c,.int .i64 LI] w fun e w'=>e=.returned (.bool (cmdsOk cs && inR LI 1 40))/\Below w.heap.size w w':=by
 have hr:=hr.top
 have H0:=Owns.nil w
 have HMv:=hid (fun m=>man_same cs LI m)
 have HM1:=hid (manB_one cs LI)
 go_enter Tryz.func23,Tryz.ntmps23
 go_wp2_with fail
 refine (implRunManager_any _ _ _ _ _ cs hr 1 LI).mono ?_
 rintro e w1 ⟨cv,rvs,rv,rfl,H⟩
 rw[HM1.out]
 generalize mManH 1 cs LI=F at *
 generalize hg:(cmdsOk cs && inR LI 1 40)=good at *
 have HG:=hid hg
 clear hg H0 HM1
 obtain⟨C,kC,rfl,-⟩:=H.formC 0 rfl
 obtain⟨R,kR,rfl,-⟩:=H.formI 1 rfl
 replace H:=H.box [.slice C F.cells.length kC,.slice R F.roots.length kR] 29
 cases good
 ·have HB:=hid H.below
  clear H
  go_wp2
  go_ret
  exact⟨by rw[HG.out];rfl,HB.out⟩
 go_wp2_with fail
 generalize w1.heap.size=g at *
 go_loopw [7] (fun i wr=>∃ k:Nat,i=.int .i64 ((k:Int)+1)/\k<=7/\Owns w.heap.size w wr [.box g [.slice C F.cells.length kC,.slice R F.roots.length kR] 29,.cells (.slice C F.cells.length kC) rvs F.cells,.ints (.slice R F.roots.length kR) F.roots]) (fun i _=>8 - (intOf i).toNat)
 case atStart=>exact⟨0,rfl,Nat.zero_le _,H⟩
 case round =>
  clear H
  obtain⟨k,rfl,hk,H⟩:=hrel
  by_cases hlt:k<7
  ·have j1:((k:Int)+1)<=7:=by omega
   obtain⟨x0,x1,-,-⟩:=H.box2 0 rfl
   go_wp2_with fail
   refine (implRunManager_any _ _ _ _ _ cs (hr.below H.below) ((k:Int)+1) LI).mono ?_
   rintro e w4 ⟨cv,rvs2,rv,rfl,K⟩
   have HV:=hid (HMv.out ((k:Int)+1))
   generalize mManB ((k:Int)+1) cs LI=tb at *
   generalize mManH ((k:Int)+1) cs LI=X at *
   replace K:=H.merge K
   simp only[lca]at K
   clear H x0 x1
   obtain⟨C2,kC2,rfl,-⟩:=K.formC 0 rfl
   obtain⟨R2,kR2,rfl,-⟩:=K.formI 1 rfl
   have K2:=K.box [.slice C2 X.cells.length kC2,.slice R2 X.roots.length kR2] 29
   clear K
   obtain⟨y0,y1,-,-⟩:=K2.box2 0 rfl
   obtain⟨x0,x1,-,-⟩:=K2.box2 3 rfl
   cases tb
   ·have H7:=K2.drop 3
    simp only[List.drop_succ_cons,List.drop_zero]at H7
    clear K2
    go_wp2_with fail
    go_roundw
    case rel=>exact⟨k+1,by go_num,by omega,H7⟩
    case measure=>simp[intOf];omega
   ·obtain⟨o1,o2,o3⟩:=HV.out rfl
    have O1:=hid o1
    have O2:=hid o2
    have O3:=hid o3
    clear o1 o2 o3 HV
    go_wp2_with fail
    refine (sameView_yes _ _ _ _ _ F X (K2.rdH 4 5 rfl rfl) (K2.rdH 1 2 rfl rfl) O2.out O1.out O3.out).mono ?_
    rintro e w6 ⟨rfl,hb⟩
    have H7:=(K2.call hb).drop 3
    simp only[List.drop_succ_cons,List.drop_zero]at H7
    clear K2 hb x0 x1 y0 y1
    go_wp2_with fail
    go_roundw
    case rel=>exact⟨k+1,by go_num,by omega,H7⟩
    case measure=>simp[intOf];omega
  ·have j1:¬ ((k:Int)+1)<=7:=by omega
   have HB:=hid H.below
   clear H
   go_wp2
   go_ret
   exact⟨by rw[HG.out];rfl,HB.out⟩
set_option maxHeartbeats 6400000 in
set_option maxRecDepth 20000 in
theorem specSameManagers_any (w:World) (B:Nat) (A:Option Addr) (n c:Nat) (cs:List Cmd) (hr:RdQ w B A n c cs) (LI:Int):
  Calls Tryz.prog 24 #[.slice A n c,.int .i64 LI] w fun e w'=>e=.returned (.bool (cmdsOk cs && inR LI 1 40))/\Below w.heap.size w w':=by
 have hr:=hr.top
 have HMv:=hid (fun m=>man_run cs LI m)
 go_enter Tryz.func24,Tryz.ntmps24
 go_wp2_with fail
 refine (specRunHeap_any _ _ _ _ _ cs hr).mono ?_
 rintro e w1 ⟨cv,rvs,rv,rfl,H⟩
 generalize mRun cs=F at *
 obtain⟨C,kC,rfl,-⟩:=H.formC 0 rfl
 obtain⟨R,kR,rfl,-⟩:=H.formI 1 rfl
 replace H:=H.box [.slice C F.cells.length kC,.slice R F.roots.length kR] 29
 go_wp2_with fail
 generalize w1.heap.size=g at *
 go_loopw [6] (fun i wr=>∃ k:Nat,i=.int .i64 ((k:Int)+1)/\k<=7/\Owns w.heap.size w wr [.box g [.slice C F.cells.length kC,.slice R F.roots.length kR] 29,.cells (.slice C F.cells.length kC) rvs F.cells,.ints (.slice R F.roots.length kR) F.roots]) (fun i _=>8 - (intOf i).toNat)
 case atStart=>exact⟨0,rfl,Nat.zero_le _,H⟩
 case round =>
  clear H
  obtain⟨k,rfl,hk,H⟩:=hrel
  by_cases hlt:k<7
  ·have j1:((k:Int)+1)<=7:=by omega
   obtain⟨x0,x1,-,-⟩:=H.box2 0 rfl
   go_wp2_with fail
   refine (specRunManager_any _ _ _ _ _ cs (hr.below H.below) ((k:Int)+1) LI).mono ?_
   rintro e w4 ⟨cv,rvs2,rv,rfl,K⟩
   have HV:=hid (HMv.out ((k:Int)+1))
   generalize mManB ((k:Int)+1) cs LI=tb at *
   generalize mManH ((k:Int)+1) cs LI=X at *
   replace K:=H.merge K
   simp only[lca]at K
   clear H x0 x1
   obtain⟨C2,kC2,rfl,-⟩:=K.formC 0 rfl
   obtain⟨R2,kR2,rfl,-⟩:=K.formI 1 rfl
   have K2:=K.box [.slice C2 X.cells.length kC2,.slice R2 X.roots.length kR2] 29
   clear K
   obtain⟨y0,y1,-,-⟩:=K2.box2 0 rfl
   obtain⟨x0,x1,-,-⟩:=K2.box2 3 rfl
   cases tb
   ·have H7:=K2.drop 3
    simp only[List.drop_succ_cons,List.drop_zero]at H7
    clear K2
    go_wp2_with fail
    go_roundw
    case rel=>exact⟨k+1,by go_num,by omega,H7⟩
    case measure=>simp[intOf];omega
   ·obtain⟨o1,o2,o3⟩:=HV.out rfl
    have O1:=hid o1
    have O2:=hid o2
    have O3:=hid o3
    clear o1 o2 o3 HV
    go_wp2_with fail
    refine (specSameView_yes _ _ _ _ _ X F (K2.rdH 1 2 rfl rfl) (K2.rdH 4 5 rfl rfl) O1.out O2.out O3.out).mono ?_
    rintro e w6 ⟨rfl,hb⟩
    have H7:=(K2.call hb).drop 3
    simp only[List.drop_succ_cons,List.drop_zero]at H7
    clear K2 hb x0 x1 y0 y1
    go_wp2_with fail
    go_roundw
    case rel=>exact⟨k+1,by go_num,by omega,H7⟩
    case measure=>simp[intOf];omega
  ·have j1:¬ ((k:Int)+1)<=7:=by omega
   clear HMv
   go_wp2_with fail
   refine (specCommandsValid_any _ _ _ _ _ cs (hr.below H.below)).mono ?_
   rintro e w3 ⟨rfl,hb⟩
   replace H:=H.call hb
   have HB:=hid H.below
   clear H hb
   generalize hv:cmdsOk cs=vb at *
   have HG:=hid hv
   clear hv
   cases vb
   ·go_wp2
    go_ret
    exact⟨by rw[HG.out];rfl,HB.out⟩
   go_wp2_with fail
   refine (l1In_b _ _ _ _).mono ?_
   rintro e w4 ⟨rfl,hw⟩
   obtain rfl:=hw
   generalize hv:inR LI 1 40=lb at *
   have HG2:=hid hv
   clear hv
   cases lb
   ·go_wp2
    go_ret
    exact⟨by rw[HG.out,HG2.out];rfl,HB.out⟩
   ·go_wp2
    go_ret
    exact⟨by rw[HG.out,HG2.out];rfl,HB.out⟩
def DrewB (lo:Nat) (w0:World) (L:List OB) (i g:Nat) (A:Option Addr) (n c p:Nat) (e:Ending) (w':World):Prop:=
 ∃ (o:Cmd) (p':Nat),e=.returned (cmdV o)/\p<=p'/\p'<=p+20/\Owns lo w0 w' (L.set i (.rdr g A n c p'))
set_option maxHeartbeats 12800000 in
set_option maxRecDepth 20000 in
theorem command_both {lo:Nat}{w0 w:World}{L:List OB}{g:Nat}{A:Option Addr}{n c p:Nat}(h:Owns lo w0 w L) (i:Nat) (hX:L[i]?=some (.rdr g A n c p)) {bs:List Int}(hr:RdU w0 lo A n c bs) (hp:p<=900000) (d:Int) (hd:d=0\/d=1):
  Calls Tryz.prog 82 #[.pointer (some ⟨g,0,none⟩),.int .i64 d] w (DrewB lo w0 L i g A n c p):=by
 have H1:=h.box [.int .i64 0,.int .i64 0,.int .i64 0,.int .i64 0] 79
 go_enter Tryz.func82,Tryz.ntmps82
 go_upto_region 1 with fail
 go_cut [5] (fun s5 wx=>∃ (q:Nat) (t:Int) (a:Nat),s5=.pointer (some ⟨q,0,none⟩)/\(t=1\/t=2\/t=3\/t=4\/t=5\/t=6)/\a<4/\Owns lo w0 wx (.box q [.int .i64 t,.int .i64 a,.int .i64 0,.int .i64 0] 79::.box w.heap.size [.int .i64 0,.int .i64 0,.int .i64 0,.int .i64 0] 79::L.set i (.rdr g A n c (p+2))))
 case first =>
  have HX:=(H1.drew.noInts).noInts
  refine wp_region_tree (fun _=>True) 9 [4] (.take 1 (.take 5 (.alt 0 (.alt 2 (.take 3 (.alt 4 (.alt 6 (.take 7 (.alt 8 (.alt 9 (.done) (.stop)) (.stop))) (.alt 8 (.alt 6 (.take 7 (.alt 9 (.done) (.stop))) (.stop)) (.stop))) (.alt 6 (.alt 4 (.take 7 (.alt 8 (.alt 9 (.done) (.stop)) (.stop))) (.alt 8 (.alt 4 (.take 7 (.alt 9 (.done) (.stop))) (.stop)) (.stop))) (.alt 8 (.alt 4 (.alt 6 (.take 7 (.alt 9 (.done) (.stop))) (.stop)) (.alt 6 (.alt 4 (.take 7 (.alt 9 (.done) (.stop))) (.stop)) (.stop))) (.stop))))) (.alt 8 (.alt 2 (.take 3 (.alt 4 (.alt 6 (.take 7 (.alt 9 (.done) (.stop))) (.stop)) (.alt 6 (.alt 4 (.take 7 (.alt 9 (.done) (.stop))) (.stop)) (.stop)))) (.stop)) (.stop))) (.alt 2 (.alt 0 (.take 3 (.alt 4 (.alt 6 (.take 7 (.alt 8 (.alt 9 (.done) (.stop)) (.stop))) (.alt 8 (.alt 6 (.take 7 (.alt 9 (.done) (.stop))) (.stop)) (.stop))) (.alt 6 (.alt 4 (.take 7 (.alt 8 (.alt 9 (.done) (.stop)) (.stop))) (.alt 8 (.alt 4 (.take 7 (.alt 9 (.done) (.stop))) (.stop)) (.stop))) (.alt 8 (.alt 4 (.alt 6 (.take 7 (.alt 9 (.done) (.stop))) (.stop)) (.alt 6 (.alt 4 (.take 7 (.alt 9 (.done) (.stop))) (.stop)) (.stop))) (.stop))))) (.alt 6 (.alt 0 (.take 3 (.alt 4 (.take 7 (.alt 8 (.alt 9 (.done) (.stop)) (.stop))) (.alt 8 (.alt 4 (.take 7 (.alt 9 (.done) (.stop))) (.stop)) (.stop)))) (.alt 8 (.alt 0 (.take 3 (.alt 4 (.take 7 (.alt 9 (.done) (.stop))) (.stop))) (.stop)) (.stop))) (.alt 8 (.alt 0 (.take 3 (.alt 4 (.alt 6 (.take 7 (.alt 9 (.done) (.stop))) (.stop)) (.alt 6 (.alt 4 (.take 7 (.alt 9 (.done) (.stop))) (.stop)) (.stop)))) (.alt 6 (.alt 0 (.take 3 (.alt 4 (.take 7 (.alt 9 (.done) (.stop))) (.stop))) (.stop)) (.stop))) (.stop)))) (.alt 8 (.alt 0 (.alt 2 (.take 3 (.alt 4 (.alt 6 (.take 7 (.alt 9 (.done) (.stop))) (.stop)) (.alt 6 (.alt 4 (.take 7 (.alt 9 (.done) (.stop))) (.stop)) (.stop)))) (.stop)) (.alt 2 (.alt 0 (.take 3 (.alt 4 (.alt 6 (.take 7 (.alt 9 (.done) (.stop))) (.stop)) (.alt 6 (.alt 4 (.take 7 (.alt 9 (.done) (.stop))) (.stop)) (.stop)))) (.alt 6 (.alt 0 (.take 3 (.alt 4 (.take 7 (.alt 9 (.done) (.stop))) (.stop))) (.stop)) (.stop))) (.stop))) (.stop)))))) (by kernel_rfl) (by kernel_rfl) (by kernel_rfl) (trivial) ?_
  simp only[fillT,lgz,Nat.reduceBEq]
  revert HX
  generalize World.drew _=wd
  intro HX
  repeat' first
   | with_reducible exact po_stop
   | (with_reducible apply po_take;(·(go_simp;done));(·(intro w' hS';(try dsimp only at hS');go_simp;try with_reducible rfl));simp only[lpa])
   | (with_reducible apply po_skip;(·(go_simp;done));simp only[lpa])
   | (
     with_reducible refine po_done ?_
     go_wp2_with fail
     go_meet
     exact⟨_,t,x2,rfl,hmem,hx2,HX.erase 0⟩)
   | (
     with_reducible refine po_run ?_ (fun K hK=>?_) ?_
     ·(go_simp;done)
     first
      | (
        with_reducible show Oper.wp _ ⟨some 8,_,_,_,_,_⟩ _ _ _ _
        go_simp
        refine (pick_own HX (i+3) hX hr (by omega) 10 (by unfold I64;omega)).mono ?_
        rintro e wa ⟨x1,rfl,hx1,HY⟩
        replace hx1:x1<10:=by omega
        have hy1:(x1:Int)<10:=by omega
        obtain⟨t,ht,hmem⟩:=opTbl_at hx1
        simp only[List.set_cons_succ]at HY
        replace HX:=HY
        clear HY
        refine hK.out _ _ (.inr (trivial)) ?_
        clear hK K)
      | (
        with_reducible show Oper.wp _ ⟨some 12,_,_,_,_,_⟩ _ _ _ _
        go_simp
        refine (pick_own HX (i+3) (set_get hX _) hr (by omega) 4 (by unfold I64;omega)).mono ?_
        rintro e wb ⟨x2,rfl,hx2,HY⟩
        replace hx2:x2<4:=by omega
        simp only[lss]at HY
        replace HX:=HY
        clear HY
        refine hK.out _ _ (.inr (trivial)) ?_
        clear hK K)
      | (
        with_reducible show Oper.wp _ ⟨none,_,_,_,_,_⟩ _ _ _ _
        obtain⟨e0,e1,e2,e3,e4,e5,e6,e7⟩:=box4 HX 1 rfl
        go_simp
        replace HX:=(((HX.putBox 1 rfl 0 (.int .i64 t)).putBox 1 rfl 1 (.int .i64 (x2:Int))).putBox 1 rfl 2 (.int .i64 0)).putBox 1 rfl 3 (.int .i64 0)
        simp only[lsz]at HX
        clear e0 e1 e2 e3 e4 e5 e6 e7
        refine hK.out _ _ (.inl rfl) ?_
        clear hK K)
      | (
        with_reducible show Oper.wp _ ⟨some 6,_,_,_,_,_⟩ _ _ _ _
        go_simp
        replace HX:=(HX.litI opTbl (by decide)).erase 1
        simp only[opTbl,lml,Nat.reduceAdd,List.eraseIdx_cons_zero,List.eraseIdx_cons_succ]at HX
        refine hK.out _ _ (.inr (trivial)) ?_
        clear hK K
        revert HX
        generalize World.alloc _ _=wz
        intro HX)
      | (
        with_reducible show Oper.wp _ ⟨some 5,_,_,_,_,_⟩ _ _ _ _
        go_simp
        replace HX:=((HX.box [.int .i64 0,.int .i64 0,.int .i64 0,.int .i64 0] 79).swap).erase 2
        simp only[List.eraseIdx_cons_zero,List.eraseIdx_cons_succ]at HX
        refine hK.out _ _ (.inr (trivial)) ?_
        clear hK K
        revert HX
        generalize World.alloc _ _=wz
        intro HX)
      | (
        with_reducible show Oper.wp _ ⟨some 10,_,_,_,_,_⟩ _ _ _ _
        obtain⟨z0,-⟩:=HX.elem 0 rfl (j:=x1) (u:=.int .i64 t) (by rw[List.getElem?_map,ht];rfl)
        go_simp
        clear z0
        refine hK.out _ _ (.inr (trivial)) ?_
        clear hK K))
 case rest =>
  obtain⟨q,t,a,rfl,hmem,ha,H2⟩:=hcut
  clear h H1
  have H:=H2
  clear H2
  obtain⟨b0,b1,b2,b3,b4,b5,b6,b7⟩:=box4 H 0 rfl
  go_upto_block 0 with fail
  go_cut [] (fun wx=>∃ (b d:Int) (p':Nat),p<=p'/\p'<=p+8/\Owns lo w0 wx (.box q [.int .i64 t,.int .i64 a,.int .i64 b,.int .i64 d] 79::.box w.heap.size [.int .i64 0,.int .i64 0,.int .i64 0,.int .i64 0] 79::L.set i (.rdr g A n c p')))
  case first =>
   rcases (show t=1\/(t=2\/t=3)\/t=4\/t=5\/t=6 by omega) with rfl|h23|rfl|rfl|rfl
   ·
    go_wp2_with fail
    refine (pick_own H (i+2) (set_get hX _) hr (by omega) 4 (by unfold I64;omega)).mono ?_
    rintro e w1 ⟨x1,rfl,hx1,H'⟩
    replace hx1:(x1:Int)<4:=by omega
    simp only[lss]at H'
    replace H:=H'
    clear H' b0 b1 b2 b3 b4 b5 b6 b7
    obtain⟨b0,b1,b2,b3,b4,b5,b6,b7⟩:=box4 H 0 rfl
    go_wp2_with fail
    refine (pick_own H (i+2) (set_get hX _) hr (by omega) 3 (by unfold I64;omega)).mono ?_
    rintro e w2 ⟨x2,rfl,hx2,H'⟩
    replace hx2:(x2:Int)<3:=by omega
    simp only[lss]at H'
    replace H:=H'
    clear H' b0 b1 b2 b3 b4 b5 b6 b7
    obtain⟨b0,b1,b2,b3,b4,b5,b6,b7⟩:=box4 H 0 rfl
    replace H:=H.litI [(x1:Int),1+(x2:Int)] (by show 2<=maxLen;unfold maxLen;omega)
    simp only[lml,Nat.reduceAdd]at H
    clear b0 b1 b2 b3 b4 b5 b6 b7
    obtain⟨b0,b1,b2,b3,b4,b5,b6,b7⟩:=box4 H 1 rfl
    go_wp2_with fail
    refine (pick_own H (i+3) (set_get hX _) hr (by omega) 2 (by unfold I64;omega)).mono ?_
    rintro e w3 ⟨x3,rfl,hx3,H'⟩
    replace hx3:(x3:Int)<2:=by omega
    simp only[lss]at H'
    replace H:=H'
    clear H' b0 b1 b2 b3 b4 b5 b6 b7
    obtain⟨b0,b1,b2,b3,b4,b5,b6,b7⟩:=box4 H 1 rfl
    obtain⟨B,hB⟩:∃ B:Int,([(x1:Int),1+(x2:Int)])[x3]?=some B:=⟨_,List.getElem?_eq_getElem (by show x3<2;omega)⟩
    obtain⟨z0,-⟩:=H.elem 0 rfl (j:=x3) (u:=.int .i64 B) (by rw[List.getElem?_map,hB];rfl)
    have P:=(H.erase 0).putBox 0 rfl 2 (.int .i64 B)
    simp only[List.eraseIdx_cons_zero,lsz]at P
    clear hB H
    go_wp2_with fail
    have H:=P
    clear P z0 b0 b1 b2 b3 b4 b5 b6 b7
    obtain⟨b0,b1,b2,b3,b4,b5,b6,b7⟩:=box4 H 0 rfl
    refine (pick_own H (i+2) (set_get hX _) hr (by omega) 100 (by unfold I64;omega)).mono ?_
    rintro e w4 ⟨x4,rfl,hx4,H'⟩
    replace hx4:(x4:Int)<100:=by omega
    simp only[lss]at H'
    replace H:=H'
    clear H' b0 b1 b2 b3 b4 b5 b6 b7
    obtain⟨b0,b1,b2,b3,b4,b5,b6,b7⟩:=box4 H 0 rfl
    have P:=H.putBox 0 rfl 3 (.int .i64 (x4:Int))
    simp only[lsz]at P
    replace H:=P
    clear P
    obtain⟨c0,c1,c2,c3,-,-,-,-⟩:=box4 H 0 rfl
    go_wp2_with fail
    go_meet
    exact⟨_,_,p+6,by omega,by omega,H⟩
   ·
    rcases h23 with rfl|rfl
    all_goals
     go_wp2_with fail
     refine (pick_own H (i+2) (set_get hX _) hr (by omega) 4 (by unfold I64;omega)).mono ?_
     rintro e w1 ⟨x1,rfl,hx1,H'⟩
     replace hx1:(x1:Int)<4:=by omega
     simp only[lss]at H'
     replace H:=H'
     clear H' b0 b1 b2 b3 b4 b5 b6 b7
     obtain⟨b0,b1,b2,b3,b4,b5,b6,b7⟩:=box4 H 0 rfl
     have P:=H.putBox 0 rfl 2 (.int .i64 (x1:Int))
     simp only[lsz]at P
     replace H:=P
     clear P
     obtain⟨c0,c1,c2,c3,-,-,-,-⟩:=box4 H 0 rfl
     go_wp2_with fail
     refine (pick_own H (i+2) (set_get hX _) hr (by omega) 3 (by unfold I64;omega)).mono ?_
     rintro e w2 ⟨x2,rfl,hx2,H'⟩
     replace hx2:(x2:Int)<3:=by omega
     simp only[lss]at H'
     replace H:=H'
     clear H' b0 b1 b2 b3 b4 b5 b6 b7 c0 c1 c2 c3
     obtain⟨b0,b1,b2,b3,b4,b5,b6,b7⟩:=box4 H 0 rfl
     go_wp2_with fail
     refine (pick_own H (i+2) (set_get hX _) hr (by omega) (1+(x2:Int)) (by unfold I64;omega)).mono ?_
     rintro e w3 ⟨x3,rfl,hx3,H'⟩
     replace hx3:(x3:Int)<3:=by omega
     simp only[lss]at H'
     replace H:=H'
     clear H' b0 b1 b2 b3 b4 b5 b6 b7
     obtain⟨b0,b1,b2,b3,b4,b5,b6,b7⟩:=box4 H 0 rfl
     have P:=H.putBox 0 rfl 3 (.int .i64 (x3:Int))
     simp only[lsz]at P
     replace H:=P
     clear P
     obtain⟨c0,c1,c2,c3,-,-,-,-⟩:=box4 H 0 rfl
     go_wp2_with fail
     go_meet
     exact⟨_,_,p+5,by omega,by omega,H⟩
   ·
    go_wp2_with fail
    refine (pick_own H (i+2) (set_get hX _) hr (by omega) 4 (by unfold I64;omega)).mono ?_
    rintro e w1 ⟨x1,rfl,hx1,H'⟩
    replace hx1:(x1:Int)<4:=by omega
    simp only[lss]at H'
    replace H:=H'
    clear H' b0 b1 b2 b3 b4 b5 b6 b7
    obtain⟨b0,b1,b2,b3,b4,b5,b6,b7⟩:=box4 H 0 rfl
    have P:=H.putBox 0 rfl 2 (.int .i64 (x1:Int))
    simp only[lsz]at P
    replace H:=P
    clear P
    obtain⟨c0,c1,c2,c3,-,-,-,-⟩:=box4 H 0 rfl
    go_wp2_with fail
    go_meet
    exact⟨_,_,p+3,by omega,by omega,H⟩
   ·
    go_wp2_with fail
    go_meet
    exact⟨_,_,p+2,by omega,by omega,H⟩
   ·
    go_wp2_with fail
    refine (pick_own H (i+2) (set_get hX _) hr (by omega) 100 (by unfold I64;omega)).mono ?_
    rintro e w1 ⟨x1,rfl,hx1,H'⟩
    replace hx1:(x1:Int)<100:=by omega
    simp only[lss]at H'
    replace H:=H'
    clear H' b0 b1 b2 b3 b4 b5 b6 b7
    obtain⟨b0,b1,b2,b3,b4,b5,b6,b7⟩:=box4 H 0 rfl
    have P:=H.putBox 0 rfl 2 (.int .i64 (x1:Int))
    simp only[lsz]at P
    replace H:=P
    clear P
    obtain⟨c0,c1,c2,c3,-,-,-,-⟩:=box4 H 0 rfl
    go_wp2_with fail
    go_meet
    exact⟨_,_,p+3,by omega,by omega,H⟩
  case rest =>
   obtain⟨b,c',p',hp0,hp1,K⟩:=hcut
   clear H b0 b1 b2 b3 b4 b5 b6 b7
   have H:=K
   clear K
   have HO:Calls Tryz.prog 83 #[.pointer (some ⟨g,0,none⟩),.int .i64 d] wc fun e w'=>∃ (bo:Bool) (p2:Nat),e=.returned (.bool bo)/\p'<=p2/\p2<=p'+1/\Owns lo w0 w' (.box q [.int .i64 t,.int .i64 a,.int .i64 b,.int .i64 c'] 79::.box w.heap.size [.int .i64 0,.int .i64 0,.int .i64 0,.int .i64 0] 79::L.set i (.rdr g A n c p2)):=by
    rcases hd with rfl|rfl
    ·refine (odd_zero _ _).mono ?_
     rintro e w5 ⟨rfl,hw⟩
     obtain rfl:=hw
     exact⟨false,p',rfl,Nat.le_refl _,by omega,H⟩
    ·refine (odd_own H (i+2) (set_get hX _) hr (by omega) 1 (by omega) (by omega)).mono ?_
     rintro e w5 ⟨bo,rfl,H'⟩
     simp only[lss]at H'
     exact⟨bo,p'+1,rfl,by omega,by omega,H'⟩
   obtain⟨b0,b1,b2,b3,b4,b5,b6,b7⟩:=box4 H 0 rfl
   go_wp2_with fail
   refine HO.mono ?_
   rintro e w5 ⟨bo,p2,rfl,hp3,hp4,H'⟩
   clear H HO b0 b1 b2 b3 b4 b5 b6 b7
   have H:=H'
   clear H'
   obtain⟨b0,b1,b2,b3,b4,b5,b6,b7⟩:=box4 H 0 rfl
   go_upto_if 56 with fail
   go_cut [] (fun wx=>∃ (o:Cmd) (p':Nat),p<=p'/\p'<=p+20/\Owns lo w0 wx (.box q [.int .i64 o.op,.int .i64 o.a,.int .i64 o.b,.int .i64 o.c] 79::.box w.heap.size [.int .i64 0,.int .i64 0,.int .i64 0,.int .i64 0] 79::L.set i (.rdr g A n c p')))
   case first =>
    cases bo
    ·go_wp2_with fail
     go_meet
     exact⟨⟨t,a,b,c'⟩,p2,by omega,by omega,H⟩
    go_wp2_with fail
    refine (pick_own H (i+2) (set_get hX _) hr (by omega) 4 (by unfold I64;omega)).mono ?_
    rintro e w6 ⟨x6,rfl,hx6,H'⟩
    simp only[lss]at H'
    replace H:=H'
    clear H' b0 b1 b2 b3 b4 b5 b6 b7
    obtain⟨b0,b1,b2,b3,b4,b5,b6,b7⟩:=box4 H 0 rfl
    have h4:x6=0\/x6=1\/x6=2\/x6=3:=by omega
    clear hx6
    rcases h4 with rfl|rfl|rfl|rfl
    ·
     replace H:=H.litI [0,7] (by show 2<=maxLen;unfold maxLen;omega)
     simp only[lml,Nat.reduceAdd]at H
     clear b0 b1 b2 b3 b4 b5 b6 b7
     obtain⟨b0,b1,b2,b3,b4,b5,b6,b7⟩:=box4 H 1 rfl
     go_wp2_with fail
     refine (pick_own H (i+3) (set_get hX _) hr (by omega) 2 (by unfold I64;omega)).mono ?_
     rintro e w7 ⟨x7,rfl,hx7,H'⟩
     replace hx7:(x7:Int)<2:=by omega
     simp only[lss]at H'
     replace H:=H'
     clear H' b0 b1 b2 b3 b4 b5 b6 b7
     obtain⟨b0,b1,b2,b3,b4,b5,b6,b7⟩:=box4 H 1 rfl
     obtain⟨B,hB⟩:∃ B:Int,([0,7]:List Int)[x7]?=some B:=⟨_,List.getElem?_eq_getElem (by show x7<2;omega)⟩
     obtain⟨z0,-⟩:=H.elem 0 rfl (j:=x7) (u:=.int .i64 B) (by rw[List.getElem?_map,hB];rfl)
     have P:=(H.erase 0).putBox 0 rfl 0 (.int .i64 B)
     simp only[List.eraseIdx_cons_zero,lsz]at P
     clear hB H
     go_wp2_with fail
     go_meet
     exact⟨⟨B,a,b,c'⟩,p2+2,by omega,by omega,P⟩
    ·
     replace H:=H.litI [-1,4] (by show 2<=maxLen;unfold maxLen;omega)
     simp only[lml,Nat.reduceAdd]at H
     clear b0 b1 b2 b3 b4 b5 b6 b7
     obtain⟨b0,b1,b2,b3,b4,b5,b6,b7⟩:=box4 H 1 rfl
     go_wp2_with fail
     refine (pick_own H (i+3) (set_get hX _) hr (by omega) 2 (by unfold I64;omega)).mono ?_
     rintro e w7 ⟨x7,rfl,hx7,H'⟩
     replace hx7:(x7:Int)<2:=by omega
     simp only[lss]at H'
     replace H:=H'
     clear H' b0 b1 b2 b3 b4 b5 b6 b7
     obtain⟨b0,b1,b2,b3,b4,b5,b6,b7⟩:=box4 H 1 rfl
     obtain⟨B,hB⟩:∃ B:Int,([-1,4]:List Int)[x7]?=some B:=⟨_,List.getElem?_eq_getElem (by show x7<2;omega)⟩
     obtain⟨z0,-⟩:=H.elem 0 rfl (j:=x7) (u:=.int .i64 B) (by rw[List.getElem?_map,hB];rfl)
     have P:=(H.erase 0).putBox 0 rfl 1 (.int .i64 B)
     simp only[List.eraseIdx_cons_zero,lsz]at P
     clear hB H
     go_wp2_with fail
     go_meet
     exact⟨⟨t,B,b,c'⟩,p2+2,by omega,by omega,P⟩
    ·
     replace H:=H.litI [-1,100] (by show 2<=maxLen;unfold maxLen;omega)
     simp only[lml,Nat.reduceAdd]at H
     clear b0 b1 b2 b3 b4 b5 b6 b7
     obtain⟨b0,b1,b2,b3,b4,b5,b6,b7⟩:=box4 H 1 rfl
     go_wp2_with fail
     refine (pick_own H (i+3) (set_get hX _) hr (by omega) 2 (by unfold I64;omega)).mono ?_
     rintro e w7 ⟨x7,rfl,hx7,H'⟩
     replace hx7:(x7:Int)<2:=by omega
     simp only[lss]at H'
     replace H:=H'
     clear H' b0 b1 b2 b3 b4 b5 b6 b7
     obtain⟨b0,b1,b2,b3,b4,b5,b6,b7⟩:=box4 H 1 rfl
     obtain⟨B,hB⟩:∃ B:Int,([-1,100]:List Int)[x7]?=some B:=⟨_,List.getElem?_eq_getElem (by show x7<2;omega)⟩
     obtain⟨z0,-⟩:=H.elem 0 rfl (j:=x7) (u:=.int .i64 B) (by rw[List.getElem?_map,hB];rfl)
     have P:=(H.erase 0).putBox 0 rfl 2 (.int .i64 B)
     simp only[List.eraseIdx_cons_zero,lsz]at P
     clear hB H
     go_wp2_with fail
     go_meet
     exact⟨⟨t,a,B,c'⟩,p2+2,by omega,by omega,P⟩
    ·
     replace H:=H.litI [-1,100] (by show 2<=maxLen;unfold maxLen;omega)
     simp only[lml,Nat.reduceAdd]at H
     clear b0 b1 b2 b3 b4 b5 b6 b7
     obtain⟨b0,b1,b2,b3,b4,b5,b6,b7⟩:=box4 H 1 rfl
     go_wp2_with fail
     refine (pick_own H (i+3) (set_get hX _) hr (by omega) 2 (by unfold I64;omega)).mono ?_
     rintro e w7 ⟨x7,rfl,hx7,H'⟩
     replace hx7:(x7:Int)<2:=by omega
     simp only[lss]at H'
     replace H:=H'
     clear H' b0 b1 b2 b3 b4 b5 b6 b7
     obtain⟨b0,b1,b2,b3,b4,b5,b6,b7⟩:=box4 H 1 rfl
     obtain⟨B,hB⟩:∃ B:Int,([-1,100]:List Int)[x7]?=some B:=⟨_,List.getElem?_eq_getElem (by show x7<2;omega)⟩
     obtain⟨z0,-⟩:=H.elem 0 rfl (j:=x7) (u:=.int .i64 B) (by rw[List.getElem?_map,hB];rfl)
     have P:=(H.erase 0).putBox 0 rfl 3 (.int .i64 B)
     simp only[List.eraseIdx_cons_zero,lsz]at P
     clear hB H
     go_wp2_with fail
     go_meet
     exact⟨⟨t,a,b,B⟩,p2+2,by omega,by omega,P⟩
   case rest =>
    clear H b0 b1 b2 b3 b4 b5 b6 b7
    obtain⟨o,p3,hq0,hq1,H⟩:=hcut
    obtain⟨b0,b1,b2,b3,b4,b5,b6,b7⟩:=box4 H 0 rfl
    obtain⟨y0,y1,y2,y3,y4,y5,y6,y7⟩:=box4 H 1 rfl
    have HZ:=(((H.putBox 1 rfl 0 (.int .i64 o.op)).putBox 1 rfl 1 (.int .i64 o.a)).putBox 1 rfl 2 (.int .i64 o.b)).putBox 1 rfl 3 (.int .i64 o.c)
    simp only[lsz]at HZ
    obtain⟨z0,z1,z2,z3,-,-,-,-⟩:=box4 HZ 1 rfl
    have HS:Hid (DrewB lo w0 L i g A n c p (.returned (cmdV o)) _):=hid ⟨o,p3,rfl,by omega,by omega,HZ.drop 2⟩
    clear H HZ
    go_wp2
    exact bodyPost_ret (by simp[results,Tryz.results82,go_sem,z0,z1,z2,z3]) rfl HS.out
section
def DrewPB (lo:Nat) (w0:World) (L:List OB) (i g:Nat) (A:Option Addr) (n c p:Nat) (e:Ending) (w':World):Prop:=
 ∃ (v:Value) (cs:List Cmd) (p':Nat),e=.returned v/\cs.length<=41/\p<=p'/\p'<=p+1000/\Owns lo w0 w' (.cmds v cs::L.set i (.rdr g A n c p'))
theorem cmdVals_take:∀ (m:Nat) (ps:List Cmd),cmdVals (ps.take m)=(cmdVals ps).take (m*4)
 | 0,ps=>by simp[cmdVals]
 | m+1,[]=>by simp[cmdVals]
 | m+1,p::ps=>by
  rw[List.take_succ_cons,show (m+1)*4=m*4+1+1+1+1 by omega]
  simp only[cmdVals,List.take_succ_cons,cmdVals_take m ps]
theorem zeros_cmd:∀ m:Nat,cmdVals (List.replicate m ⟨0,0,0,0⟩)=List.replicate (m*4) (Value.int .i64 0)
 | 0=>by simp[cmdVals]
 | m+1=>by
  rw[List.replicate_succ,cmdVals,zeros_cmd m,show (m+1)*4=m*4+1+1+1+1 by omega]
  simp only[List.replicate_succ]
section
variable {lo:Nat} {w0 w:World} {L:List OB}
theorem Owns.cutQ (h:Owns lo w0 w L) (i:Nat) {g c:Nat}{cs:List Cmd}(hX:L[i]?=some (.cmds (.slice (some ⟨g,0,none⟩) cs.length c) cs)) {m:Nat}(hm:m<=cs.length):Owns lo w0 w (L.set i (.cmds (.slice (some ⟨g,0,none⟩) m c) (cs.take m))):=by
 have h2:=h.shrink i hX m hm
 rw[<-cmdVals_take]at h2
 have e:(cs.take m).length=m:=by rw[List.length_take];omega
 show Owns lo w0 w (L.set i (.row 79 4 (.slice (some ⟨g,0,none⟩) m c) (cs.take m).length (cmdVals (cs.take m))))
 rw[e]
 exact h2
end
theorem wp_pushQO {lo:Nat}{w0 w:World}{L:List OB}{o:Oper}{a:Act}{K:Act->World->Prop}{Q:Exit->Act->World->Prop}(s x:Operand)
  (hop:o.op=.call { callee:=.builtin .append,args:=#[s,x],argTypes:=#[23,23] })
  (h:Owns lo w0 w L) (i:Nat) {v:Value} {cs:List Cmd} {q:Cmd} (hX:L[i]?=some (.cmds v cs))
  (hs:a.eval s=v) {g k:Nat} (hx:a.eval x=.slice (some ⟨g,0,none⟩) 1 k) (hb:w.heap[g]?=some (.cells #[.int .i64 q.op,.int .i64 q.a,.int .i64 q.b,.int .i64 q.c] 79)) (hn:cs.length+1<=1099511627776)
  (hK:∀ A' c' w',Owns lo w0 w' (L.set i (.cmds (.slice A' (cs++[q]).length c') (cs++[q])))->K (a.put o.dst (.slice A' (cs++[q]).length c')) w'):o.wp Tryz.prog a w K Q:=by
 obtain⟨A',c',w',hrun,hO⟩:=h.pushQ i hX (k:=k) hb hn o.type
 unfold Oper.wp execOp
 simp only[hop,resolve,invoke,builtin,Sem.run_bind,Sem.run_pure,Result.andThen_ok,List.map_toArray,List.map_cons,List.map_nil,hs,hx,hrun]
 exact hK A' c' w' hO
set_option maxHeartbeats 3200000 in
set_option maxRecDepth 20000 in
theorem program_both {lo:Nat}{w0 w:World}{L:List OB}{g:Nat}{A:Option Addr}{n c p:Nat}(h:Owns lo w0 w L) (i:Nat) (hX:L[i]?=some (.rdr g A n c p)) {bs:List Int}(hr:RdU w0 lo A n c bs) (hp:p<=800000) (N:Int) (hN0:1<=N) (hN1:N<=1000):
  Calls Tryz.prog 58 #[.pointer (some ⟨g,0,none⟩),.int .i64 N] w (DrewPB lo w0 L i g A n c p):=by
 have H1:Owns lo w0 (w.alloc (.cells #[] 79)) (.cmds (.slice (some ⟨w.heap.size,0,none⟩) 0 0) []::L):=
  h.row (below_alloc _ _) (World.ownsRow_lit (e:=79) (size:=4) w #[] 0 (Nat.le_refl _) zero_le_maxLen (by simp))
 go_enter Tryz.func58,Tryz.ntmps58
 go_wp2_with fail
 refine (pick_own H1 (i+1) hX hr (by omega) 41 (by unfold I64;omega)).mono ?_
 rintro e w1 ⟨x,rfl,hx,H2⟩
 replace hx:(x:Int)<41:=by omega
 simp only[List.set_cons_succ]at H2
 go_wp2_with fail
 go_loopw [5,6] (fun v5 i6 wr=>∃ (v:Value) (k:Nat) (cs:List Cmd) (p':Nat),v5=v/\i6=.int .i64 k/\k<=x/\cs.length+k=x/\p<=p'/\p'<=p+1+20*cs.length/\Owns lo w0 wr (.cmds v cs::L.set i (.rdr g A n c p'))) (fun _ i _=>(intOf i).toNat)
 case atStart=>exact⟨_,x,[],p+1,rfl,rfl,Nat.le_refl _,by simp,by omega,by simp,H2⟩
 case round =>
  clear H1 H2
  obtain⟨v,k,cs,p',hv,rfl,hk,hl,hp1,hp2,H⟩:=hrel
  obtain rfl:=hv.symm
  by_cases hk0:k=0
  ·subst hk0
   have hl40:cs.length<=40:=by omega
   clear hk hl
   go_wp2_with fail
   refine (odd_own H (i+1) (set_get hX _) hr (by omega) N hN0 hN1).mono ?_
   rintro e w2 ⟨bo,rfl,H2⟩
   simp only[lss]at H2
   clear H
   cases bo
   ·have HS:Hid (DrewPB lo w0 L i g A n c p (.returned v) w2):=hid ⟨v,cs,p'+1,rfl,by omega,by omega,by omega,H2⟩
    clear H2
    go_wp2
    go_ret
    exact HS.out
   ·go_wp2_with fail
    refine (pick_own H2 (i+1) (set_get hX _) hr (by omega) 2 (by unfold I64;omega)).mono ?_
    rintro e w3 ⟨x3,rfl,hx3,H3⟩
    simp only[lss]at H3
    clear H2
    by_cases c3:x3=0
    ·subst c3
     have hc3:cs=[]\/(0<cs.length/\cs.length<=9)\/9<cs.length:=by
      rcases Nat.eq_zero_or_pos cs.length with c0|c0
      ·exact .inl (List.length_eq_zero_iff.1 c0)
      ·exact .inr (by omega)
     rcases hc3 with rfl|⟨c0,c9⟩|c9
     obtain⟨A2,c2,rfl,hA2⟩:=H3.formQ 0 rfl
     have hc2:=hA2.cap
     obtain⟨cs4,hcs⟩:∃ c,c=([]:List Cmd):=⟨_,rfl⟩
     have H4:Owns lo w0 w3 (.cmds (.slice A2 0 c2) cs4::L.set i (.rdr g A n c (p'+1+1))):=by rw[hcs];exact H3
     have HL4:Hid (cs4.length<=9):=hid (by rw[hcs];simp)
     clear hA2 H3 hcs
     simp only[List.length_nil]at hc2⊢
     rotate_left
     obtain⟨gq,cq,rfl,hcq,-,-,-⟩:=H3.rowAt 0 rfl (by omega)
     have hlt:¬ (9<(cs.length:Int)):=by omega
     have hcq2:(cs.length:Int)<=(cq:Int):=by omega
     have H4:=H3
     have HL4:=hid c9
     clear H3 c0
     rotate_left
     obtain⟨gq,cq,rfl,hcq,-,-,-⟩:=H3.rowAt 0 rfl (by omega)
     have hlt:9<(cs.length:Int):=by omega
     have hcq2:(9:Int)<=(cq:Int):=by omega
     have H4:=H3.cutQ 0 rfl (m:=9) (by omega)
     simp only[List.set_cons_zero]at H4
     have HL4:Hid ((cs.take 9).length<=9):=hid (by rw[List.length_take];omega)
     generalize cs.take 9=cs4 at *
     clear H3
     rotate_left
     all_goals
      go_wp2_with fail
      have HX:=H4.drew
      clear H4
      refine wp_region_tree (fun _=>True) 10 [] (.take 0 (.take 1 (.take 2 (.take 5 (.alt 3 (.take 4 (.alt 6 (.alt 7 (.alt 8 (.take 9 (.done)) (.stop)) (.stop)) (.stop))) (.alt 6 (.alt 3 (.take 4 (.alt 7 (.alt 8 (.take 9 (.done)) (.stop)) (.stop))) (.alt 7 (.alt 3 (.take 4 (.alt 8 (.take 9 (.done)) (.stop))) (.stop)) (.stop))) (.stop))))))) (by kernel_rfl) (by kernel_rfl) (by kernel_rfl) (trivial) ?_
      simp only[fillT,lgz,Nat.reduceBEq]
      revert HX
      generalize World.drew _=wd
      intro HX
      repeat' first
       | with_reducible exact po_stop
       | (with_reducible apply po_take;(·(go_simp;done));(·(intro w' hS';(try dsimp only at hS');go_simp;try with_reducible rfl));simp only[lpa])
       | (with_reducible apply po_skip;(·(go_simp;done));simp only[lpa])
       | (
         with_reducible refine po_done ?_
         have HS:Hid (DrewPB lo w0 L i g A n c p (.returned (.slice A6 M.length k6)) w6):=hid ⟨_,M,_,rfl,by rw[<-hM];have:=HL4.out;simp;omega,by omega,by omega,HY⟩
         clear HX HY HG
         go_wp2
         go_ret
         exact HS.out)
       | (
         with_reducible refine po_run ?_ (fun K hK=>?_) ?_
         ·(go_simp;done)
         first
          | (
            with_reducible show Oper.wp _ ⟨some 28,_,_,_,_,_⟩ _ _ _ _
            go_simp
            try rw[if_neg (show ¬ (9:Int)<(cs.length:Int) by omega)]
            try rw[if_pos (show (9:Int)<(cs.length:Int) by omega)]
            refine hK.out _ _ (.inr (trivial)) ?_
            clear hK K)
          | (
            with_reducible show Oper.wp _ ⟨some 31,_,_,_,_,_⟩ _ _ _ _
            go_simp
            refine (command_both HX (i+1) (set_get hX _) hr (by omega) 1 (.inr rfl)).mono ?_
            rintro e w5 ⟨o,p5,rfl,hp5,hp6,HY⟩
            simp only[lss]at HY
            clear HX
            have HX:=HY
            clear HY
            refine hK.out _ _ (.inr (trivial)) ?_
            clear hK K)
          | (
            with_reducible show Oper.wp _ ⟨some 32,_,_,_,_,_⟩ _ _ _ _
            go_simp
            have HG:=heap1 w5 (.cells #[.int .i64 o.op,.int .i64 o.a,.int .i64 o.b,.int .i64 o.c] 79)
            replace HX:=HX.alloc (.cells #[.int .i64 o.op,.int .i64 o.a,.int .i64 o.b,.int .i64 o.c] 79)
            refine hK.out _ _ (.inr (trivial)) ?_
            clear hK K)
          | (
            with_reducible show Oper.wp _ ⟨some 33,_,_,_,_,_⟩ _ _ _ _
            refine wp_pushQO (.tmp 29) (.tmp 32) rfl HX 0 rfl rfl rfl HG (by have:=HL4.out;omega) ?_
            intro A6 k6 w6 HY
            simp only[List.set_cons_zero]at HY
            generalize hM:_++[o]=M at HY⊢
            refine hK.out _ _ (.inr (trivial)) ?_
            clear hK K))
    ·have hx31:x3=1:=by omega
     subst hx31
     clear c3 hx3
     obtain⟨i0,hi0,hz0,hz1,hz2⟩:=info_parts Tryz.infoCmd
     go_wp2_with (at_make;refine wpList_make_full _ rfl _ _ _ rfl w3.heap.size 79 i0 (.agg #[.int .i64 0,.int .i64 0,.int .i64 0,.int .i64 0]) 4 Tryz.underlying23 hi0 hz0 hz1 .i64 .i64 _ _ 41 rfl rfl rfl rfl (by rw[hz2];omega) (by unfold maxLen;omega) (Nat.le_refl _) ?_)
     intro w4 hown hg
     have HM:Owns lo w0 w4 (.cmds (.slice (some ⟨w3.heap.size,0,none⟩) 41 41) (List.replicate 41 ⟨0,0,0,0⟩)::.cmds v cs::L.set i (.rdr g A n c (p'+1+1))):=by
      refine H3.row (grown_below hg) ?_
      rw[zeros_cmd]
      have e:(madeCells #[Value.int .i64 0,.int .i64 0,.int .i64 0,.int .i64 0] (41*4)).toList=List.replicate (41*4) (Value.int .i64 0):=by kernel_rfl
      rw[<-e]
      exact hown
     have HS:Hid (DrewPB lo w0 L i g A n c p (.returned (.slice (some ⟨w3.heap.size,0,none⟩) 41 41)) w4):=hid ⟨_,_,_,rfl,by simp,by omega,by omega,HM.erase 1⟩
     clear HM H3 hown hg
     go_wp2
     go_ret
     exact HS.out
  ·obtain⟨k',rfl⟩:∃ k',k=k'+1:=⟨k - 1,by omega⟩
   go_wp2_with fail
   refine (command_both H (i+1) (set_get hX _) hr (by omega) 0 (.inl rfl)).mono ?_
   rintro e w2 ⟨o,p2,rfl,hp3,hp4,H2⟩
   simp only[lss]at H2
   have H3:=H2.alloc (.cells #[.int .i64 o.op,.int .i64 o.a,.int .i64 o.b,.int .i64 o.c] 79)
   clear H H2
   go_wp2_with (at_builtin;go_loud (refine wpList_pushQO rfl (.tmp 14) (.tmp 17) rfl H3 0 rfl rfl rfl (heap1 w2 _) (by omega) ?_;intro A3 k3 w3 H4))
   simp only[List.set_cons_zero]at H4
   rw[show (cs++[o]).length=cs.length+1 by simp]at H4
   clear H3
   go_wp2_with fail
   go_roundw
   case rel=>exact⟨_,k',cs++[o],p2,rfl,by go_num,by omega,by simp;omega,by omega,by simp;omega,H4⟩
   case measure=>simp[intOf]
end
structure SmG (h:Hp):Prop where
 len:h.cells.length<=41
 roots:h.roots.length<=4
 refs:∀ c∈h.cells,c.refs.length<=3
structure Sm4 (h:Hp):Prop where
 len:h.cells.length<=40
 roots:h.roots.length=4
 refs:∀ c∈h.cells,c.refs.length<=3
theorem Sm4.set {h:Hp}(s:Sm4 h) {k:Nat}{l:Cel}(hl:h.cells[k]?=some l) (j:Nat) (x:Int):Sm4 ⟨h.cells.set k ⟨l.used,l.data,l.refs.set j x⟩,h.roots⟩:=
 ⟨by simpa using s.len,s.roots,fun c hc=>(mem_set' hc).elim (fun e=>by rw[e];simpa using s.refs l (List.mem_of_getElem? hl)) (s.refs c)⟩
def TailOf (rv rv0:Value) (rs rs0:List Int):Prop:=(rv=rv0/\rs=rs0)\/∃ g n c,rv0=.slice (some ⟨g,0,none⟩) n c/\rv=.slice (some ⟨g,1,none⟩) (n - 1) (c - 1)/\rs=rs0.drop 1/\0<n
section
open Go.RowKit Go.ChangeShapes Go.WideShapes Go.Deep Go.Joins
section
variable {H:Type} {enc:TypeId × Value->H} {w:World} {base:Nat} {held:Bool}
theorem Tryz.cellsU8:Tryz.prog.cellsOf 5=1:=by kernel_rfl
structure RdY (w:World) (B:Nat) (A:Option Addr) (n c:Nat) (bs:List Int):Prop where
 rd:RdV w B A n c (bs.map (Value.int .u8))
 u8:∀ x∈bs,0<=x/\x<=255
theorem u8_of_wf {x:Int}(h:(Lit.int .u8 x).wf=true):0<=x/\x<=255:=by simpa [Lit.wf,IntKind.min,IntKind.max,IntKind.signed,IntKind.bits] using h
set_option maxRecDepth 100000 in
theorem open_bytes_arg {v:Value}{d:DataW H}{p:List MemPlace}(hv:Value.okWide Tryz.prog w .any base 22 v) (h:DataW.Trod enc Tryz.prog w 0 (fun _=>true) held 22 v d p):
  ∃ A n c xs,v=.slice A n c/\RdY w w.heap.size A n c xs:=by
 obtain⟨a0,len,cap,rfl⟩:=okWide_slice Tryz.underlying22 hv
 obtain⟨fuel,hf⟩:=h
 rcases open_ints Tryz.underlying22 Tryz.underlying5 Tryz.cellsU8 (by simpa [Value.cells] using hf) with⟨hcs,_⟩|⟨a,len',cap',zs,hcs,_,hl,hm,hz,_,hcell,hwf⟩
 ·simp only[List.cons.injEq,and_true]at hcs
  rw[hcs]
  exact⟨none,0,0,[],rfl,rdV_nil _ _,fun x hx=>absurd hx (by simp)⟩
 ·simp only[List.cons.injEq,and_true]at hcs
  rw[hcs]
  simp only[if_true]at hz
  refine⟨some a,len',cap',zs.take len',rfl,⟨by simp;omega,hl,hm,fun hn=>?_⟩,fun x hx=>u8_of_wf (hwf x (List.mem_of_mem_take hx))⟩
  obtain⟨b,o,s⟩:=a
  have h0:=hcell 0 (by omega)
  obtain rfl:=spot_none (s:=s) (by simpa [Addr.add] using h0)
  have hat:∀ j u,((zs.take len').map (Value.int .u8))[j]?=some u->w.cell? ⟨b,o+j,none⟩=some u:=by
   intro j u hu
   obtain⟨hj,hju⟩:=List.getElem?_eq_some_iff.1 hu
   have hj':j<len':=by simp at hj;omega
   have hj2:j<zs.length:=by omega
   have:=hcell j (by omega)
   rw[Addr.add_lit]at this
   rw[this,<-hju]
   simp[List.getD,hj2]
  exact⟨b,o,rfl,lt_of_cell (hat 0 _ (List.getElem?_eq_getElem (by simp;omega))),hat⟩
end
theorem RdY.below {w w':World}{B:Nat}{A:Option Addr}{n c:Nat}{bs:List Int}(h:RdY w B A n c bs) (hb:Below B w w'):RdY w' B A n c bs:=⟨h.rd.below hb,h.u8⟩
theorem RdY.top {w:World}{B:Nat}{A:Option Addr}{n c:Nat}{bs:List Int}(h:RdY w B A n c bs):RdY w w.heap.size A n c bs:=⟨h.rd.top,h.u8⟩
theorem RdY.cut {w:World}{B:Nat}{A:Option Addr}{n c:Nat}{bs:List Int}(h:RdY w B A n c bs) (m:Nat) (hm:m<=n):RdY w B A m c (bs.take m):=by
 have hl:=h.rd.len
 simp only[List.length_map]at hl
 refine⟨⟨by simp;omega,by have:=h.rd.cap;omega,h.rd.mx,fun h0=>?_⟩,fun x hx=>h.u8 x (List.mem_of_mem_take hx)⟩
 obtain⟨b,o,hA,hlt,hc⟩:=h.rd.rd (by omega)
 refine⟨b,o,hA,hlt,fun j u hj=>hc j u ?_⟩
 rw[List.map_take]at hj
 rw[List.getElem?_take]at hj
 split at hj
 ·exact hj
 ·cases hj
end
theorem TailOf.form {rv rv0:Value}{rs rs0:List Int}(ht:TailOf rv rv0 rs rs0) {A:Option Addr}{n c:Nat}(e:rv0=.slice A n c):∃ A' n' c',rv=.slice A' n' c':=by
 subst e
 rcases ht with⟨rfl,-⟩|⟨g,n,c,-,rfl,-⟩
 ·exact⟨_,_,_,rfl⟩
 ·exact⟨_,_,_,rfl⟩
def OpenedO (lo:Nat) (w0:World) (L:List OB) (e:Ending) (w':World):Prop:=
 ∃ (g:Nat) (A:Option Addr) (n c:Nat) (bs:List Int),e=.returned (.pointer (some ⟨g,0,none⟩))/\RdU w0 lo A n c bs/\Owns lo w0 w' (.rdr g A n c 0::L)
set_option maxHeartbeats 800000 in
set_option maxRecDepth 20000 in
theorem open_own {lo:Nat}{w0 w:World}{L:List OB}(h:Owns lo w0 w L) (A:Option Addr) (n c:Nat) (bs:List Int) (hr:RdY w0 lo A n c bs):
  Calls Tryz.prog 26 #[.slice A n c] w (OpenedO lo w0 L):=by
 have hcap:=hr.rd.cap
 have hmx:=hr.rd.mx
 unfold maxLen at hmx
 by_cases h2:2000<n
 ·have hU:=hr.cut 2000 (by omega)
  have HS:Hid (OpenedO lo w0 L (.returned (.pointer (some ⟨w.heap.size,0,none⟩))) (w.alloc (.cells #[.slice A 2000 c,.int .i64 0] 89))):=
   hid ⟨w.heap.size,A,2000,c,_,rfl,⟨hU.rd,by omega,hU.u8⟩,h.box [.slice A 2000 c,.int .i64 0] 89⟩
  have f1:2000<=c:=by omega
  clear hr hU h
  go_enter Tryz.func26,Tryz.ntmps26
  go_wp2
  go_ret
  exact HS.out
 ·have HS:Hid (OpenedO lo w0 L (.returned (.pointer (some ⟨w.heap.size,0,none⟩))) (w.alloc (.cells #[.slice A n c,.int .i64 0] 89))):=
   hid ⟨w.heap.size,A,n,c,_,rfl,⟨hr.rd,by omega,hr.u8⟩,h.box [.slice A n c,.int .i64 0] 89⟩
  clear hr h
  go_enter Tryz.func26,Tryz.ntmps26
  go_wp2
  go_ret
  exact HS.out
def DrewLim (lo:Nat) (w0:World) (L:List OB) (i g:Nat) (A:Option Addr) (n c p:Nat) (e:Ending) (w':World):Prop:=
 ∃ (x:Int) (p':Nat),e=.returned (.int .i64 x)/\0<=x/\x<=41/\p<=p'/\p'<=p+3/\Owns lo w0 w' (L.set i (.rdr g A n c p'))
def DrewJob (lo:Nat) (w0:World) (L:List OB) (i g:Nat) (A:Option Addr) (n c _p:Nat) (e:Ending) (w':World):Prop:=
 ∃ (v:Value) (cs:List Cmd) (x:Int) (p':Nat),e=.returned (.tuple #[v,.int .i64 x])/\cs.length<=41/\0<=x/\x<=41/\Owns lo w0 w' (.cmds v cs::L.set i (.rdr g A n c p'))
set_option maxHeartbeats 3200000 in
set_option maxRecDepth 20000 in
theorem limit_own {lo:Nat}{w0 w:World}{L:List OB}{g:Nat}{A:Option Addr}{n c p:Nat}(h:Owns lo w0 w L) (i:Nat) (hX:L[i]?=some (.rdr g A n c p)) {bs:List Int}(hr:RdU w0 lo A n c bs) (hp:p<=900000):
  Calls Tryz.prog 59 #[.pointer (some ⟨g,0,none⟩)] w (DrewLim lo w0 L i g A n c p):=by
 go_enter Tryz.func59,Tryz.ntmps59
 go_wp2_with fail
 refine (pick_own h i hX hr (by omega) 8 (by unfold I64;omega)).mono ?_
 rintro e w1 ⟨j0,rfl,hj0,H1⟩
 replace hj0:j0<8:=by omega
 have hX1:(L.set i (.rdr g A n c (p+1)))[i]?=some (.rdr g A n c (p+1)):=set_get hX _
 have i0:(1:Int)+(j0:Int)<=8:=by omega
 go_wp2_with fail
 refine (pick_own H1 i hX1 hr (by omega) 40 (by unfold I64;omega)).mono ?_
 rintro e w2 ⟨j1,rfl,hj1,H2⟩
 replace hj1:j1<40:=by omega
 simp only[List.set_set]at H2
 have hX2:(L.set i (.rdr g A n c (p+1+1)))[i]?=some (.rdr g A n c (p+1+1)):=set_get hX _
 have i1:(1:Int)+(j1:Int)<=40:=by omega
 have H3:=(H2.litI [1+(j0:Int),1+(j1:Int),0,41] (by unfold maxLen;simp)).litI [0,0,0,1,1,1,2,3] (by unfold maxLen;simp)
 simp only[lml,Nat.reduceAdd,World.size_alloc]at H3
 clear H1 hX1 h
 go_wp2_with fail
 refine (pick_own H3 (i+2) (by simpa using hX2) hr (by omega) 8 (by unfold I64;omega)).mono ?_
 rintro e w3 ⟨j2,rfl,hj2,H4⟩
 replace hj2:j2<8:=by omega
 simp only[lss]at H4
 obtain⟨x3,hx3⟩:∃ x,Hid (([0,0,0,1,1,1,2,3]:List Int)[j2]?=some x):=⟨_,hid (List.getElem?_eq_getElem (by simp;omega))⟩
 have hx3':0<=x3/\x3<=3:=by
  have:=List.mem_of_getElem? hx3.out
  simp at this
  omega
 obtain⟨k3,rfl⟩:=Int.eq_ofNat_of_zero_le hx3'.1
 have hk3:k3<4:=by omega
 obtain⟨y,hy⟩:∃ x,Hid (([1+(j0:Int),1+(j1:Int),0,41]:List Int)[k3]?=some x):=⟨_,hid (List.getElem?_eq_getElem (by simp;omega))⟩
 have hy':0<=y/\y<=41:=by
  have:=List.mem_of_getElem? hy.out
  simp at this
  omega
 obtain⟨e0,-⟩:=H4.elem 0 rfl (j:=j2) (u:=.int .i64 (k3:Int)) (by
  have:=congrArg (Option.map (Value.int .i64)) hx3.out
  rw[<-List.getElem?_map]at this
  exact this)
 obtain⟨e1,-⟩:=H4.elem 1 rfl (j:=k3) (u:=.int .i64 y) (by
  have:=congrArg (Option.map (Value.int .i64)) hy.out
  rw[<-List.getElem?_map]at this
  exact this)
 have q1:(j2:Int)<8:=by omega
 have q2:(k3:Int)<4:=by omega
 have HS:Hid (DrewLim lo w0 L i g A n c p (.returned (.int .i64 y)) w3):=hid ⟨y,p+1+1+1,rfl,hy'.1,hy'.2,by omega,by omega,(H4.erase 0).erase 0⟩
 clear H2 H3 H4 hx3 hy hy' hx3' hX2 i0 i1 hj0 hj1
 go_wp2
 go_ret
 exact HS.out
set_option maxHeartbeats 3200000 in
theorem job_own {lo:Nat}{w0 w:World}{L:List OB}{g:Nat}{A:Option Addr}{n c p:Nat}(h:Owns lo w0 w L) (i:Nat) (hX:L[i]?=some (.rdr g A n c p)) {bs:List Int}(hr:RdU w0 lo A n c bs) (hp:p<=800000):
  Calls Tryz.prog 28 #[.pointer (some ⟨g,0,none⟩)] w (DrewJob lo w0 L i g A n c p):=by
 go_enter Tryz.func28,Tryz.ntmps28
 go_wp2_with fail
 refine (program_both h i hX hr hp 16 (by omega) (by omega)).mono ?_
 rintro e w1 ⟨v,cs,p1,rfl,hl,hp1,hp2,H1⟩
 obtain⟨A1,c1,rfl,-⟩:=H1.formQ 0 rfl
 go_wp2_with fail
 refine (limit_own H1 (i+1) (set_get hX _) hr (by omega)).mono ?_
 rintro e w2 ⟨x,p2,rfl,hx0,hx1,hp3,hp4,H2⟩
 simp only[lss]at H2
 have HS:Hid (DrewJob lo w0 L i g A n c p (.returned (.tuple #[.slice A1 cs.length c1,.int .i64 x])) w2):=hid ⟨_,cs,x,p2,rfl,hl,hx0,hx1,H2⟩
 clear H1 H2 h
 go_wp2
 exact bodyPost_ret (by simp[results,Tryz.results28,go_sem]) rfl HS.out
def DrawnQL (w:World) (e:Ending) (w':World):Prop:=∃ v cs x,e=.returned (.tuple #[v,.int .i64 x])/\cs.length<=41/\0<=x/\x<=41/\Owns w.heap.size w w' [.cmds v cs]
set_option maxHeartbeats 1600000 in
theorem DrawSameManagers_any (w:World) (A:Option Addr) (n c:Nat) (bs:List Int) (hr:RdY w w.heap.size A n c bs):
  Calls Tryz.prog 22 #[.slice A n c] w (DrawnQL w):=by
 have H:=Owns.nil w
 go_enter Tryz.func22,Tryz.ntmps22
 go_wp2_with fail
 refine (open_own H A n c bs hr).mono ?_
 rintro e w1 ⟨g,A1,n1,c1,bs1,rfl,hU,H1⟩
 clear H hr
 go_wp2_with fail
 refine (job_own H1 0 rfl hU (by omega)).mono ?_
 rintro e w2 ⟨v,cs,x,p1,rfl,hl,hx0,hx1,H2⟩
 obtain⟨A2,c2,rfl,-⟩:=H2.formQ 0 rfl
 have HS:Hid (DrawnQL w (.returned (.tuple #[.slice A2 cs.length c2,.int .i64 x])) w2):=hid ⟨_,cs,x,rfl,hl,hx0,hx1,H2.take 1⟩
 clear H1 H2 hU
 go_wp2
 exact bodyPost_ret (by simp[results,Tryz.results22,go_sem]) rfl HS.out
theorem isTotal3 (w:World):Calls Tryz.prog 102 #[.int .i64 3] w fun e w'=>e=.returned (.bool true)/\w=w':=by
 go_enter Tryz.func102,Tryz.ntmps102
 go_wp2
 go_ret
 exact⟨rfl,rfl⟩
structure Blk3 (w:World) (b:Nat):Prop where
 c0:w.cell? ⟨b,0,none⟩=some (.int .i64 0)
 c1:w.cell? ⟨b,1,none⟩=some (.int .i64 3)
 c2:w.cell? ⟨b,2,none⟩=some (.bool false)
theorem Blk3.below {w w':World}{b:Nat}(h:Blk3 w b) (hb:Below w.heap.size w w'):Blk3 w' b:=⟨keept h.c0 hb,keept h.c1 hb,keept h.c2 hb⟩
set_option maxHeartbeats 1600000 in
theorem blocksValid3 (w:World) (b k:Nat) (h:Blk3 w b) (_hk:1<=k) (_hm:k<=maxLen):
  Calls Tryz.prog 73 #[.slice (some ⟨b,0,none⟩) 1 k,.int .i64 3] w fun e w'=>e=.returned (.bool true)/\Below w.heap.size w w':=by
 have hm:=_hm
 unfold maxLen at hm
 go_enter Tryz.func73,Tryz.ntmps73
 go_wp2_with fail
 refine (isTotal3 _).mono ?_
 rintro e w' ⟨rfl,hw⟩
 obtain rfl:=hw
 go_wp2_with fail
 go_loopw [5,13] (fun v5 i wr=>∃ j:Nat,i=.int .i64 j/\j<=1/\v5=.int .i64 (3*(j:Int))/\Below w.heap.size w wr) (fun _ i _=>1 - (intOf i).toNat)
 case atStart=>exact⟨0,rfl,by omega,rfl,Below.refl _ _⟩
 case round =>
  obtain⟨j,rfl,hj,rfl,hb⟩:=hrel
  have hj2:j=0\/j=1:=by omega
  rcases hj2 with rfl|rfl
  ·have hB:=h.below hb
   have g0:=hB.c0
   have g1:=hB.c1
   have g2:=hB.c2
   have hb2:=hb.trans ((below_alloc wr (.cells #[.int .i64 0,.int .i64 3,.bool false] 72)).mono hb.size)
   go_wp2_with fail
   go_roundw
   case rel=>exact⟨1,rfl,by omega,rfl,hb2⟩
   case measure=>simp[intOf]
  ·go_wp2
   go_ret
   exact⟨rfl,hb⟩
set_option maxHeartbeats 1600000 in
theorem freeWords3 (w:World) (b k:Nat) (h:Blk3 w b) (hk:1<=k) (hm:k<=maxLen):
  Calls Tryz.prog 41 #[.slice (some ⟨b,0,none⟩) 1 k,.int .i64 3] w fun e w'=>e=.returned (.int .i64 3)/\Below w.heap.size w w':=by
 have hm':=hm
 unfold maxLen at hm
 go_enter Tryz.func41,Tryz.ntmps41
 go_wp2_with fail
 refine (blocksValid3 _ b k h hk hm').mono ?_
 rintro e w1 ⟨rfl,hb1⟩
 go_wp2_with fail
 go_loopw [5,14] (fun v5 i wr=>∃ j:Nat,i=.int .i64 j/\j<=1/\v5=.int .i64 (3*(j:Int))/\Below w.heap.size w wr) (fun _ i _=>1 - (intOf i).toNat)
 case atStart=>exact⟨0,rfl,by omega,rfl,hb1⟩
 case round =>
  obtain⟨j,rfl,hj,rfl,hb⟩:=hrel
  have hj2:j=0\/j=1:=by omega
  rcases hj2 with rfl|rfl
  ·have hB:=h.below hb
   have g0:=hB.c0
   have g1:=hB.c1
   have g2:=hB.c2
   have hb2:=hb.trans ((below_alloc wr (.cells #[.int .i64 0,.int .i64 3,.bool false] 72)).mono hb.size)
   go_wp2_with fail
   go_roundw
   case rel=>exact⟨1,rfl,by omega,rfl,hb2⟩
   case measure=>simp[intOf]
  ·go_wp2
   go_ret
   exact⟨rfl,hb⟩
theorem alive_any (w:World):Calls Tryz.prog 11 #[] w fun e w'=>e=.returned (.bool true)/\Below w.heap.size w w':=by
 have hb:=below_alloc w (.cells #[.int .i64 0,.int .i64 3,.bool false] 72)
 have h3:=blk3 (heap1 w (.cells #[.int .i64 0,.int .i64 3,.bool false] 72))
 go_enter Tryz.func11,Tryz.ntmps11
 go_wp2_with fail
 refine (freeWords3 _ _ _ ⟨h3.1,h3.2.1,h3.2.2.1⟩ (Nat.le_refl _) one_le_maxLen).mono ?_
 rintro e w1 ⟨rfl,hb1⟩
 have hb2:=hb.trans (hb1.mono hb.size)
 clear hb hb1 h3
 go_wp2
 go_ret
 exact⟨rfl,hb2⟩
set_option maxHeartbeats 3200000 in
set_option maxRecDepth 20000 in
theorem lawSameManagers_any (w:World) {A:Option Addr}{n c:Nat}{bs:List Int}(hr:RdY w w.heap.size A n c bs):
  Calls Tryz.prog 5 #[.slice A n c] w fun e w'=>e=.returned (.bool true)/\Below w.heap.size w w':=by
 by_cases s0:1048576<n
 ·go_enter Tryz.func5,Tryz.ntmps5
  go_wp2
  go_ret
  exact⟨rfl,Below.refl _ _⟩
 go_enter Tryz.func5,Tryz.ntmps5
 go_wp2_with fail
 refine (DrawSameManagers_any w A n c bs hr).mono ?_
 rintro e w1 ⟨v,cs,x,rfl,hl,hx0,hx1,H⟩
 obtain⟨A1,c1,rfl,h1⟩:=H.formQ 0 rfl
 clear hr s0
 go_wp2_with fail
 refine (implSameManagers_any _ _ _ _ _ cs h1 x).mono ?_
 rintro e w2 ⟨rfl,hb⟩
 generalize hg:(cmdsOk cs && inR x 1 40)=good at *
 have HG:=hid hg
 clear hg
 replace H:=H.call hb
 clear hb h1
 obtain⟨A2,c2,e1,h1⟩:=H.formQ 0 rfl
 simp only[Value.slice.injEq,true_and]at e1
 obtain⟨rfl,rfl⟩:=e1
 go_wp2_with fail
 refine (specSameManagers_any _ _ _ _ _ cs h1 x).mono ?_
 rintro e w3 ⟨rfl,hb⟩
 rw[HG.out]
 replace H:=H.call hb
 clear hb h1
 obtain⟨A2,c2,e1,h1⟩:=H.formQ 0 rfl
 simp only[Value.slice.injEq,true_and]at e1
 obtain⟨rfl,rfl⟩:=e1
 have kg:(good == good)=true:=by simp
 have kn:(good != good)=false:=by simp
 go_wp2_with fail
 refine (specCommandsValid_any _ _ _ _ _ cs h1).mono ?_
 rintro e w4 ⟨rfl,hb⟩
 replace H:=H.call hb
 clear hb h1
 cases hc:cmdsOk cs
 ·obtain rfl:good=false:=by rw[<-HG.out,hc];rfl
  clear hc HG
  go_wp2_with fail
  refine (alive_any _).mono ?_
  rintro e wz ⟨rfl,hb⟩
  have HB:=(H.call hb).below
  clear H hb
  go_wp2
  go_ret
  exact⟨rfl,HB⟩
 by_cases hlo:1<=x
 ·by_cases hhi:x<=40
  ·obtain rfl:good=true:=by rw[<-HG.out,hc,inR_iff.2 ⟨hlo,hhi⟩];rfl
   clear hc HG
   go_wp2_with fail
   refine (alive_any _).mono ?_
   rintro e wz ⟨rfl,hb⟩
   have HB:=(H.call hb).below
   clear H hb
   go_wp2
   go_ret
   exact⟨rfl,HB⟩
  ·obtain rfl:good=false:=by rw[<-HG.out,hc,show inR x 1 40=false by rw[<-Bool.not_eq_true,inR_iff];omega];rfl
   have d1:decide (x<=40)=false:=decide_eq_false hhi
   clear hc HG hhi
   go_wp2_with fail
   refine (alive_any _).mono ?_
   rintro e wz ⟨rfl,hb⟩
   have HB:=(H.call hb).below
   clear H hb
   go_wp2
   go_ret
   exact⟨rfl,HB⟩
 ·obtain rfl:good=false:=by rw[<-HG.out,hc,show inR x 1 40=false by rw[<-Bool.not_eq_true,inR_iff];omega];rfl
  have d1:decide (1<=x)=false:=decide_eq_false hlo
  clear hc HG hlo
  go_wp2_with fail
  refine (alive_any _).mono ?_
  rintro e wz ⟨rfl,hb⟩
  have HB:=(H.call hb).below
  clear H hb
  go_wp2
  go_ret
  exact⟨rfl,HB⟩
end Go.Proofs.YtgppgjgcnpimiaaGreat
