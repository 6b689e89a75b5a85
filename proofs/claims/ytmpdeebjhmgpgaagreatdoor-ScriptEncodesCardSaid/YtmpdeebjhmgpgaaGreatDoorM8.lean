/- Part 8 of the proof. -/
import Derived.Test.YtmpdeebjhmgpgaaGreatDoorRows
import Derived.Test.YtmpdeebjhmgpgaaGreatDoorM6
import Derived.Test.YtmpdeebjhmgpgaaGreatDoorM7
import Derived.Test.YtmpdeebjhmgpgaaGreatDoorM3
set_option linter.all false
namespace Go.Proofs.YtmpdeebjhmgpgaaGreatDoor
open Go.Shade
theorem hm :Tryz.prog.follows .mixedOrders=true:=by kernel_rfl
noncomputable def lf (fn:Func):LFun:=(lowF Tryz.prog fn).getD ⟨.skip,[],0⟩
theorem lo46 :LoF Tryz.prog 46 (Go.Shade.branchNew 72 73 74 75):=⟨⟨Tryz.f46,Tryz.func46,by kernel_rfl⟩,by kernel_rfl⟩
theorem lo72 :LoF Tryz.prog 72 (lf Tryz.f72):=⟨⟨_,Tryz.func72,by kernel_rfl⟩,by kernel_rfl⟩
theorem e72 (cal:FuncId->Bool)(O:Oracle)(N:Nat)(v0:IV)(H:Heap):lrunK cal O N (lf Tryz.f72) [v0] H=Go.Shade.blockNewS cal O N v0 H:=by kernel_rfl
theorem lo73 :LoF Tryz.prog 73 (lf Tryz.f73):=⟨⟨_,Tryz.func73,by kernel_rfl⟩,by kernel_rfl⟩
theorem e73 (cal:FuncId->Bool)(O:Oracle)(N:Nat)(H:Heap):lrunK cal O N (lf Tryz.f73) [] H=Go.Shade.queueNewS cal O N H:=by kernel_rfl
theorem lo74 :LoF Tryz.prog 74 (lf Tryz.f74):=⟨⟨_,Tryz.func74,by kernel_rfl⟩,by kernel_rfl⟩
theorem e74 (cal:FuncId->Bool)(O:Oracle)(N:Nat)(v0 v1 v2:IV)(H:Heap):lrunK cal O N (lf Tryz.f74) [v0,v1,v2] H=Go.Shade.S.QqPushS cal O N 104 v0 v1 v2 H:=by kernel_rfl
theorem lo75 :LoF Tryz.prog 75 (lf Tryz.f75):=⟨⟨_,Tryz.func75,by kernel_rfl⟩,by kernel_rfl⟩
theorem e75 (cal:FuncId->Bool)(O:Oracle)(N:Nat)(H:Heap):lrunK cal O N (lf Tryz.f75) [] H=Go.Shade.dentsNewS cal O N H:=by kernel_rfl
theorem lo77 :LoF Tryz.prog 77 (lf Tryz.f77):=⟨⟨_,Tryz.func77,by kernel_rfl⟩,by kernel_rfl⟩
theorem e77 (cal:FuncId->Bool)(O:Oracle)(N:Nat)(v0:IV)(H:Heap):lrunK cal O N (lf Tryz.f77) [v0] H=Go.Shade.S.QqPopS cal O N 108 109 v0 H:=by kernel_rfl
theorem lo104 :LoF Tryz.prog 104 (lf Tryz.f104):=⟨⟨_,Tryz.func104,by kernel_rfl⟩,by kernel_rfl⟩
theorem e104 (cal:FuncId->Bool)(O:Oracle)(N:Nat)(v0 v1:IV)(H:Heap):lrunK cal O N (lf Tryz.f104) [v0,v1] H=Go.Shade.S.cHpPushS cal O N 148 v0 v1 H:=by kernel_rfl
theorem lo108 :LoF Tryz.prog 108 (lf Tryz.f108):=⟨⟨_,Tryz.func108,by kernel_rfl⟩,by kernel_rfl⟩
theorem e108 (cal:FuncId->Bool)(O:Oracle)(N:Nat)(v0:IV)(H:Heap):lrunK cal O N (lf Tryz.f108) [v0] H=Go.Shade.QqLenS cal O N 149 v0 H:=by kernel_rfl
theorem lo109 :LoF Tryz.prog 109 (lf Tryz.f109):=⟨⟨_,Tryz.func109,by kernel_rfl⟩,by kernel_rfl⟩
theorem e109 (cal:FuncId->Bool)(O:Oracle)(N:Nat)(v0:IV)(H:Heap):lrunK cal O N (lf Tryz.f109) [v0] H=Go.Shade.S.cHpPopS cal O N 150 v0 H:=by kernel_rfl
theorem lo148 :LoF Tryz.prog 148 Go.Shade.S.cHpUp:=⟨⟨Tryz.f148,Tryz.func148,by kernel_rfl⟩,by kernel_rfl⟩
theorem lo149 :LoF Tryz.prog 149 (lf Tryz.f149):=⟨⟨_,Tryz.func149,by kernel_rfl⟩,by kernel_rfl⟩
theorem e149 (cal:FuncId->Bool)(O:Oracle)(N:Nat)(v0:IV)(H:Heap):lrunK cal O N (lf Tryz.f149) [v0] H=Go.Shade.QisLenS cal O N v0 H:=by kernel_rfl
theorem lo150 :LoF Tryz.prog 150 Go.Shade.S.cHpDown:=⟨⟨Tryz.f150,Tryz.func150,by kernel_rfl⟩,by kernel_rfl⟩
theorem lo155 :LoF Tryz.prog 155 (lf Tryz.f155):=⟨⟨_,Tryz.func155,by kernel_rfl⟩,by kernel_rfl⟩
theorem e155 (cal:FuncId->Bool)(O:Oracle)(N:Nat)(v0 v1:IV)(H:Heap):lrunK cal O N (lf Tryz.f155) [v0,v1] H=Go.Shade.sRorS cal O N 184 v0 v1 H:=by kernel_rfl
theorem lo184 :LoF Tryz.prog 184 (lf Tryz.f184):=⟨⟨_,Tryz.func184,by kernel_rfl⟩,by kernel_rfl⟩
theorem e184 (cal:FuncId->Bool)(O:Oracle)(N:Nat)(v0 v1:IV)(H:Heap):lrunK cal O N (lf Tryz.f184) [v0,v1] H=Go.Shade.sRolS cal O N 221 v0 v1 H:=by kernel_rfl
theorem lo221 :LoF Tryz.prog 221 Go.Shade.sRev:=⟨⟨Tryz.f221,Tryz.func221,by kernel_rfl⟩,by kernel_rfl⟩
theorem lo351 :LoF Tryz.prog 351 (lf Tryz.f351):=⟨⟨_,Tryz.func351,by kernel_rfl⟩,by kernel_rfl⟩
theorem e351 (cal:FuncId->Bool)(O:Oracle)(N:Nat)(v0 v1 v2:IV)(H:Heap):lrunK cal O N (lf Tryz.f351) [v0,v1,v2] H=Go.Shade.QisLessS cal O N 353 v0 v1 v2 H:=by kernel_rfl
theorem lo352 :LoF Tryz.prog 352 (lf Tryz.f352):=⟨⟨_,Tryz.func352,by kernel_rfl⟩,by kernel_rfl⟩
theorem e352 (cal:FuncId->Bool)(O:Oracle)(N:Nat)(v0 v1 v2:IV)(H:Heap):lrunK cal O N (lf Tryz.f352) [v0,v1,v2] H=Go.Shade.QisSwapS cal O N v0 v1 v2 H:=by kernel_rfl
theorem lo353 :LoF Tryz.prog 353 (lf Tryz.f353):=⟨⟨_,Tryz.func353,by kernel_rfl⟩,by kernel_rfl⟩
theorem e353 (cal:FuncId->Bool)(O:Oracle)(N:Nat)(v0 v1:IV)(H:Heap):lrunK cal O N (lf Tryz.f353) [v0,v1] H=Go.Shade.QiAheadS cal O N v0 v1 H:=by kernel_rfl
theorem lo354 :LoF Tryz.prog 354 (lf Tryz.f354):=⟨⟨_,Tryz.func354,by kernel_rfl⟩,by kernel_rfl⟩
theorem e354 (cal:FuncId->Bool)(O:Oracle)(N:Nat)(v0:IV)(H:Heap):lrunK cal O N (lf Tryz.f354) [v0] H=Go.Shade.S.QisPopS cal O N v0 H:=by kernel_rfl
theorem lo355 :LoF Tryz.prog 355 (lf Tryz.f355):=⟨⟨_,Tryz.func355,by kernel_rfl⟩,by kernel_rfl⟩
theorem e355 (cal:FuncId->Bool)(O:Oracle)(N:Nat)(v0 v1:IV)(H:Heap):lrunK cal O N (lf Tryz.f355) [v0,v1] H=Go.Shade.S.QisPushS cal O N v0 v1 H:=by kernel_rfl
theorem lo112 :LoF Tryz.prog 112 (insL 155):=⟨⟨Tryz.f112,Tryz.func112,by kernel_rfl⟩,by kernel_rfl⟩
theorem okILen :ILenOk (den Tryz.prog T0) 149:=by unfold ILenOk;intros;exact denLo rfl lo149 0 (nble (by kernel_rfl)) (by rw[e149];exact ilen_s ‹_›)
theorem okAhead :AheadOk (den Tryz.prog T0) 353:=by unfold AheadOk;intros;exact denWp rfl lo353 0 (nble (by kernel_rfl)) (by rw[e353];exact ahead_s _ _ _)
theorem okLess :LessOk (den Tryz.prog T0) 351:=by unfold LessOk;intros;exact denWp rfl lo351 0 (nble (by kernel_rfl)) (by rw[e351];exact less_s okAhead ‹_› ‹_› ‹_›)
theorem okSwap :SwapOk (den Tryz.prog T0) 352:=by unfold SwapOk;intros;exact denWp rfl lo352 0 (nble (by kernel_rfl)) (by rw[e352];exact swap_s ‹_› ‹_› ‹_›)
theorem okUp :UpOk (den Tryz.prog T0) 195 148:=fun P H q l k j hQ hj hb=>denWp rfl lo148 l.length (nble rfl) (by rw[Go.Shade.S.cHpUpEq];exact S.up_s okLess okSwap hQ hj hb)
theorem okDown :DownOk (den Tryz.prog T0) 195 150:=fun P H q l k i n hQ h1 h2 hb=>denWp rfl lo150 (l.length+1) (nble rfl) (by rw[Go.Shade.S.cHpDownEq];exact S.down_s okLess okSwap hQ h1 h2 hb)
theorem okIPush :IPushOk (den Tryz.prog T0) 197 355:=by unfold IPushOk;intros;exact denWp rfl lo355 0 (nble (by kernel_rfl)) (by rw[e355];exact S.ipush_s ‹_› ‹_›)
theorem okHPush :HPushOk (den Tryz.prog T0) 195 197 104:=by unfold HPushOk;intros;exact denWp rfl lo104 0 (nble (by kernel_rfl)) (by rw[e104];exact S.hpush_s okIPush okILen okUp ‹_› ‹_›)
theorem okQPush :QPushOk (den Tryz.prog T0) 74:=by unfold QPushOk;intros;exact denWp rfl lo74 0 (nble (by kernel_rfl)) (by rw[e74];exact S.qpush_s okHPush ‹_› ‹_›)
theorem okQNew :QNewOk (den Tryz.prog T0) 73:=by unfold QNewOk;intros;exact denWp rfl lo73 0 (nble (by kernel_rfl)) (by rw[e73];exact qnew_s _)
theorem okIPop :IPopOk (den Tryz.prog T0) 197 354:=by unfold IPopOk;intros;exact denWp rfl lo354 0 (nble (by kernel_rfl)) (by rw[e354];exact S.ipop_s ‹_› ‹_›)
theorem okHPop :HPopOk (den Tryz.prog T0) 195 197 109:=by unfold HPopOk;intros;exact denWp rfl lo109 0 (nble (by kernel_rfl)) (by rw[e109];exact S.hpop_s okIPop okILen okSwap okDown ‹_› ‹_› ‹_›)
theorem okQLen :QLenOk (den Tryz.prog T0) 108:=by unfold QLenOk;intros;exact denLo rfl lo108 0 (nble (by kernel_rfl)) (by rw[e108];exact qlen_s okILen ‹_›)
theorem okQPop :QPopOk (den Tryz.prog T0) 77:=by unfold QPopOk;intros;exact denWp rfl lo77 0 (nble (by kernel_rfl)) (by rw[e77];exact S.qpop_s okQLen okHPop ‹_› ‹_›)
theorem okSNew :SNewOk (den Tryz.prog T0) 72:=fun H room=>by
 have h0:=snew_s H room (cal:=callable Tryz.prog) (O:=(den Tryz.prog T0)) (N:=0);by_cases h:0<=room/\room<=65536
 ·rw[if_pos h]at h0 ⊢;exact denLo rfl lo72 0 (nble (by kernel_rfl)) (by rw[e72];exact h0)
 ·rw[if_neg h]at h0 ⊢;exact denLo rfl lo72 0 (nble (by kernel_rfl)) (by rw[e72];exact h0)
theorem okDNew :DNewOk (den Tryz.prog T0) 75:=by unfold DNewOk;intros;exact denLo rfl lo75 0 (nble (by kernel_rfl)) (by rw[e75];exact dnew_s _)
theorem okBNew :BNewOk (den Tryz.prog T0) 46:=by unfold BNewOk;intros;exact denWp rfl lo46 200 (nble rfl) (by rw[Go.Shade.branchNewEq];exact bnew_s (by omega) okSNew okQNew okQPush okDNew _ _)
theorem s0 :Sound Tryz.prog (den Tryz.prog T0):=sound_den (soundT0 _) hm
theorem rev0 :RevOk (den Tryz.prog T0) 221:=by
 unfold RevOk;intros;exact denLo rfl lo221 1000001 (nble rfl) (by rw[Go.Shade.sRevEq];exact rev_s (by omega) ‹_› ‹_› ‹_› ‹_› ‹_›)
theorem rotl0 :RotOk (den Tryz.prog T0) 184:=by
 unfold RotOk;intros;exact denLo rfl lo184 0 (nble (by kernel_rfl)) (by rw[e184];exact rotl_s rev0 ‹_› ‹_› ‹_› ‹_› ‹_› ‹_› ‹_›)
theorem rotr0 :∀(H:Heap) (b o n lb r:Nat) (ex:Bool) (l:List Pr),H[b]? =some (.row (fl l) false)->one2 l->1<=r->r<n->n<=lb->o+n<=l.length->n<=1000000->den Tryz.prog T0 155 [.slice b (2*o) n lb ex 2,.int .i64 (r:Nat)] H=some (.tuple [],H.set b (.row (fl (rot l o n (n - r))) false)) :=
 fun H b o n lb r ex l h1 h2 h3 h4 h5 h6 h7=>denLo rfl lo155 0 (nble (by kernel_rfl)) (by rw[e155];exact rotr_s rotl0 h1 h2 h3 h4 h5 h6 h7)
theorem sA :SoundT Tryz.prog tA:=soundExt (soundExt (soundExt (soundT0 _) (sound_insT s0 hm lo112 rotr0)) (sound_bnT s0 okBNew)) (sound_popT s0 okQPop)
end Go.Proofs.YtmpdeebjhmgpgaaGreatDoor
