/- Texts put behind each other. -/
import Derived.Test.YtjlnnljohemifaaGreatK98
import Derived.Test.YtjlnnljohemifaaGreatK9
import Derived.Test.YtjlnnljohemifaaGreatProg
import Derived.Test.YtjlnnljohemifaaGreatChecked
import Derived.Eval
import Derived.KernelRfl
set_option maxRecDepth 100000
namespace Go.Vc
abbrev af(d x:Nat):gk:=s1 d (.dk (tt x))
abbrev ar(d x:Nat):gk:=s1 d (.gF (tt x))
abbrev aC(d x:Nat):gk:=s1 d (.nilCheck (tt x))
abbrev az(d f x:Nat):gk:=s1 d (.fieldAddr f (tt x))
abbrev aU(d f x:Nat):gk:=s1 d (.extract f (tt x))
abbrev ba(d n x y:Nat):gk:=s1 d (.indexAddr n (tt x) (tt y))
abbrev aS(d:Nat)(x:Int):gk:=s1 d (.dk (ki x))
abbrev stT(d n x y:Nat):gk:=s1 d (.store n (tt x) (tt y))
abbrev bL(d:Nat):gk:=s1 d (.dk (kb false))
abbrev pG(d:Nat):gk:=s1 d (.dk (kb true))
abbrev bc(g:Nat)(w:Bool)(d x:Nat):gk:=sg g w d (.dk (tt x))
abbrev kX(g:Nat)(w:Bool)(d x:Nat):gk:=sg g w d (.gF (tt x))
abbrev ry(g:Nat)(w:Bool)(d f x:Nat):gk:=sg g w d (.fieldAddr f (tt x))
abbrev Bv(g:Nat)(w:Bool)(d x:Nat):gk:=sg g w d (.nilCheck (tt x))
abbrev pV(d x y:Nat):gk:=s1 d (.pick (tt x) (tt y) (kb false))
abbrev kP(d x y:Nat):gk:=s1 d (.pick (tt x) (kb true) (tt y))
abbrev sI(d n x:Nat):gk:=s1 d (.kY n (tt x))
abbrev kQ(f x:Nat):de:=.call f [tt x]
abbrev aZ(f x y:Nat):de:=.call f [tt x,tt y]
abbrev jf(f x y z:Nat):de:=.call f [tt x,tt y,tt z]
def M1:S→List TW
 | .ag ops aN=>[(aN,(ops.zipIdx.filter fun p=>p.1.1).map (·.2),[])]
 | .seq a b=>M1 a++M1 b
 | .cond _ a b=>M1 a++M1 b
 | .cH _ b=>M1 b
 | .loop L b=>(L,[],[])::M1 b
 |_=>[]
def dq(P:Program)(f:Nat)(F:Fn):Option Fn:=gG P f (M1 F.body)
end Go.Vc
namespace Go.Proofs.YtjlnnljohemifaaGreat
open Go Go.Vc
theorem mixed:Tryz.prog.follows .mixedOrders=true:=Tryz.checked.mixed
theorem be{f:Nat}{an:List TW}{F:Vc.Fn}(d:gG Tryz.prog f an=some F){args:List Value}{H:Hp}{K:Value→Hp→Prop}(h:F.vc Tryz.prog args H K):ah Tryz.prog f args H K:=RE mixed d h
abbrev yk:Nat:=7
abbrev BH:Nat:=14
abbrev wz:Nat:=15
abbrev JW:Nat:=16
abbrev Gi:Nat:=18
abbrev E2:Nat:=20
abbrev Ic:Nat:=21
abbrev E3:Nat:=22
abbrev Ie:Nat:=24
abbrev If:Nat:=25
abbrev E4:Nat:=26
abbrev Ig:Nat:=51
abbrev Gj:Nat:=52
abbrev Pv:Nat:=53
abbrev Dl:Nat:=54
abbrev BI:Nat:=57
abbrev tP:Nat:=61
abbrev vx:Nat:=62
abbrev nD:Nat:=63
abbrev rz:Nat:=64
abbrev JX:Nat:=65
abbrev yn:Nat:=66
abbrev wA:Nat:=67
abbrev zX:Nat:=69
abbrev vy:Nat:=72
abbrev Li:Nat:=76
abbrev zY:Nat:=77
abbrev zZ:Nat:=78
abbrev Lj:Nat:=95
abbrev Jp:Nat:=96
abbrev jy:Nat:=97
abbrev BJ:Nat:=98
abbrev gH:Nat:=102
abbrev BK:Nat:=103
abbrev z8:Nat:=104
abbrev Gk:Nat:=109
abbrev Aa:Nat:=110
abbrev Ab:Nat:=111
abbrev Ac:Nat:=112
abbrev BL:Nat:=113
abbrev yo:Nat:=128
abbrev M2:Nat:=129
abbrev Ih:Nat:=130
abbrev sM:Nat:=131
abbrev Gl:Nat:=132
abbrev tQ:Nat:=133
abbrev Ii:Nat:=134
abbrev rM:Nat:=135
abbrev E5:Nat:=136
abbrev tR:Nat:=137
abbrev Ij:Nat:=138
abbrev yp:Nat:=139
abbrev M3:Nat:=140
abbrev yq:Nat:=141
abbrev M4:Nat:=142
abbrev Ad:Nat:=143
abbrev Dm:Nat:=156
abbrev Dn:Nat:=157
abbrev Ae:Nat:=158
abbrev wB:Nat:=165
abbrev M5:Nat:=166
abbrev Ll:Nat:=167
abbrev M6:Nat:=168
abbrev BM:Nat:=169
abbrev Lm:Nat:=170
abbrev Af:Nat:=171
abbrev Do:Nat:=178
abbrev Ln:Nat:=188
abbrev nE:Nat:=214
abbrev Ag:Nat:=215
abbrev bk:Nat:=216
abbrev oX:Nat:=217
abbrev bG:Nat:=218
abbrev jz:Nat:=219
abbrev p8:Nat:=220
abbrev kZ:Nat:=221
abbrev sN:Nat:=222
abbrev uY:Nat:=224
abbrev iz:Nat:=226
abbrev Dp:Nat:=227
abbrev Dq:Nat:=228
abbrev BN:Nat:=229
abbrev jA:Nat:=230
abbrev k8:Nat:=231
abbrev Gm:Nat:=232
abbrev dC:Nat:=233
abbrev Ik:Nat:=234
abbrev JY:Nat:=235
abbrev Il:Nat:=236
abbrev yt:Nat:=237
abbrev E6:Nat:=238
abbrev E7:Nat:=239
abbrev Im:Nat:=240
abbrev p9:Nat:=241
abbrev Dr:Nat:=242
abbrev JZ:Nat:=243
abbrev cQ:Nat:=244
abbrev jg:Nat:=245
abbrev kg:Nat:=247
abbrev k9:Nat:=248
abbrev nF:Nat:=249
abbrev oY:Nat:=251
abbrev yu:Nat:=252
abbrev wC:Nat:=253
abbrev gI:Nat:=254
abbrev wD:Nat:=255
abbrev yw:Nat:=256
abbrev yx:Nat:=257
abbrev BO:Nat:=258
abbrev tS:Nat:=259
abbrev oZ:Nat:=260
abbrev pH:Nat:=261
abbrev lc:Nat:=262
abbrev wE:Nat:=263
abbrev nG:Nat:=264
abbrev Ah:Nat:=265
abbrev wF:Nat:=266
abbrev yy:Nat:=267
abbrev Ai:Nat:=268
abbrev lf:Nat:=269
abbrev qT:Nat:=270
abbrev vz:Nat:=271
abbrev yz:Nat:=272
abbrev yA:Nat:=273
abbrev kj:Nat:=274
abbrev vA:Nat:=275
abbrev lh:Nat:=276
abbrev mA:Nat:=277
abbrev o9:Nat:=278
abbrev qa:Nat:=280
abbrev Aj:Nat:=281
abbrev yB:Nat:=282
abbrev yC:Nat:=283
abbrev yD:Nat:=284
abbrev iw:Nat:=285
abbrev jh:Nat:=287
abbrev kq:Nat:=288
abbrev mB:Nat:=289
abbrev nH:Nat:=291
abbrev sO:Nat:=292
abbrev tT:Nat:=293
abbrev Ds:Nat:=294
abbrev BP:Nat:=295
abbrev vB:Nat:=296
abbrev vC:Nat:=297
abbrev wG:Nat:=298
abbrev rN:Nat:=299
abbrev yE:Nat:=300
abbrev Dt:Nat:=301
abbrev tU:Nat:=302
abbrev BQ:Nat:=303
abbrev kw:Nat:=304
abbrev vD:Nat:=305
abbrev li:Nat:=306
abbrev mC:Nat:=307
abbrev pe:Nat:=308
abbrev qd:Nat:=310
abbrev BR:Nat:=311
abbrev yF:Nat:=312
abbrev wH:Nat:=313
abbrev Io:Nat:=314
abbrev Ak:Nat:=315
abbrev yG:Nat:=316
abbrev Du:Nat:=317
abbrev Al:Nat:=318
abbrev yH:Nat:=319
abbrev J0:Nat:=320
abbrev BS:Nat:=321
abbrev vE:Nat:=322
abbrev J1:Nat:=323
abbrev BT:Nat:=324
abbrev vF:Nat:=325
abbrev Am:Nat:=326
abbrev nI:Nat:=327
abbrev An:Nat:=328
abbrev pg:Nat:=329
abbrev qe:Nat:=330
abbrev uZ:Nat:=332
abbrev BU:Nat:=333
abbrev BV:Nat:=334
abbrev BW:Nat:=335
abbrev BX:Nat:=336
abbrev nJ:Nat:=337
abbrev Ao:Nat:=338
abbrev ph:Nat:=339
abbrev qf:Nat:=340
abbrev sP:Nat:=341
abbrev u0:Nat:=343
abbrev wI:Nat:=344
abbrev sQ:Nat:=345
abbrev vG:Nat:=346
abbrev vH:Nat:=347
abbrev yI:Nat:=348
abbrev js:Nat:=351
abbrev sR:Nat:=352
abbrev u9:Nat:=353
abbrev sS:Nat:=354
abbrev sT:Nat:=355
def pj:Vc.Fn:=⟨3,[(.tmp 6)],
 (.seq (.ag [s1 3 (.box 23 (tt 0)),bL 6] [1,2,3]) (.seq (.seq (.ag [s1 15 (.call 15 []),s1 16 (.un .not (tt 15))] [1,2,3,16]) (.cond (tt 16) (.seq (.ag [bL 6] [6]) .ret) .skip)) (.seq (.seq (.ag [af 17 1,s1 18 (.bz (tt 17)),s1 19 (.aB .gtr .int (tt 18) (ki 40)),af 20 19,sg 20 false 21 (.kY 2 (tt 3)),sg 20 false 22 (kQ 24 21),sg 20 false 23 (.aB .neq .int (tt 22) (ki 0)),kP 24 20 23,af 25 24,bc 25 false 26 1,sg 25 false 27 (kQ 25 26),sg 25 false 28 (.un .not (tt 27)),kP 29 25 28,af 30 29,bc 30 false 31 2,sg 30 false 32 (.bz (tt 31)),bc 30 false 33 1,sg 30 false 34 (.bz (tt 33)),sg 30 false 35 (.aB .neq .int (tt 32) (tt 34)),kP 36 30 35] [1,2,3,36]) (.cond (tt 36) (.seq (.ag [pG 6] [6]) .ret) .skip)) (.seq (.ag [sI 38 2 3,af 39 1,s1 40 (aZ 14 38 39),af 37 40,aU 41 0 37,aU 42 1 37,af 7 41,af 8 42] [1,2,7,8]) (.seq (.ag [af 44 1,af 45 7,s1 46 (aZ 18 44 45),af 43 46,aU 47 0 43,aU 48 1 43,s1 9 (.zero 36 [(.int .i64 0),(.int .u64 0)]),s0 (.store 2 (tt 9) (tt 47)),af 10 48] [1,2,7,8,9,10]) (.seq (.seq (.ag [af 49 8,s1 50 (.aB .neq .int (tt 49) (ki 0)),af 51 50,bc 51 false 52 10,sg 51 false 53 (.un .not (tt 52)),kP 54 51 53,af 55 54,bc 55 false 56 1,bc 55 false 57 7,sg 55 false 58 (aZ 22 56 57),sg 55 false 59 (.un .not (tt 58)),kP 60 55 59,af 61 60,bc 61 false 62 7,sg 61 false 63 (.bz (tt 62)),sg 61 false 64 (.aB .gtr .int (tt 63) (ki 1)),bc 61 false 65 64,bc 65 true 66 7,sg 65 true 67 (kQ 20 66),sg 65 true 68 (.aB .neq .int (tt 67) (ki 0)),sg 61 false 69 (.pick (tt 65) (tt 68) (kb false)),kP 70 61 69] [1,2,9,70]) (.cond (tt 70) (.seq (.ag [bL 6] [6]) .ret) .skip)) (.seq (.seq (.ag [af 71 2,s1 72 (.bz (tt 71)),aS 73 0] [1,2,9,71,72,73]) (.cH 0 (.loop [1,2,9,71,72,73] (.seq (.ag [s1 74 (.aB .lss .int (tt 73) (tt 72))] [1,2,9,71,72,73,74]) (.seq (.cond (tt 74) .skip (.exit 0)) (.seq (.cH 1 (.seq (.ag [ba 75 1 71 73,ar 76 75,af 12 76] [1,2,9,12,71,72,73]) (.seq (.ag [af 77 12,s1 78 (.aB .lss .int (tt 77) (ki 1)),af 79 78,bc 79 false 80 12,sg 79 false 81 (.aB .gtr .int (tt 80) (ki 4096)),kP 82 79 81] [1,2,9,71,72,73,82]) (.cond (tt 82) (.seq (.ag [af 83 1,af 84 2,s1 85 (aZ 22 83 84),s1 86 (.un .not (tt 85)),af 6 86] [6]) .ret) .skip)))) (.ag [s1 87 (.aB .add .int (tt 73) (ki 1)),af 73 87] [1,2,9,71,72,73]))))))) (.seq (.seq (.ag [af 88 2,s1 89 (kQ 21 88),s1 90 (.aB .gtr .int (tt 89) (ki 0))] [1,2,9,90]) (.cond (tt 90) (.seq (.ag [af 91 1,af 92 2,s1 93 (aZ 22 91 92),s1 94 (.un .not (tt 93)),af 6 94] [6]) .ret) .skip)) (.seq (.ag [af 96 1,af 97 2,s1 98 (aZ 18 96 97),af 95 98,aU 99 0 95,aU 100 1 95,s1 13 (.zero 36 [(.int .i64 0),(.int .u64 0)]),s0 (.store 2 (tt 13) (tt 99)),af 14 100] [1,2,9,13,14]) (.seq (.qU (.aW (af 101 14) (.aW (af 102 101) (.aP (sg 102 true 103 (.kY 2 (tt 9))) (.aP (sg 102 true 104 (.kY 2 (tt 13))) (.aP (sg 102 true 105 (aZ 26 103 104)) (.aW (sg 102 true 106 (.aB .leq .int (tt 105) (ki 0))) (.aW (pV 107 102 106) (.aW (af 108 107) (.aW (bc 108 true 109 1) (.aW (bc 108 true 110 2) (.E8 (sqg 108 true 112 (.kY 2 (tt 9))) (.E8 (sqg 108 true 113 (.kY 2 (tt 13))) (.aW (sg 108 true 114 (.aB .eql (.s [(0,(none,.int)),(1,(none,.int))]) (tt 112) (tt 113))) (.aP (sg 108 true 111 (aZ 22 109 110)) (.aW (sg 108 true 115 (.aB .eql .bool (tt 111) (tt 114))) (.aW (pV 116 108 115) (.aW (af 6 116) .done))) .stop))))))))) .stop) .stop) (.aP (sg 102 true 104 (.kY 2 (tt 13))) (.aP (sg 102 true 103 (.kY 2 (tt 9))) (.aP (sg 102 true 105 (aZ 26 103 104)) (.aW (sg 102 true 106 (.aB .leq .int (tt 105) (ki 0))) (.aW (pV 107 102 106) (.aW (af 108 107) (.aW (bc 108 true 109 1) (.aW (bc 108 true 110 2) (.E8 (sqg 108 true 112 (.kY 2 (tt 9))) (.E8 (sqg 108 true 113 (.kY 2 (tt 13))) (.aW (sg 108 true 114 (.aB .eql (.s [(0,(none,.int)),(1,(none,.int))]) (tt 112) (tt 113))) (.aP (sg 108 true 111 (aZ 22 109 110)) (.aW (sg 108 true 115 (.aB .eql .bool (tt 111) (tt 114))) (.aW (pV 116 108 115) (.aW (af 6 116) .done))) .stop))))))))) .stop) .stop) .stop)))) [6]) .ret))))))))))⟩
theorem yJ:gG Tryz.prog 7 [([1,2,3],[],[]),([1,2,3,16],[],[]),([6],[],[]),([1,2,3,36],[],[]),([6],[],[]),([1,2,7,8],[],[]),([1,2,7,8,9,10],[],[]),([1,2,9,70],[],[]),([6],[],[]),([1,2,9,71,72,73],[],[]),([1,2,9,71,72,73],[],[]),([1,2,9,71,72,73,74],[],[]),([1,2,9,12,71,72,73],[],[]),([1,2,9,71,72,73,82],[],[]),([6],[],[]),([1,2,9,71,72,73],[],[]),([1,2,9,90],[],[]),([6],[],[]),([1,2,9,13,14],[],[]),([6],[11,12],[1,0,1,1,2,2,2,3,2,4,1,5,1,6,1,7,1,8,1,9,1,11,1,12,1,13,2,10,1,14,1,15,1,16,0,3,3,3,2,3,2,2,2,4,1,5,1,6,1,7,1,8,1,9,1,11,1,12,1,13,2,10,1,14,1,15,1,16,0,3,3,3,3])]=some pj:=by kernel_rfl
def lj:Vc.Fn:=⟨2,[(.tmp 4),(.tmp 5)],
 (.seq (.ag [s1 2 (.box 23 (tt 0)),s1 4 (.dk (.const (.slice none 0 0))),aS 5 0] [1,2]) (.seq (.seq (.ag [sI 13 2 2,s1 14 (kQ 51 13),af 6 14] [1,2,6]) (.seq (.ag [af 15 6,s1 16 (.aB .neq .int (tt 15) (ki 0))] [1,2,6,16]) (.cond (tt 16) (.seq (.ag [af 17 6,s1 4 (.dk (.const (.slice none 0 0))),af 5 17] [4,5]) .ret) .skip))) (.seq (.seq (.ag [af 18 1,s1 19 (kQ 52 18),s1 20 (.un .not (tt 19))] [1,2,20]) (.cond (tt 20) (.seq (.ag [s1 4 (.dk (.const (.slice none 0 0))),aS 5 201] [4,5]) .ret) .skip)) (.seq (.ag [af 21 1,s1 22 (.bz (tt 21)),af 7 22] [1,2,7]) (.seq (.seq (.ag [af 23 7,s1 24 (.aB .eql .int (tt 23) (ki 1))] [1,2,7,24]) (.cond (tt 24) (.seq (.ag [s1 25 (.lit 3 1 [(.int .i64 0)] [(0,(1,(ki 1)))]),af 4 25,aS 5 0] [4,5]) .ret) .skip)) (.seq (.ag [sI 27 2 2,af 28 7,s1 29 (.call 53 [(tt 27),(tt 28),(.const (.int .u32 4294967295))]),af 26 29,aU 30 0 26,aU 31 1 26,af 8 30,af 9 31] [1,7,8,9]) (.seq (.seq (.ag [af 32 9,s1 33 (.aB .neq .int (tt 32) (ki 0))] [1,7,8,9,33]) (.cond (tt 33) (.seq (.ag [af 34 9,s1 4 (.dk (.const (.slice none 0 0))),af 5 34] [4,5]) .ret) .skip)) (.seq (.ag [af 35 8,af 36 1,s1 37 (aZ 54 35 36),af 10 37] [7,10]) (.seq (.ag [af 38 10,s1 39 (.bz (tt 38)),s1 40 (.makeSlice 3 8 1 [(.int .i64 0)] (tt 39) (tt 39)),af 11 40] [7,10,11]) (.seq (.seq (.ag [af 41 10,s1 42 (.bz (tt 41)),s1 43 (.aB .sub .int (tt 42) (ki 2)),af 12 43] [7,10,11,12]) (.cH 0 (.loop [7,10,11,12] (.seq (.seq (.ag [af 44 12,s1 45 (.aB .geq .int (tt 44) (ki 0))] [7,10,11,12,45]) (.cond (tt 45) .skip (.exit 0))) (.seq (.cH 1 (.ag [af 48 11,af 49 12,af 50 11,af 51 10,af 52 12,ba 53 1 51 52,ar 54 53,ba 55 1 50 54,ar 56 55,s1 57 (.aB .add .int (tt 56) (ki 1)),ba 58 1 48 49,s0 (.store 1 (tt 58) (tt 57))] [7,10,11,12])) (.ag [af 46 12,s1 47 (.aB .sub .int (tt 46) (ki 1)),af 12 47] [7,10,11,12])))))) (.seq (.ag [af 59 11,af 60 7,af 61 7,s1 62 (.slice 1 (tt 59) none (some (tt 60)) (some (tt 61))),af 4 62,aS 5 0] [4,5]) .ret)))))))))))⟩
theorem BY:dq Tryz.prog 14 lj=some lj:=by kernel_rfl
def gJ:Vc.Fn:=⟨0,[(.tmp 0)],
 (.seq (.ag [bL 0] []) (.seq (.ag [s1 4 (.build [(.int .i64 0),(.int .i64 0)] [(0,(1,(ki 5)))]),s1 5 (.lit 2 3 [(.int .i64 0),(.int .i64 0),(.int .i64 0)] [(0,(1,(ki 1))),(1,(1,(ki 1))),(2,(1,(ki 2)))]),s1 6 (aZ 14 4 5),af 3 6,aU 7 0 3,aU 8 1 3,af 1 7,af 2 8] [1,2]) (.seq (.ag [af 9 2,s1 10 (.aB .eql .int (tt 9) (ki 0)),af 11 10,bc 11 true 12 1,sg 11 true 13 (.lit 3 3 [(.int .i64 0),(.int .i64 0),(.int .i64 0)] [(0,(1,(ki 2))),(1,(1,(ki 2))),(2,(1,(ki 1)))]),sg 11 true 14 (aZ 16 12 13),pV 15 11 14,af 16 15,bc 16 true 17 1,sg 16 true 18 (kQ 20 17),sg 16 true 19 (.aB .eql .int (tt 18) (ki 0)),pV 20 16 19,af 21 20,sg 21 true 22 (.lit 2 3 [(.int .i64 0),(.int .i64 0),(.int .i64 0)] [(0,(1,(ki 1))),(1,(1,(ki 1))),(2,(1,(ki 2)))]),bc 21 true 23 1,sg 21 true 24 (aZ 22 22 23),pV 25 21 24,af 0 25] [0]) .ret)))⟩
theorem wJ:dq Tryz.prog 15 gJ=some gJ:=by kernel_rfl
def tV:Vc.Fn:=⟨2,[(.tmp 4)],
 (.seq (.ag [bL 4] [0,1]) (.seq (.seq (.ag [af 6 0,s1 7 (.bz (tt 6)),af 8 1,s1 9 (.bz (tt 8)),s1 10 (.aB .neq .int (tt 7) (tt 9))] [0,1,10]) (.cond (tt 10) (.seq (.ag [bL 4] [4]) .ret) .skip)) (.seq (.seq (.ag [af 11 0,s1 12 (.bz (tt 11)),aS 13 0] [0,1,12,13]) (.cH 0 (.loop [0,1,12,13] (.seq (.ag [s1 14 (.aB .lss .int (tt 13) (tt 12))] [0,1,12,13,14]) (.seq (.cond (tt 14) .skip (.exit 0)) (.seq (.cH 1 (.seq (.ag [af 15 13,af 5 15] [0,1,5,12,13]) (.seq (.ag [af 16 0,af 17 5,ba 18 1 16 17,ar 19 18,af 20 1,af 21 5,ba 22 1 20 21,ar 23 22,s1 24 (.aB .neq .int (tt 19) (tt 23))] [0,1,12,13,24]) (.cond (tt 24) (.seq (.ag [bL 4] [4]) .ret) .skip)))) (.ag [s1 25 (.aB .add .int (tt 13) (ki 1)),af 13 25] [0,1,12,13]))))))) (.seq (.ag [pG 4] [4]) .ret))))⟩
theorem J2:dq Tryz.prog 16 tV=some tV:=by kernel_rfl
def qh:Vc.Fn:=⟨2,[(.agg 4 2),(.tmp 5)],
 (.seq (.ag [s1 4 (.zero 36 [(.int .i64 0),(.int .u64 0)]),bL 5] [0,1,4]) (.seq (.seq (.ag [af 13 0,s1 14 (.bz (tt 13)),af 15 1,s1 16 (.bz (tt 15)),s1 17 (.aB .neq .int (tt 14) (tt 16)),af 18 17,bc 18 false 19 0,sg 18 false 20 (.bz (tt 19)),sg 18 false 21 (.aB .gtr .int (tt 20) (ki 4096)),kP 22 18 21] [0,1,4,22]) (.cond (tt 22) (.seq (.ag [s1 23 (.build [(.int .i64 0),(.int .u64 0)] []),s0 (.store 2 (tt 4) (tt 23)),bL 5] [4,5]) .ret) .skip)) (.seq (.ag [s1 6 (.zero 36 [(.int .i64 0),(.int .u64 0)])] [0,1,4,6]) (.seq (.seq (.ag [af 24 0,s1 25 (.bz (tt 24)),aS 26 0] [1,4,6,24,25,26]) (.cH 0 (.loop [1,4,6,24,25,26] (.seq (.ag [s1 27 (.aB .lss .int (tt 26) (tt 25))] [1,4,6,24,25,26,27]) (.seq (.cond (tt 27) .skip (.exit 0)) (.seq (.cH 1 (.seq (.ag [af 28 26,ba 29 1 24 26,ar 30 29,af 7 28,af 8 30] [1,4,6,7,8,24,25,26]) (.seq (.seq (.ag [af 31 8,s1 32 (.aB .lss .int (tt 31) (ki 1)),af 33 32,bc 33 false 34 1,bc 33 false 35 7,sg 33 false 36 (.indexAddr 1 (tt 34) (tt 35)),kX 33 false 37 36,sg 33 false 38 (.aB .lss .int (tt 37) (ki 0)),kP 39 33 38,af 40 39,bc 40 false 41 1,bc 40 false 42 7,sg 40 false 43 (.indexAddr 1 (tt 41) (tt 42)),kX 40 false 44 43,sg 40 false 45 (.aB .gtr .int (tt 44) (ki 4096)),kP 46 40 45] [1,4,6,7,8,24,25,26,46]) (.cond (tt 46) (.seq (.ag [s1 47 (.build [(.int .i64 0),(.int .u64 0)] []),s0 (.store 2 (tt 4) (tt 47)),bL 5] [4,5]) .ret) .skip)) (.seq (.ag [af 49 8,s1 50 (.conv .u64 (tt 49)),af 51 1,af 52 7,ba 53 1 51 52,ar 54 53,s1 55 (.conv .u64 (tt 54)),s1 56 (aZ 57 50 55),af 48 56,aU 57 0 48,aU 58 1 48,af 9 57,af 10 58] [1,4,6,9,10,24,25,26]) (.seq (.ag [az 60 1 6,ar 61 60,af 62 10,s1 63 (.ext 58 [(tt 61),(tt 62),(.const (.int .u64 0))]),af 59 63,aU 64 0 59,aU 65 1 59,af 11 64,af 12 65] [1,4,6,9,11,12,24,25,26]) (.ag [az 66 0 6,ar 67 66,af 68 9,af 69 12,s1 70 (.aB .add .int (tt 68) (tt 69)),s1 71 (.conv .i64 (tt 70)),s1 72 (.aB .add .int (tt 67) (tt 71)),af 73 11,s1 74 (.build [(.int .i64 0),(.int .u64 0)] [(0,(1,(tt 72))),(1,(1,(tt 73)))]),s0 (.store 2 (tt 6) (tt 74))] [1,4,6,24,25,26])))))) (.ag [s1 75 (.aB .add .int (tt 26) (ki 1)),af 26 75] [1,4,6,24,25,26]))))))) (.seq (.ag [sI 76 2 6,s0 (.store 2 (tt 4) (tt 76)),pG 5] [4,5]) .ret)))))⟩
theorem Gn:dq Tryz.prog 18 qh=some qh:=by kernel_rfl
def ot:Vc.Fn:=⟨1,[(.tmp 2)],
 (.seq (.ag [aS 2 0] [0]) (.seq (.ag [af 9 0,s1 10 (kQ 61 9),af 3 10] [3]) (.seq (.seq (.ag [af 11 3,s1 12 (.bz (tt 11)),aS 13 0] [3,12,13]) (.cH 0 (.loop [3,12,13] (.seq (.ag [s1 14 (.aB .lss .int (tt 13) (tt 12))] [3,12,13,14]) (.seq (.cond (tt 14) .skip (.exit 0)) (.seq (.cH 1 (.seq (.ag [af 15 13,af 4 15] [3,4,12,13]) (.ag [af 16 3,af 17 4,af 18 3,af 19 4,ba 20 1 18 19,ar 21 20,s1 22 (.Ip [(tt 21),(ki 1)]),ba 23 1 16 17,s0 (.store 1 (tt 23) (tt 22))] [3,12,13]))) (.ag [s1 24 (.aB .add .int (tt 13) (ki 1)),af 13 24] [3,12,13]))))))) (.seq (.ag [af 25 3,s1 26 (kQ 62 25)] [3]) (.seq (.ag [aS 5 1,aS 6 0] [3,5,6]) (.seq (.seq (.ag [af 27 3,s1 28 (.bz (tt 27)),aS 29 0] [3,5,6,27,28,29]) (.cH 2 (.loop [3,5,6,27,28,29] (.seq (.ag [s1 30 (.aB .lss .int (tt 29) (tt 28))] [3,5,6,27,28,29,30]) (.seq (.cond (tt 30) .skip (.exit 2)) (.seq (.cH 3 (.seq (.ag [ba 31 1 27 29,ar 32 31,af 8 32] [3,5,6,8,27,28,29]) (.seq (.cH 4 (.loop [3,5,6,8,27,28,29] (.seq (.seq (.ag [af 33 6,af 34 8,s1 35 (.aB .lss .int (tt 33) (tt 34)),af 36 35,bc 36 true 37 5,sg 36 true 38 (.aB .gtr .int (tt 37) (ki 0)),pV 39 36 38,af 40 39,bc 40 true 41 5,bc 40 true 42 3,sg 40 true 43 (.bz (tt 42)),sg 40 true 44 (.aB .leq .int (tt 41) (tt 43)),pV 45 40 44] [3,5,6,8,27,28,29,45]) (.cond (tt 45) .skip (.exit 4))) (.seq (.cH 5 (.ag [af 48 5,s1 49 (.aB .mul .int (tt 48) (ki 2)),af 5 49] [3,5,6,8,27,28,29])) (.ag [af 46 6,s1 47 (.aB .add .int (tt 46) (ki 1)),af 6 47] [3,5,6,8,27,28,29]))))) (.seq (.ag [af 50 8,af 6 50] [3,5,6,27,28,29]) (.seq (.seq (.ag [af 51 5,s1 52 (.aB .eql .int (tt 51) (ki 0))] [3,5,6,27,28,29,52]) (.cond (tt 52) (.seq (.ag [aS 2 1] [2]) .ret) .skip)) (.ag [af 53 5,s1 54 (.aB .sub .int (tt 53) (ki 1)),af 5 54] [3,5,6,27,28,29])))))) (.ag [s1 55 (.aB .add .int (tt 29) (ki 1)),af 29 55] [3,5,6,27,28,29]))))))) (.seq (.seq (.ag [af 56 5,s1 57 (.aB .eql .int (tt 56) (ki 0))] [57]) (.cond (tt 57) (.seq (.ag [aS 2 0] [2]) .ret) .skip)) (.seq (.ag [s1 2 (.dk (ki (-1)))] [2]) .ret))))))))⟩
theorem E9:dq Tryz.prog 20 ot=some ot:=by kernel_rfl
def rO:Vc.Fn:=⟨1,[(.tmp 2)],
 (.seq (.ag [aS 2 0] [0]) (.seq (.ag [aS 3 0] [0,3]) (.seq (.ag [bL 4] [0,3,4]) (.seq (.ag [aS 5 0] [0,3,4,5]) (.seq (.seq (.ag [af 11 0,s1 12 (.bz (tt 11)),aS 13 0] [0,3,4,5,11,12,13]) (.cH 0 (.loop [0,3,4,5,11,12,13] (.seq (.ag [s1 14 (.aB .lss .int (tt 13) (tt 12))] [0,3,4,5,11,12,13,14]) (.seq (.cond (tt 14) .skip (.exit 0)) (.seq (.cH 1 (.seq (.ag [ba 15 1 11 13,ar 16 15,af 7 16] [0,3,4,5,7,11,12,13]) (.ag [af 17 5,af 18 7,s1 19 (.Ip [(tt 17),(tt 18),(ki 1)]),af 5 19] [0,3,4,5,11,12,13]))) (.ag [s1 20 (.aB .add .int (tt 13) (ki 1)),af 13 20] [0,3,4,5,11,12,13]))))))) (.seq (.cH 2 (.loop [0,3,4,5] (.seq (.seq (.ag [af 21 5,s1 22 (.aB .gtr .int (tt 21) (ki 0))] [0,3,4,5,22]) (.cond (tt 22) .skip (.exit 2))) (.cH 3 (.seq (.ag [aS 8 0] [0,3,4,5,8]) (.seq (.seq (.ag [af 23 0,s1 24 (.bz (tt 23)),aS 25 0] [0,3,4,5,8,23,24,25]) (.cH 4 (.loop [0,3,4,5,8,23,24,25] (.seq (.ag [s1 26 (.aB .lss .int (tt 25) (tt 24))] [0,3,4,5,8,23,24,25,26]) (.seq (.cond (tt 26) .skip (.exit 4)) (.seq (.cH 5 (.seq (.ag [ba 27 1 23 25,ar 28 27,af 10 28] [0,3,4,5,8,10,23,24,25]) (.seq (.seq (.ag [af 29 10,s1 30 (.Ip [(tt 29),(ki 1)]),af 31 5,s1 32 (.aB .eql .int (tt 30) (tt 31))] [0,3,4,5,8,10,23,24,25,32]) (.cond (tt 32) (.ag [af 33 3,s1 34 (.aB .add .int (tt 33) (ki 1)),af 3 34] [0,3,4,5,8,10,23,24,25]) .skip)) (.seq (.ag [af 35 10,s1 36 (.Ip [(tt 35),(ki 1)]),af 37 5,s1 38 (.aB .lss .int (tt 36) (tt 37))] [0,3,4,5,8,10,23,24,25,38]) (.cond (tt 38) (.ag [af 39 8,af 40 10,s1 41 (.Ip [(tt 39),(tt 40),(ki 1)]),af 8 41] [0,3,4,5,8,23,24,25]) .skip))))) (.ag [s1 42 (.aB .add .int (tt 25) (ki 1)),af 25 42] [0,3,4,5,8,23,24,25]))))))) (.seq (.cH 6 (.loop [0,3,4,5,8] (.seq (.seq (.ag [af 43 5,af 44 8,s1 45 (.aB .gtr .int (tt 43) (tt 44)),af 46 45,bc 46 true 47 3,sg 46 true 48 (.aB .gtr .int (tt 47) (ki 0)),pV 49 46 48] [0,3,4,5,8,49]) (.cond (tt 49) .skip (.exit 6))) (.cH 7 (.seq (.ag [af 50 4,af 51 50,bc 51 false 52 3,sg 51 false 53 (.aB .rem .int (tt 52) (ki 2)),sg 51 false 54 (.aB .eql .int (tt 53) (ki 1)),kP 55 51 54,af 4 55] [0,3,4,5,8]) (.seq (.ag [af 56 3,s1 57 (.aB .quo .int (tt 56) (ki 2)),af 3 57] [0,3,4,5,8]) (.ag [af 58 5,s1 59 (.aB .sub .int (tt 58) (ki 1)),af 5 59] [0,3,4,5,8]))))))) (.ag [af 60 8,af 5 60] [0,3,4,5])))))))) (.seq (.seq (.ag [af 61 3,s1 62 (.aB .gtr .int (tt 61) (ki 1)),af 63 62,bc 63 false 64 3,sg 63 false 65 (.aB .eql .int (tt 64) (ki 1)),bc 63 false 66 65,bc 66 true 67 4,sg 63 false 68 (.pick (tt 66) (tt 67) (kb false)),kP 69 63 68] [3,69]) (.cond (tt 69) (.seq (.ag [aS 2 1] [2]) .ret) .skip)) (.seq (.seq (.ag [af 70 3,s1 71 (.aB .eql .int (tt 70) (ki 1))] [71]) (.cond (tt 71) (.seq (.ag [aS 2 0] [2]) .ret) .skip)) (.seq (.ag [s1 2 (.dk (ki (-1)))] [2]) .ret)))))))))⟩
theorem Iq:dq Tryz.prog 21 rO=some rO:=by kernel_rfl
def ou:Vc.Fn:=⟨2,[(.tmp 4)],
 (.seq (.ag [bL 4] [0,1]) (.seq (.seq (.ag [af 11 0,s1 12 (kQ 52 11),s1 13 (.un .not (tt 12)),af 14 13,bc 14 false 15 0,sg 14 false 16 (.bz (tt 15)),bc 14 false 17 1,sg 14 false 18 (.bz (tt 17)),sg 14 false 19 (.aB .neq .int (tt 16) (tt 18)),kP 20 14 19,af 21 20,bc 21 false 22 1,sg 21 false 23 (.call 63 [(tt 22),(.func 64)]),kP 24 21 23,af 25 24,bc 25 false 26 1,sg 25 false 27 (kQ 20 26),sg 25 false 28 (.aB .gtr .int (tt 27) (ki 0)),kP 29 25 28] [0,1,29]) (.cond (tt 29) (.seq (.ag [bL 4] [4]) .ret) .skip)) (.seq (.ag [s1 31 (.build [(.int .i64 0),(.int .i64 0)] [(0,(1,(ki 1)))]),af 32 0,s1 33 (aZ 14 31 32),af 30 33,aU 34 0 30,aU 35 1 30,af 5 34,af 6 35] [0,1,5,6]) (.seq (.ag [af 37 0,af 38 1,s1 39 (aZ 18 37 38),af 36 39,aU 40 0 36,aU 41 1 36,s1 7 (.zero 36 [(.int .i64 0),(.int .u64 0)]),s0 (.store 2 (tt 7) (tt 40)),af 8 41] [0,5,6,7,8]) (.seq (.ag [af 43 0,af 44 5,s1 45 (aZ 18 43 44),af 42 45,aU 46 0 42,aU 47 1 42,s1 9 (.zero 36 [(.int .i64 0),(.int .u64 0)]),s0 (.store 2 (tt 9) (tt 46)),af 10 47] [6,7,8,9,10]) (.seq (.ag [af 48 6,s1 49 (.aB .eql .int (tt 48) (ki 0)),af 50 49,bc 50 true 51 8,pV 52 50 51,af 53 52,bc 53 true 54 10,pV 55 53 54,af 56 55,sg 56 true 57 (.kY 2 (tt 7)),sg 56 true 58 (.kY 2 (tt 9)),sg 56 true 59 (.aB .eql (.s [(0,(none,.int)),(1,(none,.int))]) (tt 57) (tt 58)),pV 60 56 59,af 4 60] [4]) .ret))))))⟩
theorem Fa:dq Tryz.prog 22 ou=some ou:=by kernel_rfl
def rP:Vc.Fn:=⟨1,[(.tmp 2)],
 (.seq (.ag [s1 1 (.box 23 (tt 0)),aS 2 0] [1]) (.seq (.seq (.ag [az 3 0 1,ar 4 3,s1 5 (.aB .lss .int (tt 4) (ki 1)),af 6 5,ry 6 false 7 0 1,kX 6 false 8 7,sg 6 false 9 (.aB .gtr .int (tt 8) (ki 8)),kP 10 6 9] [1,10]) (.cond (tt 10) (.seq (.ag [aS 2 21] [2]) .ret) .skip)) (.seq (.seq (.ag [az 11 0 1,ar 12 11,s1 13 (.aB .eql .int (tt 12) (ki 2)),af 14 13,ry 14 true 15 1 1,kX 14 true 16 15,sg 14 true 17 (.aB .geq .int (tt 16) (ki 2)),pV 18 14 17,af 19 18,ry 19 true 20 1 1,kX 19 true 21 20,sg 19 true 22 (.aB .leq .int (tt 21) (ki 16)),pV 23 19 22,af 24 23,ry 24 false 25 0 1,kX 24 false 26 25,sg 24 false 27 (.aB .neq .int (tt 26) (ki 2)),bc 24 false 28 27,ry 28 true 29 1 1,kX 28 true 30 29,sg 28 true 31 (.aB .eql .int (tt 30) (ki 0)),sg 24 false 32 (.pick (tt 28) (tt 31) (kb false)),kP 33 24 32] [33]) (.cond (tt 33) (.seq (.ag [aS 2 0] [2]) .ret) .skip)) (.seq (.ag [aS 2 22] [2]) .ret))))⟩
theorem Ir:dq Tryz.prog 24 rP=some rP:=by kernel_rfl
def rQ:Vc.Fn:=⟨1,[(.tmp 2)],
 (.seq (.ag [bL 2] [0]) (.seq (.ag [aS 3 9223372036854775807] [0,3]) (.seq (.seq (.ag [af 6 0,s1 7 (.bz (tt 6)),aS 8 0] [0,3,6,7,8]) (.cH 0 (.loop [0,3,6,7,8] (.seq (.ag [s1 9 (.aB .lss .int (tt 8) (tt 7))] [0,3,6,7,8,9]) (.seq (.cond (tt 9) .skip (.exit 0)) (.seq (.cH 1 (.seq (.ag [ba 10 1 6 8,ar 11 10,af 5 11] [0,3,5,6,7,8]) (.seq (.seq (.ag [af 12 5,s1 13 (.aB .lss .int (tt 12) (ki 1)),af 14 13,bc 14 false 15 5,bc 14 false 16 3,sg 14 false 17 (.aB .gtr .int (tt 15) (tt 16)),kP 18 14 17] [0,3,5,6,7,8,18]) (.cond (tt 18) (.seq (.ag [bL 2] [2]) .ret) .skip)) (.ag [af 19 3,af 20 5,s1 21 (.aB .sub .int (tt 19) (tt 20)),af 3 21] [0,3,6,7,8])))) (.ag [s1 22 (.aB .add .int (tt 8) (ki 1)),af 8 22] [0,3,6,7,8]))))))) (.seq (.ag [af 23 0,s1 24 (.bz (tt 23)),s1 25 (.aB .geq .int (tt 24) (ki 1)),af 26 25,bc 26 true 27 0,sg 26 true 28 (.bz (tt 27)),sg 26 true 29 (.aB .leq .int (tt 28) (ki 4096)),pV 30 26 29,af 2 30] [2]) .ret))))⟩
theorem Is:dq Tryz.prog 25 rQ=some rQ:=by kernel_rfl
def oz:Vc.Fn:=⟨2,[(.tmp 4)],
 (.seq (.ag [s1 2 (.box 36 (tt 0)),s1 3 (.box 36 (tt 1)),aS 4 0] [2,3]) (.seq (.ag [az 5 0 2,ar 6 5,az 7 0 3,ar 8 7,sq 9 (aZ 66 6 8),az 10 1 2,ar 11 10,az 12 1 3,ar 13 12,s1 14 (aZ 67 11 13),s1 15 (.lit 3 2 [(.int .i64 0),(.int .i64 0)] [(0,(1,(tt 9))),(1,(1,(tt 14)))]),s1 16 (kQ 65 15),af 4 16] [4]) .ret))⟩
theorem Fb:dq Tryz.prog 26 oz=some oz:=by kernel_rfl
end Go.Proofs.YtjlnnljohemifaaGreat
